/- What loop.Find does: up to eight machines, up to twelve addresses. -/
import Derived.Test.YtdholfagmlablaaT13
import Derived.Test.YtdholfagmlablaaSxN
namespace Go.Proofs.Ytdholfagmlablaa
open Go.Sx Go.Proofs

def badF (fs : List (List Ent)) (n : Nat) (a : Int) (k : Nat) : Bool := !(walkF fs a (n + 1) [] k).2.2
/-- The first address, and from where, that comes to a machine twice. -/
def findF (fs : List (List Ent)) (n : Nat) : List Int → Option (Nat × Int)
  | [] => none
  | a :: l => match (List.range n).find? (fun k => badF fs n a k) with
    | some k => some (k, a)
    | none => findF fs n l
theorem dedup_len (xs : List Int) : (dedupF xs).length ≤ xs.length := by
  have key : ∀ (xs R : List Int), (xs.foldl dd R).length ≤ R.length + xs.length := by
    intro xs
    induction xs with
    | nil => intro R; simp
    | cons x xs ih =>
      intro R
      have := ih (dd R x)
      have h2 : (dd R x).length ≤ R.length + 1 := by unfold dd; split <;> simp
      rw [List.foldl_cons, List.length_cons]; omega
  have := key xs []
  simpa [dedupF] using this
def findV : Option (Nat × Int) → Value
  | some (k, a) => .tuple #[.int .i64 k, .int .u32 a, .bool true]
  | none => .tuple #[.int .i64 0, .int .u32 0, .bool false]

set_option maxRecDepth 100000 in
set_option maxHeartbeats 4000000 in
theorem find_spec (A : Option Addr) (n : Nat) (hn : n ≤ 8) (rs : List Row) (hrs : rs.length = n) (hes : ∀ r ∈ rs, r.es.length ≤ 40) (hl : ∀ r ∈ rs, ∀ e ∈ r.es, 0 ≤ e.p.l) (h12 : (addrsE (rs.flatMap Row.es)).length ≤ 12) :
    CallSpec Try.prog 36 [.slice A n n] [] [outerC A n rs, inC rs] (fun v cs => v = findV (findF (rs.map Row.es) n (addrsF (rs.flatMap Row.es))) ∧ cs = []) := by
  refine CallSpec.of [.v (.slice A n n)] [] (by kernel_rfl) (by kernel_rfl) (by kernel_rfl) (by kernel_rfl) fun w0 => ?_
  refine SG.run 13 fun ν0 => ?_
  refine SG.pack ?_; intro q1
  refine SG.call [] [] [0, 1] (addresses_walk A n hn rs hrs hes hl h12) (by kernel_rfl) (by kernel_rfl) (by kernel_rfl) (by kernel_rfl) (by kernel_rfl) (by kernel_rfl) (by kernel_rfl) ?_
  rintro v1 cs1 ⟨B3, cap2, rfl, rfl⟩
  have hL : (addrsF (rs.flatMap Row.es)).length ≤ 12 := Nat.le_trans (dedup_len _) (by rw [insort_len]; exact h12)
  generalize addrsF (rs.flatMap Row.es) = L at hL ⊢
  refine SG.pack ?_; intro q1
  refine SG.run 4 fun ν4 => ?_
  refine SG.loopI (fun σ (i : Nat) => { σ with t := (14, .v (.int .i64 i)) :: keepT σ [0, 2, 3, 4, 12, 13], h := keepH σ [0], n := 1 }) (fun i => i ≤ L.length ∧ findF (rs.map Row.es) n (L.drop i) = findF (rs.map Row.es) n L) (fun i => L.length - i) (by kernel_rfl) 0 ⟨by omega, by simp⟩ (by kernel_rfl) (by kernel_rfl) (by kernel_rfl) ?_
  rintro i ⟨hi, hf⟩ ih
  refine SG.pack ?_; intro q5
  refine SG.cases (decide ((i : Int) < (L.length : Int))) (fun hb6 => ?_) (fun hb6 => ?_)
  · have h6 := of_decide_eq_true hb6
    have hlu : (u32s L).length = L.length := by rw [u32s, List.length_map]
    refine Exists.elim (show ∃ a, L[i]? = some a from ⟨_, List.getElem?_eq_getElem (by omega)⟩) fun a ha => ?_
    refine SG.run 5 fun ν10 => ?_
    refine SG.dec 15 (decide ((↑i : Int) < (↑(List.length L) : Int))) true (by first | assumption | (simp only [decide_eq_true_eq]; omega) | (simp; done) | (simp; omega)) (by kernel_rfl) ?_
    refine SG.run 6 fun ν11 => ?_
    refine SG.pack ?_; intro q12
    refine SG.el (rowC 23 1 B3 cap2 (u32s L)) (Has.at' 0 (by kernel_rfl)) (B3) (List.length L) (cap2) IntKind.i64 (i) 1 (u32s L) ([Value.int IntKind.u32 a]) (fun w hw => seq_row hw) (by first | assumption | exact List.length_map _ | (show (List.map _ _).length = _; rw [List.length_map]; first | assumption | omega | (simp; omega)) | (simp only [List.length_set, List.length_append, List.length_cons, List.length_nil]; first | assumption | omega) | rfl | (simp; done) | (simp; omega) | (simp [*]; done)) (map_get ha) (by kernel_rfl) (fun v => by kernel_rfl) fun u12 => ?_
    refine SG.run 10 fun ν13 => ?_
    refine SG.loopI (fun σ (k : Nat) => { σ with t := (20, .v (.int .i64 k)) :: keepT σ [0, 2, 3, 4, 6, 12, 13, 14, 18, 19], h := keepH σ [0], n := 1 }) (fun k => k ≤ n ∧ ∀ j, j < k → badF (rs.map Row.es) n a j = false) (fun k => n - k) (by kernel_rfl) 0 ⟨by omega, fun j hj => by omega⟩ (by kernel_rfl) (by kernel_rfl) (by kernel_rfl) ?_
    rintro k ⟨hk, hgood⟩ ih2
    have hcons : L.drop i = a :: L.drop (i + 1) := by
      have := list_part ha
      have e : L.drop i = (L.take i ++ a :: L.drop (i + 1)).drop i := by rw [← this]
      rw [e, List.drop_append_of_le_length (by rw [List.length_take]; omega), List.drop_of_length_le (by rw [List.length_take]; omega), List.nil_append]
    refine SG.pack ?_; intro q20
    refine SG.cases (decide ((k : Int) < (n : Int))) (fun hb7 => ?_) (fun hb7 => ?_)
    · have h7 := of_decide_eq_true hb7
      refine SG.cases (badF (rs.map Row.es) n a k) (fun hbad => ?_) (fun hbad => ?_)
      · have hok : (walkF (rs.map Row.es) a (n + 1) [] k).2.2 = false := by simpa [badF] using hbad
        refine SG.run 5 fun ν30 => ?_
        refine SG.dec 21 (decide ((↑k : Int) < (↑n : Int))) true (by first | assumption | (simp only [decide_eq_true_eq]; omega) | (simp; done) | (simp; omega)) (by kernel_rfl) ?_
        refine SG.run 15 fun ν31 => ?_
        refine SG.pack ?_; intro q32
        refine SG.call [] [] [0, 1] (walk_spec (A) (n) (by first | assumption | omega | (simp; done) | (simp; omega) | simp [*] | (simp [*]; omega)) (rs) (by first | assumption | omega | (simp; done) | (simp; omega) | simp [*] | (simp [*]; omega)) (by first | assumption | omega | (simp; done) | (simp; omega) | simp [*] | (simp [*]; omega)) ((↑k : Int)) (a)) (by kernel_rfl) (by kernel_rfl) (by kernel_rfl) (by kernel_rfl) (by kernel_rfl) (by kernel_rfl) (by kernel_rfl) ?_
        rintro v32 cs32 ⟨B34, cap33, rfl, rfl⟩
        refine SG.pack ?_; intro q32
        refine SG.run 12 fun ν35 => ?_
        refine SG.dec 31 ((walkF (List.map Row.es rs) a (n + 1) [] (↑k : Int)).snd.snd) false (by first | assumption | (simp only [decide_eq_false_iff_not]; omega) | (simp; done) | (simp; omega)) (by kernel_rfl) ?_
        refine SG.run 10 fun ν36 => ?_
        refine SG.ret [] (Value.tuple { toList := [Value.int IntKind.i64 (↑k : Int), Value.int IntKind.u32 a, Value.bool true] }) (by kernel_rfl) (by kernel_rfl) (by kernel_rfl) (by kernel_rfl) (by kernel_rfl) ?_
        have hf2 : (List.range n).find? (fun k => badF (rs.map Row.es) n a k) = some k := by
          rw [List.find?_range_eq_some]
          exact ⟨hbad, List.mem_range.2 (by omega), fun j hj => by rw [hgood j hj]; rfl⟩
        rw [← hf, hcons, findF, hf2]
        exact ⟨rfl, by kernel_rfl⟩
      · have hok : (walkF (rs.map Row.es) a (n + 1) [] k).2.2 = true := by simpa [badF] using hbad
        refine SG.run 5 fun ν30 => ?_
        refine SG.dec 21 (decide ((↑k : Int) < (↑n : Int))) true (by first | assumption | (simp only [decide_eq_true_eq]; omega) | (simp; done) | (simp; omega)) (by kernel_rfl) ?_
        refine SG.run 15 fun ν31 => ?_
        refine SG.pack ?_; intro q32
        refine SG.call [] [] [0, 1] (walk_spec (A) (n) (by first | assumption | omega | (simp; done) | (simp; omega) | simp [*] | (simp [*]; omega)) (rs) (by first | assumption | omega | (simp; done) | (simp; omega) | simp [*] | (simp [*]; omega)) (by first | assumption | omega | (simp; done) | (simp; omega) | simp [*] | (simp [*]; omega)) ((↑k : Int)) (a)) (by kernel_rfl) (by kernel_rfl) (by kernel_rfl) (by kernel_rfl) (by kernel_rfl) (by kernel_rfl) (by kernel_rfl) ?_
        rintro v32 cs32 ⟨B34, cap33, rfl, rfl⟩
        refine SG.pack ?_; intro q32
        refine SG.run 12 fun ν35 => ?_
        refine SG.dec 31 ((walkF (List.map Row.es rs) a (n + 1) [] (↑k : Int)).snd.snd) true (by first | assumption | (simp only [decide_eq_true_eq]; omega) | (simp; done) | (simp; omega)) (by kernel_rfl) ?_
        refine SG.run 4 fun ν36 => ?_
        refine SG.nat 34 IntKind.i64 (IntKind.wrap IntKind.i64 ((↑k : Int) + 1)) (k + 1) (by kernel_rfl) (by (repeat first | rw [wrap_i64 (by omega) (by omega)] | rw [wrap_u64 (by omega) (by omega)]); first | done | omega) ?_
        refine SG.run 2 fun ν37 => ?_
        exact SG.next (ih2 (k + 1) ⟨by omega, fun j hj => by
          by_cases e : j = k
          · rw [e]; exact hbad
          · exact hgood j (by omega)⟩ (by omega)) (by kernel_rfl) (by kernel_rfl) (by kernel_rfl) (by kernel_rfl)
    · refine SG.run 5 fun ν30 => ?_
      refine SG.dec 21 (decide ((↑k : Int) < (↑n : Int))) false (by first | assumption | (simp only [decide_eq_false_iff_not]; omega) | (simp; done) | (simp; omega)) (by kernel_rfl) ?_
      refine SG.run 5 fun ν31 => ?_
      refine SG.run 2 fun ν32 => ?_
      have hkn : k = n := by have := of_decide_eq_false hb7; omega
      have hf2 : (List.range n).find? (fun k => badF (rs.map Row.es) n a k) = none := by
        rw [List.find?_eq_none]
        intro j hj
        rw [hgood j (by rw [hkn]; exact List.mem_range.1 hj)]; simp
      refine SG.inc 14 i (by kernel_rfl) (by omega) ?_
      exact SG.next (ih (i + 1) ⟨by omega, by rw [← hf, hcons, findF, hf2]⟩ (by omega)) (by kernel_rfl) (by kernel_rfl) (by kernel_rfl) (by kernel_rfl)
  · refine SG.run 5 fun ν10 => ?_
    refine SG.dec 15 (decide ((↑i : Int) < (↑(List.length L) : Int))) false (by first | assumption | (simp only [decide_eq_false_iff_not]; omega) | (simp; done) | (simp; omega)) (by kernel_rfl) ?_
    refine SG.run 8 fun ν11 => ?_
    refine SG.ret [] (Value.tuple { toList := [Value.int IntKind.i64 0, Value.int IntKind.u32 0, Value.bool false] }) (by kernel_rfl) (by kernel_rfl) (by kernel_rfl) (by kernel_rfl) (by kernel_rfl) ?_
    have hin : i = L.length := by have := of_decide_eq_false hb6; omega
    rw [hin, List.drop_length] at hf
    rw [← hf]
    exact ⟨rfl, by kernel_rfl⟩
end Go.Proofs.Ytdholfagmlablaa
