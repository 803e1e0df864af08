/- What the law's own walk does: up to eight machines, up to forty entries each. -/
import Derived.Test.YtdholfagmlablaaT5
namespace Go.Proofs.Ytdholfagmlablaa
open Go.Sx Go.Proofs

def walk2F (fs : List (List Ent)) (a : Int) : Nat → List Int → Int → List Int × Int × Bool
  | 0, path, _ => (path, 0, true)
  | m + 1, path, p => if p < 0 ∨ (fs.length : Int) ≤ p then (path, 0, true) else if p ∈ path then (path, 2, false) else
    let e := look2 (fs.getD p.toNat []) a 33
    if e.how ≠ 2 then (path ++ [p], e.how, true) else walk2F fs a m (path ++ [p]) e.next

set_option maxRecDepth 10000 in
theorem walk2_spec (A : Option Addr) (n : Nat) (hn8 : n ≤ 8) (rs : List Row) (hrs : rs.length = n) (hes : ∀ r ∈ rs, r.es.length ≤ 40) (p0 a : Int) :
    CallSpec Try.prog 11 [.slice A n n, .int .i64 p0, .int .u32 a] [] [outerC A n rs, inC rs]
      (fun v cs => ∃ B cap, v = .tuple #[.slice B (walk2F (rs.map Row.es) a (n + 1) [] p0).1.length cap, .int .i64 (walk2F (rs.map Row.es) a (n + 1) [] p0).2.1, .bool (walk2F (rs.map Row.es) a (n + 1) [] p0).2.2] ∧
        cs = [rowC 3 1 B cap ((walk2F (rs.map Row.es) a (n + 1) [] p0).1.map intC)]) := by
  generalize hW : walk2F (rs.map Row.es) a (n + 1) [] p0 = W
  refine CallSpec.of [.v (.slice A n n), .v (.int .i64 p0), .v (.int .u32 a)] [] (by kernel_rfl) (by kernel_rfl) (by kernel_rfl) (by kernel_rfl) fun w0 => ?_
  refine SG.run 400 fun ν => ?_
  refine SG.conv [0] [cellsC (ν 8) [] 3] [rowC 3 1 (some ⟨ν 8, 0, none⟩) 0 []] (by kernel_rfl) (by kernel_rfl) (fun w hw => ⟨sepL_one.2 (row_of_cells (xs := []) (sepL_one.1 hw) (by simp) rfl (by simp [maxLen])), fun x hx => ?_⟩) ?_
  · have := sepL_one_fp.1 hx
    refine sepL_one_fp.2 ?_
    simpa [rowC, Value.ownBlock, cellsC, objC, eq_comm] using this
  refine SG.move 0 1 (ν 8) (rowC 3 1 (some ⟨ν 8, 0, none⟩) 0 []) (by kernel_rfl) (by kernel_rfl) (by kernel_rfl) (by kernel_rfl) ?_
  refine SG.loopI (fun σ (x : WS) => { σ with t := (1, .v (.int .i64 x.p)) :: (9, .v (.slice x.A x.path.length x.cap)) :: keepT σ [0, 2], h := [(0, (ν 8, .ab (rowC 3 1 x.A x.cap (x.path.map intC))))], n := 1 })
    (fun x => walk2F (rs.map Row.es) a x.m x.path x.p = W ∧ free n x.path < x.m ∧ x.path.length + free n x.path = n) (fun x => x.m) (by kernel_rfl) ⟨[], p0, some ⟨ν 8, 0, none⟩, 0, n + 1⟩ ⟨hW, by simp [free_nil], by simp [free_nil]⟩ (by kernel_rfl) (by kernel_rfl) (by kernel_rfl) ?_
  rintro ⟨path, p, B, cap, m⟩ ⟨hw, hfree, hlen⟩ ih
  simp only at hw hfree hlen
  obtain ⟨m, rfl⟩ : ∃ m', m = m' + 1 := ⟨m - 1, by omega⟩
  refine SG.pack ?_; intro q0
  refine SG.test 15 (decide (p < 0)) (fun ν => by kernel_rfl) (fun h1 ν => ?_) (fun h1 ν => ?_)
  · refine SG.run 400 fun ν => ?_
    refine SG.ret [0] (.tuple #[.slice B path.length cap, .int .i64 0, .bool true]) (by kernel_rfl) (by kernel_rfl) (by kernel_rfl) (by kernel_rfl) (by kernel_rfl) ⟨B, cap, ?_⟩
    have : p < 0 := by simpa using h1
    rw [← hw, walk2F, if_pos (.inl this)]
    exact ⟨rfl, by kernel_rfl⟩
  · refine SG.test 20 (decide (p ≥ (n : Int))) (fun ν => by kernel_rfl) (fun h2 ν => ?_) (fun h2 ν => ?_)
    · refine SG.run 400 fun ν => ?_
      refine SG.ret [0] (.tuple #[.slice B path.length cap, .int .i64 0, .bool true]) (by kernel_rfl) (by kernel_rfl) (by kernel_rfl) (by kernel_rfl) (by kernel_rfl) ⟨B, cap, ?_⟩
      have : (n : Int) ≤ p := by simpa using h2
      rw [← hw, walk2F, if_pos (.inr (by simpa [hrs] using this))]
      exact ⟨rfl, by kernel_rfl⟩
    · refine SG.run 400 fun ν => ?_
      refine SG.pack ?_; intro q1
      have hr0 : 0 ≤ p := by have : ¬ p < 0 := by simpa using h1
                             omega
      have hrn : p < n := by have : ¬ (n : Int) ≤ p := by simpa using h2
                             omega
      have hin : ¬ (p < 0 ∨ ((rs.map Row.es).length : Int) ≤ p) := by rw [List.length_map, hrs]; omega
      refine SG.loopI (fun σ (k : Nat) => { σ with t := (25, .v (.int .i64 k)) :: keepT σ [0, 1, 2, 9, 23, 24], h := keepH σ [0], n := 1 })
        (fun k => k ≤ path.length ∧ ∀ j, j < k → path[j]? ≠ some p) (fun k => path.length - k) (by kernel_rfl) 0 ⟨by omega, fun j hj => by omega⟩ (by kernel_rfl) (by kernel_rfl) (by kernel_rfl) ?_
      rintro k ⟨hk, hno⟩ ih2
      refine SG.pack ?_; intro q2
      refine SG.test 26 (decide ((k : Int) < (path.length : Int))) (fun ν => by kernel_rfl) (fun h ν => ?_) (fun h ν => ?_)
      · have hlt : k < path.length := by simpa using h
        refine Exists.elim (show ∃ e, path[k]? = some e from ⟨_, List.getElem?_eq_getElem hlt⟩) fun e he => ?_
        refine SG.run 8 fun ν => ?_
        refine SG.pack ?_; intro q3
        refine SG.elem (rowC 3 1 B cap (path.map intC)) (Has.at' 0 (by kernel_rfl)) 28 3 1 8 3 false B path.length cap .i64 k k (path.map intC) (intC e) (fun w h => seq_row h) (by simp) (by simp [he]) rfl (by kernel_rfl) (by kernel_rfl) (by kernel_rfl) (by kernel_rfl) 27 (by kernel_rfl)
          (fun v => by kernel_rfl) (fun v => by kernel_rfl) (fun v => by kernel_rfl) (by kernel_rfl) (.int .i64 e) rfl (fun _ => rfl) (fun u => ?_)
        refine SG.test 31 (e == p) (fun ν => by kernel_rfl) (fun h3 ν => ?_) (fun h3 ν => ?_)
        · refine SG.run 400 fun ν => ?_
          refine SG.ret [0] (.tuple #[.slice B path.length cap, .int .i64 2, .bool false]) (by kernel_rfl) (by kernel_rfl) (by kernel_rfl) (by kernel_rfl) (by kernel_rfl) ⟨B, cap, ?_⟩
          have hep : e = p := by simpa using h3
          rw [← hw, walk2F, if_neg hin, if_pos (by rw [← hep]; exact List.mem_of_getElem? he)]
          exact ⟨rfl, by kernel_rfl⟩
        · refine SG.run 400 fun ν => ?_
          refine SG.inc 25 k (by kernel_rfl) (by omega) ?_
          refine SG.next (ih2 (k + 1) ⟨hlt, fun j hj => ?_⟩ (by omega)) (by kernel_rfl) (by kernel_rfl) (by kernel_rfl) (by kernel_rfl)
          by_cases ej : j = k
          · subst ej
            have : ¬ e = p := by simpa using h3
            rw [he]; simp only [ne_eq, Option.some.injEq]; exact this
          · exact hno j (by omega)
      · have hk' : k = path.length := by have : ¬ k < path.length := by simpa using h
                                         omega
        have h3' : p ∉ path := fun hp => by
          obtain ⟨j, hj⟩ := List.getElem?_of_mem hp
          exact hno j (by have := (List.getElem?_eq_some_iff.1 hj).1; omega) hj
        refine SG.pack ?_; intro q3
        refine SG.run 9 fun ν => ?_
        refine SG.append 0 (cellsC (ν 8) (intC p) 3) (Has.at' 1 (by kernel_rfl)) 28 3 1 8 B path.length cap (path.map intC) (some ⟨ν 8, 0, none⟩) 1 1 [intC p] ((path ++ [p]).map intC) (path ++ [p]).length
          (by simp) (by simp) rfl (by simp) (by kernel_rfl) (by kernel_rfl) (by kernel_rfl) (by kernel_rfl) (fun w hw => seq_cells hw (by simp [intC]) rfl) (int_one p) (by simp only [List.length_map, List.length_singleton]; omega) (by kernel_rfl) (by kernel_rfl) fun B2 cap2 => ?_
        refine SG.pack ?_; intro q5
        have hlt : p.toNat < rs.length := by omega
        have hr := List.getElem?_eq_getElem hlt
        generalize rs[p.toNat] = r at hr
        refine SG.run 6 fun ν2 => ?_
        refine SG.elem (outerC A n rs) (Has.ro' 0 (by kernel_rfl) (by kernel_rfl)) 26 37 1 24 37 false A n n .i64 p p.toNat (rs.map fun r => [Row.v r]) [r.v] outer_seq (by simpa using hrs) (by simp [hr]) (by omega) (by kernel_rfl) (by kernel_rfl) (by kernel_rfl) (by kernel_rfl) 40 (by kernel_rfl)
          (fun v => by kernel_rfl) (fun v => by kernel_rfl) (fun v => by kernel_rfl) (by kernel_rfl) r.v rfl (fun _ => rfl) (fun u => ?_)
        refine SG.run 400 fun ν3 => ?_
        refine SG.pack ?_; intro q6
        have hrm : r ∈ rs := List.mem_of_getElem? hr
        refine SG.call [] [] [1] (look2_spec r.A r.cap r.es a (inC rs) (inC_at hr) (by have := hes r hrm; omega)) (by kernel_rfl) (by kernel_rfl) (by kernel_rfl) (by kernel_rfl) (by kernel_rfl) (by kernel_rfl) (by kernel_rfl) ?_
        rintro v cs ⟨rfl, rfl⟩
        have hlk : look2 ((rs.map Row.es).getD p.toNat []) a 33 = look2 r.es a 33 := by
          rw [List.getD_eq_getElem?_getD, List.getElem?_map, hr]; rfl
        generalize look2 r.es a 33 = e at hlk ⊢
        refine SG.pack ?_; intro q7
        refine SG.test 46 (e.how != 2) (fun ν => by kernel_rfl) (fun h4 ν => ?_) (fun h4 ν => ?_)
        · have h4' : e.how ≠ 2 := by simpa using h4
          refine SG.run 3 fun ν => ?_
          refine SG.pack ?_; intro q8
          refine SG.draw 6 [] _ rfl (by kernel_rfl) (by kernel_rfl) (by kernel_rfl) (by kernel_rfl) (by kernel_rfl) trivial ?_
          refine SG.run 400 fun ν => ?_
          refine SG.ret [0] (.tuple #[.slice B2 (path ++ [p]).length cap2, .int .i64 e.how, .bool true]) (by kernel_rfl) (by kernel_rfl) (by kernel_rfl) (by kernel_rfl) (by kernel_rfl) ⟨B2, cap2, ?_⟩
          rw [← hw, walk2F, if_neg hin, if_neg h3', hlk]
          simp only [h4', ne_eq, not_false_iff, if_true]
          exact ⟨trivial, by kernel_rfl⟩
        · refine SG.run 400 fun ν => ?_
          refine SG.next (ih ⟨path ++ [p], e.next, B2, cap2, m⟩ ⟨?_, ?_, ?_⟩ (by simp only; omega)) (by kernel_rfl) (by kernel_rfl) (by kernel_rfl) (by kernel_rfl)
          · simp only
            rw [← hw, walk2F, if_neg hin, if_neg h3', hlk]
            have : ¬ e.how ≠ 2 := by simpa using h4
            simp only [this, if_false]
          · have := free_step hr0 hrn h3'
            simp only; omega
          · have := free_step hr0 hrn h3'
            simp only [List.length_append, List.length_singleton]; omega
#print axioms walk2_spec
end Go.Proofs.Ytdholfagmlablaa
