/- What loop.Around does: up to eight machines, up to forty entries each. -/
import Derived.Test.YtdholfagmlablaaT10
namespace Go.Proofs.Ytdholfagmlablaa
open Go.Sx Go.Proofs

/-- m steps from at on lead from machine to machine. -/
def stays (n : Nat) (fs : List (List Ent)) (p : Pre) : Nat → Int → Bool
  | 0, _ => true
  | m + 1, at_ => let nx := next1 p (fs.getD at_.toNat [])
    if nx < 0 ∨ (n : Int) ≤ nx then false else stays n fs p m nx
def aroundF (n : Nat) (fs : List (List Ent)) (p : Pre) : Bool := (List.range n).any fun i => stays n fs p n i

set_option maxRecDepth 10000 in
theorem around_spec (A : Option Addr) (n : Nat) (hn : n ≤ 8) (rs : List Row) (hrs : rs.length = n) (hes : ∀ r ∈ rs, r.es.length ≤ 40) (p : Pre) :
    CallSpec Try.prog 12 [.slice A n n, p.v] [] [outerC A n rs, inC rs] (fun v cs => v = .bool (aroundF n (rs.map Row.es) p) ∧ cs = []) := by
  refine CallSpec.of [.v (.slice A n n), .v p.v] [] (by kernel_rfl) (by kernel_rfl) (by kernel_rfl) (by kernel_rfl) fun w0 => ?_
  refine SG.run 400 fun ν0 => ?_
  refine SG.pack ?_; intro q0
  refine SG.loopI (fun σ (i : Nat) => { σ with t := (11, .v (.int .i64 i)) :: keepT σ [2, 5, 10], h := keepH σ [0, 1], n := 2 })
    (fun i => i ≤ n ∧ ∀ j, j < i → stays n (rs.map Row.es) p n j = false) (fun i => n - i) (by kernel_rfl) 0 ⟨by omega, fun j hj => by omega⟩ (by kernel_rfl) (by kernel_rfl) (by kernel_rfl) ?_
  rintro i ⟨hi, hno⟩ ih
  refine SG.pack ?_; intro q1
  refine SG.test 12 (decide ((i : Int) < (n : Int))) (fun ν => by kernel_rfl) (fun h ν => ?_) (fun h ν => ?_)
  · have hlt : i < n := by simpa using h
    refine SG.run 400 fun ν => ?_
    refine SG.pack ?_; intro q2
    refine SG.loopI (fun σ (x : Nat × Nat) => { σ with t := (7, .v (.int .i64 x.2)) :: (17, .v (.int .i64 x.1)) :: keepT σ [2, 5, 10, 11, 16], h := keepH σ [0, 1], n := 2 })
      (fun x => x.1 ≤ n ∧ x.2 < n ∧ stays n (rs.map Row.es) p (n - x.1) x.2 = stays n (rs.map Row.es) p n i) (fun x => n - x.1) (by kernel_rfl) (0, i) ⟨by omega, hlt, rfl⟩ (by kernel_rfl) (by kernel_rfl) (by kernel_rfl) ?_
    rintro ⟨k, at_⟩ ⟨hk, hat, hst⟩ ih2
    simp only at hk hat hst
    refine SG.pack ?_; intro q3
    refine SG.test 18 (decide ((k : Int) < (n : Int))) (fun ν => by kernel_rfl) (fun h2 ν => ?_) (fun h2 ν => ?_)
    · refine SG.run 10 fun ν => ?_
      refine SG.pack ?_; intro q4
      refine Exists.elim (show ∃ r, rs[at_]? = some r from ⟨_, List.getElem?_eq_getElem (by omega)⟩) fun r hr => ?_
      refine SG.call [] [0, 1] [0, 1] ((around1_spec A n rs hrs (ν0 2) (ν0 3) p at_ r hr (hes r (List.mem_of_getElem? hr)))) (by kernel_rfl) (by kernel_rfl) (by kernel_rfl) (by kernel_rfl) (by kernel_rfl) (by kernel_rfl) (by kernel_rfl) ?_
      rintro v cs ⟨rfl, rfl⟩
      refine SG.pack ?_; intro q5
      have hfs : (rs.map Row.es).getD (at_ : Int).toNat [] = r.es := by
        rw [List.getD_eq_getElem?_getD, Int.toNat_natCast, List.getElem?_map, hr]; rfl
      have hstep : n - k = (n - (k + 1)) + 1 := by have : k < n := by simpa using h2
                                                   omega
      generalize hnx : next1 p r.es = nx
      have hbad : (nx < 0 ∨ (n : Int) ≤ nx) → i + 1 ≤ n ∧ ∀ j, j < i + 1 → stays n (rs.map Row.es) p n j = false := fun hb => ⟨hlt, fun j hj => by
        by_cases ej : j = i
        · subst ej
          rw [← hst, hstep, stays, hfs, hnx]; exact if_pos hb
        · exact hno j (by omega)⟩
      refine SG.pack ?_; intro q6
      refine SG.test 23 (decide (nx < 0)) (fun ν => by kernel_rfl) (fun h3 ν => ?_) (fun h3 ν => ?_)
      · refine SG.run 400 fun ν => ?_
        refine SG.inc 11 i (by kernel_rfl) (by omega) ?_
        exact SG.next (ih (i + 1) (hbad (.inl (by simpa using h3))) (by omega)) (by kernel_rfl) (by kernel_rfl) (by kernel_rfl) (by kernel_rfl)
      · refine SG.test 28 (decide (nx ≥ (n : Int))) (fun ν => by kernel_rfl) (fun h4 ν => ?_) (fun h4 ν => ?_)
        · refine SG.run 400 fun ν => ?_
          refine SG.inc 11 i (by kernel_rfl) (by omega) ?_
          exact SG.next (ih (i + 1) (hbad (.inr (by simpa using h4))) (by omega)) (by kernel_rfl) (by kernel_rfl) (by kernel_rfl) (by kernel_rfl)
        · have hnx0 : 0 ≤ nx := by have : ¬ nx < 0 := by simpa using h3
                                   omega
          have hnxn : nx < n := by have : ¬ (n : Int) ≤ nx := by simpa using h4
                                   omega
          refine SG.run 400 fun ν => ?_
          refine SG.slot 7 (.v (.int .i64 nx)) (.v (.int .i64 (nx.toNat : Nat))) (by kernel_rfl) (by rw [Int.toNat_of_nonneg hnx0]) trivial ?_
          refine SG.inc 17 k (by kernel_rfl) (by omega) ?_
          refine SG.next (ih2 (k + 1, nx.toNat) ⟨by simp only; omega, by simp only; omega, ?_⟩ (by simp only; omega)) (by kernel_rfl) (by kernel_rfl) (by kernel_rfl) (by kernel_rfl)
          simp only
          rw [← hst, hstep, stays, hfs, hnx, Int.toNat_of_nonneg hnx0]
          exact (if_neg (by omega)).symm
    · have hkn : k = n := by have : ¬ (k : Int) < n := by simpa using h2
                             omega
      refine SG.run 400 fun ν => ?_
      refine SG.ret [] (.bool true) (by kernel_rfl) (by kernel_rfl) (by kernel_rfl) (by kernel_rfl) (by kernel_rfl) ⟨?_, rfl⟩
      have hs : stays n (rs.map Row.es) p n i = true := by rw [← hst, hkn, Nat.sub_self]; rfl
      have : aroundF n (rs.map Row.es) p = true := by
        rw [aroundF, List.any_eq_true]
        exact ⟨i, List.mem_range.2 hlt, hs⟩
      rw [this]
  · refine SG.run 400 fun ν => ?_
    refine SG.ret [] (.bool false) (by kernel_rfl) (by kernel_rfl) (by kernel_rfl) (by kernel_rfl) (by kernel_rfl) ⟨?_, rfl⟩
    have hin : i = n := by have : ¬ (i : Int) < n := by simpa using h
                           omega
    have : aroundF n (rs.map Row.es) p = false := by
      rw [aroundF, List.any_eq_false]
      intro j hj
      rw [hno j (by rw [hin]; exact List.mem_range.1 hj)]; simp
    rw [this]
end Go.Proofs.Ytdholfagmlablaa
