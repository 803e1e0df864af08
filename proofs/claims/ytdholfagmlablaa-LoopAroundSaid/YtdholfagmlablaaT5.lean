/- What the law's own Lookup does: up to forty entries. -/
import Derived.Test.YtdholfagmlablaaT4
namespace Go.Proofs.Ytdholfagmlablaa
open Go.Sx Go.Proofs

def pr2 (a : Int) (m : Nat) (e : Ent) : Bool := e.p.l == (m : Int) && (e.how != 0 && has2 e.p a)
def look2 (es : List Ent) (a : Int) : Nat → Ent
  | 0 => ent0
  | m + 1 => match es.find? (pr2 a m) with
    | some e => e
    | none => look2 es a m

set_option maxRecDepth 10000 in
theorem look2_spec (A : Option Addr) (cap : Nat) (es : List Ent) (a : Int) (c : Chunk) (hc : ∀ w, c.holds w → SeqAt w A cap 4 (es.map Ent.c)) (hn : es.length ≤ 4611686018427387904) :
    CallSpec Try.prog 39 [.slice A es.length cap, .int .u32 a] [] [c] (fun v cs => v = (look2 es a 33).v ∧ cs = []) := by
  generalize hW : look2 es a 33 = W
  refine CallSpec.of [.v (.slice A es.length cap), .v (.int .u32 a)] [] (by kernel_rfl) (by kernel_rfl) (by kernel_rfl) (by kernel_rfl) fun w0 => ?_
  refine SG.run 400 fun ν => ?_
  refine SG.loopI (fun σ (m : Nat) => { σ with t := (5, .v (.int .i64 ((m : Int) - 1))) :: keepT σ [0, 1, 4], h := keepH σ [0], n := 1 })
    (fun m => m ≤ 33 ∧ look2 es a m = W) (fun m => m) (by kernel_rfl) 33 ⟨by omega, hW⟩ (by kernel_rfl) (by kernel_rfl) (by kernel_rfl) ?_
  rintro m ⟨hm, hw⟩ ih
  refine SG.pack ?_; intro q0
  refine SG.test 9 (decide ((m : Int) - 1 ≥ 0)) (fun ν => by kernel_rfl) (fun h1 ν => ?_) (fun h1 ν => ?_)
  · have h1' : (m : Int) - 1 ≥ 0 := by simpa using h1
    refine Exists.elim (show ∃ m', m = m' + 1 from ⟨m - 1, by omega⟩) fun m' hm' => ?_
    refine SG.slot 5 (.v (.int .i64 ((m : Int) - 1))) (.v (.int .i64 (m' : Nat))) (by kernel_rfl) (by rw [hm']; simp) trivial ?_
    rw [hm'] at hw
    refine SG.run 400 fun ν => ?_
    refine SG.pack ?_; intro q1
    refine SG.loopI (fun σ (k : Nat) => { σ with t := (14, .v (.int .i64 k)) :: keepT σ [0, 1, 4, 5, 12, 13], h := keepH σ [0], n := 1 })
      (fun k => k ≤ es.length ∧ ∀ j, j < k → ∀ e, es[j]? = some e → pr2 a m' e = false) (fun k => es.length - k) (by kernel_rfl) 0 ⟨by omega, fun j hj => by omega⟩ (by kernel_rfl) (by kernel_rfl) (by kernel_rfl) ?_
    rintro k ⟨hk, hno⟩ ih2
    refine SG.pack ?_; intro q2
    refine SG.test 15 (decide ((k : Int) < (es.length : Int))) (fun ν => by kernel_rfl) (fun h ν => ?_) (fun h ν => ?_)
    · have hlt : k < es.length := by simpa using h
      refine Exists.elim (show ∃ e, es[k]? = some e from ⟨_, List.getElem?_eq_getElem hlt⟩) fun e he => ?_
      refine SG.run 8 fun ν => ?_
      refine SG.pack ?_; intro q3
      refine SG.elem c (Has.ro' 0 (by kernel_rfl) (by kernel_rfl)) 36 39 4 32 39 true A es.length cap .i64 k k (es.map Ent.c) e.c hc (by simp) (by simp [he]) rfl (by kernel_rfl) (by kernel_rfl) (by kernel_rfl) (by kernel_rfl) 16 (by kernel_rfl)
        (fun v => by kernel_rfl) (fun v => by kernel_rfl) (fun v => by kernel_rfl) (by kernel_rfl) e.v rfl (by simp [Ent.c]) (fun u => ?_)
      have hgo : pr2 a m' e = false → k + 1 ≤ es.length ∧ ∀ j, j < k + 1 → ∀ e, es[j]? = some e → pr2 a m' e = false := fun hp => ⟨hlt, fun j hj e' he' => by
        by_cases ej : j = k
        · subst ej; rw [he] at he'; cases he'; exact hp
        · exact hno j (by omega) e' he'⟩
      refine SG.test 22 (e.p.l == (m' : Int)) (fun ν => by kernel_rfl) (fun h1 ν => ?_) (fun h1 ν => ?_)
      · refine SG.test 26 (e.how != 0) (fun ν => by kernel_rfl) (fun h2 ν => ?_) (fun h2 ν => ?_)
        · refine SG.run 400 fun ν => ?_
          refine SG.call [] [] [] (has2_spec e.p a) (by kernel_rfl) (by kernel_rfl) (by kernel_rfl) (by kernel_rfl) (by kernel_rfl) (by kernel_rfl) (by kernel_rfl) ?_
          rintro v cs ⟨rfl, rfl⟩
          refine SG.pack ?_; intro q4
          refine SG.split 32 (has2 e.p a) (by kernel_rfl) (fun h3 => ?_) (fun h3 => ?_)
          · refine SG.run 400 fun ν => ?_
            refine SG.ret [] e.v (by kernel_rfl) (by kernel_rfl) (by kernel_rfl) (by kernel_rfl) (by kernel_rfl) ⟨?_, rfl⟩
            have hp : pr2 a m' e = true := by simp only [pr2, h1, h2, h3, Bool.and_self]
            have hf : es.find? (pr2 a m') = some e := by
              rw [List.find?_eq_some_iff_getElem]
              refine ⟨hp, k, hlt, (List.getElem?_eq_some_iff.1 he).2, fun j hj => ?_⟩
              rw [hno j hj es[j] (List.getElem?_eq_getElem (by omega))]; rfl
            rw [← hw, look2, hf]
          · refine SG.run 400 fun ν => ?_
            refine SG.inc 14 k (by kernel_rfl) (by omega) ?_
            exact SG.next (ih2 (k + 1) (hgo (by simp only [pr2, h1, h2, h3, Bool.and_false])) (by omega)) (by kernel_rfl) (by kernel_rfl) (by kernel_rfl) (by kernel_rfl)
        · refine SG.run 400 fun ν => ?_
          refine SG.inc 14 k (by kernel_rfl) (by omega) ?_
          exact SG.next (ih2 (k + 1) (hgo (by simp only [pr2, h2, Bool.false_and, Bool.and_false])) (by omega)) (by kernel_rfl) (by kernel_rfl) (by kernel_rfl) (by kernel_rfl)
      · refine SG.run 400 fun ν => ?_
        refine SG.inc 14 k (by kernel_rfl) (by omega) ?_
        exact SG.next (ih2 (k + 1) (hgo (by simp only [pr2, h1, Bool.false_and])) (by omega)) (by kernel_rfl) (by kernel_rfl) (by kernel_rfl) (by kernel_rfl)
    · have hk' : k = es.length := by have : ¬ k < es.length := by simpa using h
                                     omega
      refine SG.run 400 fun ν => ?_
      refine SG.slot 5 (.v (.int .i64 (IntKind.i64.wrap ((m' : Int) - 1)))) (.v (.int .i64 ((m' : Int) - 1))) (by kernel_rfl) (by rw [wrap_i64 (by omega) (by omega)]) trivial ?_
      refine SG.next (ih m' ⟨by omega, ?_⟩ (by omega)) (by kernel_rfl) (by kernel_rfl) (by kernel_rfl) (by kernel_rfl)
      have hf : es.find? (pr2 a m') = none := by
        rw [List.find?_eq_none]
        intro e he
        obtain ⟨j, hj⟩ := List.getElem?_of_mem he
        rw [hno j (by have := (List.getElem?_eq_some_iff.1 hj).1; omega) e hj]; simp
      rw [← hw, look2, hf]
  · have h1' : ¬ (m : Int) - 1 ≥ 0 := by simpa using h1
    have hm0 : m = 0 := by omega
    refine SG.run 400 fun ν => ?_
    refine SG.ret [] ent0.v (by kernel_rfl) (by kernel_rfl) (by kernel_rfl) (by kernel_rfl) (by kernel_rfl) ⟨?_, rfl⟩
    rw [← hw, hm0]; rfl
#print axioms look2_spec
end Go.Proofs.Ytdholfagmlablaa
