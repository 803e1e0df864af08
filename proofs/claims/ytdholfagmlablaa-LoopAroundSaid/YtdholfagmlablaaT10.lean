/- What the function inside loop.Around does: up to forty entries each. -/
import Derived.Test.YtdholfagmlablaaT9
namespace Go.Proofs.Ytdholfagmlablaa
open Go.Sx Go.Proofs

theorem has_cells {P : Program} {C : Ctx P} {σ : St} {b : Nat} {vs : List Value} {T : TypeId} (h : Has C σ (cellsC b vs T)) : ∀ a w, Real C.K σ a w → ∀ j u, vs[j]? = some u → w.cell? ((⟨b, 0, none⟩ : Addr).add j) = some u := by
  intro a w hR j u hj
  rw [addr_add, Nat.zero_add, cell_of (h a w hR.bare)]
  simpa using hj

def next1 (p : Pre) (es : List Ent) : Int := match es.find? (fun e => e.p == p && e.how == 2) with
  | some e => e.next
  | none => -1

set_option maxRecDepth 10000 in
theorem around1_spec (A : Option Addr) (n : Nat) (rs : List Row) (hrs : rs.length = n) (b1 b2 : Nat) (p : Pre) (i : Nat) (r : Row) (hr : rs[i]? = some r) (hes : r.es.length ≤ 40) :
    CallSpec Try.prog 40 [.int .i64 i, .pointer (some ⟨b1, 0, none⟩), .pointer (some ⟨b2, 0, none⟩)] [] [cellsC b1 [.slice A n n] 26, cellsC b2 p.c 34, outerC A n rs, inC rs]
      (fun v cs => v = .int .i64 (next1 p r.es) ∧ cs = []) := by
  have hin : i < n := by rw [← hrs]; exact (List.getElem?_eq_some_iff.1 hr).1
  refine CallSpec.of [.v (.int .i64 i), .v (.pointer (some ⟨b1, 0, none⟩)), .v (.pointer (some ⟨b2, 0, none⟩))] [] (by kernel_rfl) (by kernel_rfl) (by kernel_rfl) (by kernel_rfl) fun w0 => ?_
  refine SG.run 7 fun ν => ?_
  refine SG.load 26 false ⟨b1, 0, none⟩ [.slice A n n] (by kernel_rfl) (by kernel_rfl) (.slice A n n) rfl (fun _ => rfl) (has_cells (b := b1) (T := 26) (Has.ro' 0 (by kernel_rfl) (by kernel_rfl))) (by kernel_rfl) (by kernel_rfl) ?_
  refine SG.run 1 fun ν => ?_
  refine SG.elem (outerC A n rs) (Has.ro' 2 (by kernel_rfl) (by kernel_rfl)) 26 37 1 24 37 false A n n .i64 i i (rs.map fun r => [Row.v r]) [r.v] outer_seq (by simpa using hrs) (by simp [hr]) rfl (by kernel_rfl) (by kernel_rfl) (by kernel_rfl) (by kernel_rfl) 9 (by kernel_rfl)
    (fun v => by kernel_rfl) (fun v => by kernel_rfl) (fun v => by kernel_rfl) (by kernel_rfl) r.v rfl (fun _ => rfl) (fun u => ?_)
  refine SG.run 400 fun ν => ?_
  refine SG.loopI (fun σ (k : Nat) => { σ with t := (12, .v (.int .i64 k)) :: keepT σ [2, 10, 11] })
    (fun k => k ≤ r.es.length ∧ ∀ j, j < k → ∀ e, r.es[j]? = some e → (e.p == p && e.how == 2) = false) (fun k => r.es.length - k) (by kernel_rfl) 0 ⟨by omega, fun j hj => by omega⟩ (by kernel_rfl) (by kernel_rfl) (by kernel_rfl) ?_
  rintro k ⟨hk, hno⟩ ih
  refine SG.pack ?_; intro q0
  refine SG.test 13 (decide ((k : Int) < (r.es.length : Int))) (fun ν => by kernel_rfl) (fun h ν => ?_) (fun h ν => ?_)
  · have hlt : k < r.es.length := by simpa using h
    refine Exists.elim (show ∃ e, r.es[k]? = some e from ⟨_, List.getElem?_eq_getElem hlt⟩) fun e he => ?_
    refine SG.run 8 fun ν => ?_
    refine SG.pack ?_; intro q1
    refine SG.elem (inC rs) (Has.ro' 3 (by kernel_rfl) (by kernel_rfl)) 37 39 4 32 39 true r.A r.es.length r.cap .i64 k k (r.es.map Ent.c) e.c (inC_at hr) (by simp) (by simp [he]) rfl (by kernel_rfl) (by kernel_rfl) (by kernel_rfl) (by kernel_rfl) 14 (by kernel_rfl)
      (fun v => by kernel_rfl) (fun v => by kernel_rfl) (fun v => by kernel_rfl) (by kernel_rfl) e.v rfl (by simp) (fun u => ?_)
    refine SG.run 7 fun ν => ?_
    refine SG.load 34 true ⟨b2, 0, none⟩ p.c (by kernel_rfl) (by kernel_rfl) p.v rfl (by simp) (has_cells (b := b2) (T := 34) (Has.ro' 1 (by kernel_rfl) (by kernel_rfl))) (by kernel_rfl) (by kernel_rfl) ?_
    refine SG.pack ?_; intro q2
    refine SG.eqS 34 [.int .u32 e.p.a, .int .i64 e.p.l] p.c ((e.p.a == p.a) && ((e.p.l == p.l) && true)) (by kernel_rfl) (by kernel_rfl) (by kernel_rfl) (by kernel_rfl) (by kernel_rfl) ?_
    have hpe : (e.p == p) = ((e.p.a == p.a) && ((e.p.l == p.l) && true)) := by
      rw [Bool.eq_iff_iff]
      obtain ⟨⟨ea, el⟩, _, _⟩ := e
      obtain ⟨pa, pl⟩ := p
      simp
    have hgo : (e.p == p && e.how == 2) = false → k + 1 ≤ r.es.length ∧ ∀ j, j < k + 1 → ∀ e, r.es[j]? = some e → (e.p == p && e.how == 2) = false := fun hp => ⟨hlt, fun j hj e' he' => by
      by_cases ej : j = k
      · subst ej; rw [he] at he'; cases he'; exact hp
      · exact hno j (by omega) e' he'⟩
    refine SG.split 19 ((e.p.a == p.a) && ((e.p.l == p.l) && true)) (by kernel_rfl) (fun h2 => ?_) (fun h2 => ?_)
    · refine SG.test 23 (e.how == 2) (fun ν => by kernel_rfl) (fun h3 ν => ?_) (fun h3 ν => ?_)
      · refine SG.run 400 fun ν => ?_
        refine SG.ret [] (.int .i64 e.next) (by kernel_rfl) (by kernel_rfl) (by kernel_rfl) (by kernel_rfl) (by kernel_rfl) ⟨?_, rfl⟩
        have hf : r.es.find? (fun e => e.p == p && e.how == 2) = some e := by
          rw [List.find?_eq_some_iff_getElem]
          refine ⟨by rw [hpe, h2, h3]; rfl, k, hlt, (List.getElem?_eq_some_iff.1 he).2, fun j hj => ?_⟩
          rw [hno j hj r.es[j] (List.getElem?_eq_getElem (by omega))]; rfl
        rw [next1, hf]
      · refine SG.run 400 fun ν => ?_
        refine SG.inc 12 k (by kernel_rfl) (by omega) ?_
        exact SG.next (ih (k + 1) (hgo (by rw [h3, Bool.and_false])) (by omega)) (by kernel_rfl) (by kernel_rfl) (by kernel_rfl) (by kernel_rfl)
    · refine SG.run 400 fun ν => ?_
      refine SG.inc 12 k (by kernel_rfl) (by omega) ?_
      exact SG.next (ih (k + 1) (hgo (by rw [hpe, h2, Bool.false_and])) (by omega)) (by kernel_rfl) (by kernel_rfl) (by kernel_rfl) (by kernel_rfl)
  · have hk' : k = r.es.length := by have : ¬ k < r.es.length := by simpa using h
                                     omega
    refine SG.run 400 fun ν => ?_
    refine SG.ret [] (.int .i64 (-1)) (by kernel_rfl) (by kernel_rfl) (by kernel_rfl) (by kernel_rfl) (by kernel_rfl) ⟨?_, rfl⟩
    have hf : r.es.find? (fun e => e.p == p && e.how == 2) = none := by
      rw [List.find?_eq_none]
      intro e he
      obtain ⟨j, hj⟩ := List.getElem?_of_mem he
      rw [hno j (by have := (List.getElem?_eq_some_iff.1 hj).1; omega) e hj]; simp
    rw [next1, hf]
#print axioms around1_spec
end Go.Proofs.Ytdholfagmlablaa
