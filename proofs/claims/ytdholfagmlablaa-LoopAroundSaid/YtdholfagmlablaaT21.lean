/- LoopAround: for every input the law answers true, and its arguments read as before (no condition). -/
import Derived.Test.YtdholfagmlablaaT19
import Derived.Test.YtdholfagmlablaaT20
namespace Go.Proofs.Ytdholfagmlablaa
open Go.Sx Go.Proofs Go.ChangeShapes Go.WideShapes Go.ChangeAt Go.RowKit

set_option maxRecDepth 100000 in
theorem loopAround_lifted (os : Os) (started : os.Started) (H : Type) (enc : TypeId × Value → H) :
    ReturnsInHanded {} Try.checked os 4 .any (Rows.loopAroundSpec.pre6 enc Try.prog Try.f4 Rows.loopAroundRow.domain false) (Rows.loopAroundSpec.post enc Try.prog Try.f4 false true false false) := by
  refine returnsInHanded_of_change (C := Try.checked) own started (by kernel_rfl) Try.func4
    (ChangeSpec.witness6 (enc := enc) (C := Try.checked) false ⟨#[], #[.int .i64 0, .slice none 0 0, .int .i64 0], []⟩ 8 (by kernel_rfl) (by kernel_rfl) (by kernel_rfl) (by kernel_rfl)) ?_
  intro W base args ds gs before hval hW hcnd _
  have hW' := hW
  obtain ⟨p, q, hA, hV, _, _, _⟩ := hW
  rw [Try.params4] at hA
  obtain ⟨v0, vs0, d0, ds0, p0, q0, hargs, rfl, rfl, h0, r0⟩ := trodAll_cons hA
  obtain ⟨v1, vs1, d1, ds1, p1, q1, rfl, rfl, rfl, h1, r1⟩ := trodAll_cons r0
  obtain ⟨v2, vs2, d2, ds2, p2, q2, rfl, rfl, rfl, h2, r2⟩ := trodAll_cons r1
  obtain ⟨rfl, rfl, rfl⟩ := trodAll_nil r2
  obtain rfl : args = #[v0, v1, v2] := by cases args; simp_all
  obtain ⟨a0, rfl, _, _, w0⟩ := open_int Try.underlying3 (hval 0 3 v0 (by rw [Try.params4]; rfl) rfl) h0
  obtain ⟨a2, rfl, _, _, w2⟩ := open_int Try.underlying3 (hval 2 3 v2 (by rw [Try.params4]; rfl) rfl) h2
  obtain ⟨s0, sn, sc, rfl⟩ := okWide_slice Try.underlying22 (hval 1 22 v1 (by rw [Try.params4]; rfl) rfl)
  obtain ⟨fuel, hf⟩ := h1
  obtain ⟨A, cap, l, hcs, hseq, _⟩ := open_seq Tri.l Try.underlying22 cells_tri tri_of hf
  simp only [Value.cells, List.cons.injEq, and_true] at hcs
  rw [hcs] at hW' ⊢
  have hcall := (loopAround_spec a0 A cap l a2 (seqC A cap 3 (l.map Tri.l)) (fun w h => h)).calls W trivial (fun c hc => by
    simp only [List.mem_cons, List.not_mem_nil, or_false] at hc
    subst hc
    exact ⟨hseq, fun _ _ h => h⟩)
  refine hcall.mono fun e W' ⟨v, cs, he, ⟨hv, _⟩, _, hu, _⟩ => ?_
  subst hv
  exact ⟨_, he, post_law (tb := 4) rfl laidOut (by rw [Try.params4]; kernel_rfl) (by kernel_rfl) Try.underlying4 rfl hW' hu⟩

theorem loopAround_holds : Rows.LoopAroundSaid :=
  OpenClaim.holds_of_wide 4 Try.f4 rfl rfl rfl rfl rfl rfl rfl ⟨rfl, rfl, rfl, rfl, rfl⟩ rfl rfl rfl rfl rfl (by kernel_rfl) Try.func4 (by kernel_rfl)
    (of_decide_eq_true (by kernel_rfl)) (by unfold Func.isWrapper; first | (rw [if_pos (by decide +kernel)]; kernel_rfl) | (rw [if_neg (by decide +kernel)]; exact ⟨rfl, rfl⟩))
    (fun os started H enc _ => loopAround_lifted os started H enc)
#print axioms loopAround_holds
end Go.Proofs.Ytdholfagmlablaa
