/- LoopWalks: for every input the law answers true, and its arguments read as before (no condition). -/
import Derived.Test.YtdholfagmlablaaRows
import Derived.Test.YtdholfagmlablaaT18
import Derived.Test.YtdholfagmlablaaSxR
namespace Go.Proofs.Ytdholfagmlablaa
open Go.Sx Go.Proofs Go.ChangeShapes Go.WideShapes Go.ChangeAt Go.RowKit

theorem own : ownKnob Try.prog.godebug = none := by kernel_rfl
theorem laidOut : laidOutB Try.prog = true := by kernel_rfl
theorem cells_tri : Try.prog.cellsOf 90 = 3 := by kernel_rfl
theorem cells_int : Try.prog.cellsOf 3 = 1 := by kernel_rfl

set_option maxRecDepth 100000 in
theorem tri_of {H : Type} {enc : TypeId × Value → H} {w : World} (n : Nat) (cs : List Value) (y : DataW H × List MemPlace) (hl : cs.length = 3) (h : DataW.trod enc Try.prog w 0 (fun _ => true) true n 90 cs = some y) : ∃ z : Tri, cs = z.l := by
  obtain ⟨xs, m, _, _, _, hxl, hat⟩ := DataW.trod_array Try.underlying90 h
  match cs, hl with
  | [a, b, c], _ =>
    have h0 := hat 0 (by omega)
    have h1 := hat 1 (by omega)
    have h2 := hat 2 (by omega)
    rw [cells_int] at h0 h1 h2
    rw [List.getElem?_eq_getElem (by omega)] at h0 h1 h2
    obtain ⟨n0, e0, _⟩ := DataW.trod_int Try.underlying3 h0
    obtain ⟨n1, e1, _⟩ := DataW.trod_int Try.underlying3 h1
    obtain ⟨n2, e2, _⟩ := DataW.trod_int Try.underlying3 h2
    simp at e0 e1 e2
    exact ⟨⟨n0, n1, n2⟩, by rw [e0, e1, e2]; rfl⟩

set_option maxRecDepth 100000 in
theorem loopWalks_lifted (os : Os) (started : os.Started) (H : Type) (enc : TypeId × Value → H) :
    ReturnsInHanded {} Try.checked os 3 .any (Rows.loopWalksSpec.pre6 enc Try.prog Try.f3 Rows.loopWalksRow.domain false) (Rows.loopWalksSpec.post enc Try.prog Try.f3 false true false false) := by
  refine returnsInHanded_of_change (C := Try.checked) own started (by kernel_rfl) Try.func3
    (ChangeSpec.witness6 (enc := enc) (C := Try.checked) false ⟨#[], #[.int .i64 0, .slice none 0 0, .int .i64 0, .int .u32 0], []⟩ 8 (by kernel_rfl) (by kernel_rfl) (by kernel_rfl) (by kernel_rfl)) ?_
  intro W base args ds gs before hval hW hcnd _
  have hW' := hW
  obtain ⟨p, q, hA, hV, _, _, _⟩ := hW
  rw [Try.params3] at hA
  obtain ⟨v0, vs0, d0, ds0, p0, q0, hargs, rfl, rfl, h0, r0⟩ := trodAll_cons hA
  obtain ⟨v1, vs1, d1, ds1, p1, q1, rfl, rfl, rfl, h1, r1⟩ := trodAll_cons r0
  obtain ⟨v2, vs2, d2, ds2, p2, q2, rfl, rfl, rfl, h2, r2⟩ := trodAll_cons r1
  obtain ⟨v3, vs3, d3, ds3, p3, q3, rfl, rfl, rfl, h3, r3⟩ := trodAll_cons r2
  obtain ⟨rfl, rfl, rfl⟩ := trodAll_nil r3
  obtain rfl : args = #[v0, v1, v2, v3] := by cases args; simp_all
  obtain ⟨a0, rfl, _, _, w0⟩ := open_int Try.underlying3 (hval 0 3 v0 (by rw [Try.params3]; rfl) rfl) h0
  obtain ⟨a2, rfl, _, _, w2⟩ := open_int Try.underlying3 (hval 2 3 v2 (by rw [Try.params3]; rfl) rfl) h2
  obtain ⟨a3, rfl, _, _, w3⟩ := open_int Try.underlying23 (hval 3 23 v3 (by rw [Try.params3]; rfl) rfl) h3
  obtain ⟨s0, sn, sc, rfl⟩ := okWide_slice Try.underlying22 (hval 1 22 v1 (by rw [Try.params3]; rfl) rfl)
  obtain ⟨fuel, hf⟩ := h1
  obtain ⟨A, cap, l, hcs, hseq, _⟩ := open_seq Tri.l Try.underlying22 cells_tri tri_of hf
  simp only [Value.cells, List.cons.injEq, and_true] at hcs
  rw [hcs] at hW' ⊢
  have hb := bounds_u32 w3
  obtain ⟨a, rfl⟩ := Int.eq_ofNat_of_zero_le hb.1
  have hcall := (loopWalks_spec a0 A cap l a2 a (by omega) (seqC A cap 3 (l.map Tri.l)) (fun w h => h)).calls W trivial (fun c hc => by
    simp only [List.mem_cons, List.not_mem_nil, or_false] at hc
    subst hc
    exact ⟨hseq, fun _ _ h => h⟩)
  refine hcall.mono fun e W' ⟨v, cs, he, ⟨hv, _⟩, _, hu, _⟩ => ?_
  subst hv
  exact ⟨_, he, post_law (tb := 4) rfl laidOut (by rw [Try.params3]; kernel_rfl) (by kernel_rfl) Try.underlying4 rfl hW' hu⟩

theorem loopWalks_holds : Rows.LoopWalksSaid :=
  OpenClaim.holds_of_wide 3 Try.f3 rfl rfl rfl rfl rfl rfl rfl ⟨rfl, rfl, rfl, rfl, rfl⟩ rfl rfl rfl rfl rfl (by kernel_rfl) Try.func3 (by kernel_rfl)
    (of_decide_eq_true (by kernel_rfl)) (by unfold Func.isWrapper; first | (rw [if_pos (by decide +kernel)]; kernel_rfl) | (rw [if_neg (by decide +kernel)]; exact ⟨rfl, rfl⟩))
    (fun os started H enc _ => loopWalks_lifted os started H enc)
#print axioms loopWalks_holds
end Go.Proofs.Ytdholfagmlablaa
