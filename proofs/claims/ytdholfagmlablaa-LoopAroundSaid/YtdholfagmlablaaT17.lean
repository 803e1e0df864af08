/- The document's example of layer 13 answers true (no condition). -/
import Derived.Test.YtdholfagmlablaaT16
import Derived.Test.YtdholfagmlablaaSxN
namespace Go.Proofs.Ytdholfagmlablaa
open Go.Sx Go.Proofs

def headE (k : Int) : Ent := ⟨⟨167772160, 8⟩, 2, k⟩
def headR (g1 g2 : Nat) : List Row := [⟨some ⟨g1, 0, none⟩, 1, [headE 1]⟩, ⟨some ⟨g2, 0, none⟩, 1, [headE 0]⟩]
theorem head_find : findF [[headE 1], [headE 0]] 2 (addrsF [headE 1, headE 0]) = some (0, 167772160) := by kernel_rfl
theorem head_around : aroundF 2 [[headE 1], [headE 0]] ⟨167772160, 8⟩ = true := by kernel_rfl

set_option maxRecDepth 100000 in
set_option maxHeartbeats 4000000 in
theorem head_spec : CallSpec Try.prog 7 [] [] [] (fun v cs => v = .bool true ∧ cs = []) := by
  refine CallSpec.of [] [] (by kernel_rfl) (by kernel_rfl) (by kernel_rfl) (by kernel_rfl) fun w0 => ?_
  refine SG.run 24 fun ν0 => ?_
  refine SG.rowify 3 37 1 [.slice (some ⟨ν0 14, 0, none⟩) 1 1, .slice (some ⟨ν0 17, 0, none⟩) 1 1] ((headR (ν0 14) (ν0 17)).map fun r => [r.v]) (by kernel_rfl) (by kernel_rfl) (by simp [headR]) rfl (by simp [headR]) ?_
  refine SG.rowify 1 39 4 (headE 1).c [(headE 1).c] (by kernel_rfl) (by kernel_rfl) (by simp [headE, Ent.c]) rfl (by simp) ?_
  refine SG.rowify 2 39 4 (headE 0).c [(headE 0).c] (by kernel_rfl) (by kernel_rfl) (by simp [headE, Ent.c]) rfl (by simp) ?_
  refine SG.bundle [1, 2] ((headR (ν0 14) (ν0 17)).map Row.ch) (by kernel_rfl) (by kernel_rfl) ?_
  refine SG.call [] [3, 4] [] (find_spec (some ⟨ν0 18, 0, none⟩) 2 (by omega) (headR (ν0 14) (ν0 17)) rfl (by intro r hr; simp only [headR, List.mem_cons, List.not_mem_nil, or_false] at hr; rcases hr with rfl | rfl <;> simp)
    (by intro r hr e he; simp only [headR, List.mem_cons, List.not_mem_nil, or_false] at hr; rcases hr with rfl | rfl <;> (simp only [List.mem_cons, List.not_mem_nil, or_false] at he; rw [he]; simp [headE])) (by simp [headR, addrsE, addrs1, headE])) (by kernel_rfl) (by kernel_rfl) (by kernel_rfl) (by kernel_rfl) (by kernel_rfl) (by kernel_rfl) (by kernel_rfl) ?_
  rintro v cs ⟨rfl, rfl⟩
  rw [show findF ((headR (ν0 14) (ν0 17)).map Row.es) 2 (addrsF ((headR (ν0 14) (ν0 17)).flatMap Row.es)) = some (0, 167772160) from head_find]
  refine SG.pack ?_; intro q1
  refine SG.run 22 fun ν2 => ?_
  refine SG.call [] [3, 4] [] (around_spec (some ⟨ν0 18, 0, none⟩) 2 (by omega) (headR (ν0 14) (ν0 17)) rfl (by intro r hr; simp only [headR, List.mem_cons, List.not_mem_nil, or_false] at hr; rcases hr with rfl | rfl <;> simp) ⟨167772160, 8⟩)
    (by kernel_rfl) (by kernel_rfl) (by kernel_rfl) (by kernel_rfl) (by kernel_rfl) (by kernel_rfl) (by kernel_rfl) ?_
  rintro v cs ⟨rfl, rfl⟩
  rw [show aroundF 2 ((headR (ν0 14) (ν0 17)).map Row.es) ⟨167772160, 8⟩ = true from head_around]
  refine SG.pack ?_; intro q3
  refine SG.run 3 fun ν4 => ?_
  refine SG.ret [] (Value.bool true) (by kernel_rfl) (by kernel_rfl) (by kernel_rfl) (by kernel_rfl) (by kernel_rfl) ?_
  exact ⟨by kernel_rfl, by kernel_rfl⟩
end Go.Proofs.Ytdholfagmlablaa
