/- A walk is no longer than there are machines. -/
import Derived.Test.YtdholfagmlablaaT8
namespace Go.Proofs.Ytdholfagmlablaa
open Go.Sx Go.Proofs

theorem walk_len (fs : List (List Ent)) (a : Int) : ∀ m path p, path.length + free fs.length path = fs.length → (walkF fs a m path p).1.length ≤ fs.length
  | 0, path, p, h => by rw [walkF]; simp only; omega
  | m + 1, path, p, h => by
    rw [walkF]
    by_cases h1 : p < 0 ∨ (fs.length : Int) ≤ p
    · rw [if_pos h1]; simp only; omega
    · rw [if_neg h1]
      by_cases h2 : p ∈ path
      · rw [if_pos h2]; simp only; omega
      · rw [if_neg h2]
        have hs := free_step (n := fs.length) (path := path) (p := p) (by omega) (by omega) h2
        simp only
        split
        · simp only [List.length_append, List.length_singleton]; omega
        · exact walk_len fs a m _ _ (by simp only [List.length_append, List.length_singleton]; omega)
theorem walk_len0 (fs : List (List Ent)) (a : Int) (m : Nat) (p : Int) : (walkF fs a m [] p).1.length ≤ fs.length := walk_len fs a m [] p (by simp [free_nil])
#print axioms walk_len0
end Go.Proofs.Ytdholfagmlablaa
