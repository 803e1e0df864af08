/- What slices.Sort at uint32 does: up to twelve numbers. -/
import Derived.Test.YtdholfagmlablaaT12
import Derived.Test.YtdholfagmlablaaSxN
namespace Go.Proofs.Ytdholfagmlablaa
open Go.Sx Go.Proofs

def lenTab (n : Nat) : Nat := [0, 1, 2, 2, 3, 3, 3, 3, 4, 4, 4, 4, 4].getD n 0
set_option maxRecDepth 100000 in
theorem len64_12 (n : Nat) (h : n ≤ 12) : CallSpec Try.prog 111 [.int .u64 n] [] [] (fun v cs => v = .int .i64 (lenTab n : Nat) ∧ cs = []) := by
  refine CallSpec.of [.v (.int .u64 n)] [] (by kernel_rfl) (by kernel_rfl) (by kernel_rfl) (by kernel_rfl) fun w0 => ?_
  have h' : n = 0 ∨ n = 1 ∨ n = 2 ∨ n = 3 ∨ n = 4 ∨ n = 5 ∨ n = 6 ∨ n = 7 ∨ n = 8 ∨ n = 9 ∨ n = 10 ∨ n = 11 ∨ n = 12 := by omega
  rcases h' with rfl | rfl | rfl | rfl | rfl | rfl | rfl | rfl | rfl | rfl | rfl | rfl | rfl <;>
    (refine SG.run 400 fun ν => ?_
     exact SG.ret [] _ (by kernel_rfl) (by kernel_rfl) rfl (by kernel_rfl) (by kernel_rfl) ⟨by kernel_rfl, rfl⟩)

set_option maxRecDepth 100000 in
theorem len_12 (n : Nat) (h : n ≤ 12) : CallSpec Try.prog 91 [.int .u64 n] [] [] (fun v cs => v = .int .i64 (lenTab n : Nat) ∧ cs = []) := by
  refine CallSpec.of [.v (.int .u64 n)] [] (by kernel_rfl) (by kernel_rfl) (by kernel_rfl) (by kernel_rfl) fun w0 => ?_
  refine SG.run 10 fun ν0 => ?_
  refine SG.pack ?_; intro q1
  refine SG.call [] [] [] (len64_12 (n) (by first | assumption | omega | (simp; done) | (simp; omega) | simp [*] | (simp [*]; omega))) (by kernel_rfl) (by kernel_rfl) (by kernel_rfl) (by kernel_rfl) (by kernel_rfl) (by kernel_rfl) (by kernel_rfl) ?_
  rintro v1 cs1 ⟨rfl, rfl⟩
  refine SG.pack ?_; intro q1
  refine SG.run 2 fun ν2 => ?_
  refine SG.ret [] (Value.int IntKind.i64 (↑(lenTab n) : Int)) (by kernel_rfl) (by kernel_rfl) (by kernel_rfl) (by kernel_rfl) (by kernel_rfl) ?_
  exact ⟨by kernel_rfl, by kernel_rfl⟩

set_option maxRecDepth 100000 in
set_option maxHeartbeats 1000000 in
theorem pdq12_spec (A : Option Addr) (cap : Nat) (xs : List Int) (n : Nat) (hn : xs.length = n) (h12 : n ≤ 12) (m : Nat) :
    CallSpec Try.prog 101 [.slice A n cap, .int .i64 0, .int .i64 n, .int .i64 m] [rowC 23 1 A cap (u32s xs)] [] (fun v cs => v = .tuple #[] ∧ cs = [rowC 23 1 A cap (u32s (insortF xs))]) := by
  refine CallSpec.of [.v (.slice A n cap), .v (.int .i64 0), .v (.int .i64 n), .v (.int .i64 m)] [(0, .ab (rowC 23 1 A cap (u32s xs)))] (by kernel_rfl) (by kernel_rfl) (by kernel_rfl) (by kernel_rfl) fun w0 => ?_
  refine SG.run 3 fun ν0 => ?_
  refine SG.run 6 fun ν1 => ?_
  refine SG.unroll (by kernel_rfl) ?_
  have hsub : IntKind.wrap IntKind.i64 ((n : Int) - 0) = n := by rw [Int.sub_zero, wrap_i64 (by omega) (by omega)]
  refine SG.run 6 fun ν2 => ?_
  refine SG.nat 21 IntKind.i64 (IntKind.wrap IntKind.i64 ((↑n : Int) - 0)) (n - 0) (by kernel_rfl) (by (repeat first | rw [wrap_i64 (by omega) (by omega)] | rw [wrap_u64 (by omega) (by omega)]); first | done | omega) ?_
  refine SG.run 8 fun ν3 => ?_
  refine SG.dec 23 (decide ((↑(n - 0) : Int) ≤ 12)) true (by first | assumption | (simp only [decide_eq_true_eq]; omega) | (simp; done) | (simp; omega)) (by kernel_rfl) ?_
  refine SG.run 6 fun ν4 => ?_
  refine SG.pack ?_; intro q5
  refine SG.call [0] [] [] (insort_spec (A) (cap) (xs) (n) (by first | assumption | omega | (simp; done) | (simp; omega) | simp [*] | (simp [*]; omega)) (by first | assumption | omega | (simp; done) | (simp; omega) | simp [*] | (simp [*]; omega))) (by kernel_rfl) (by kernel_rfl) (by kernel_rfl) (by kernel_rfl) (by kernel_rfl) (by kernel_rfl) (by kernel_rfl) ?_
  rintro v5 cs5 ⟨rfl, rfl⟩
  refine SG.pack ?_; intro q5
  refine SG.run 1 fun ν6 => ?_
  refine SG.ret [1] (Value.tuple { toList := [] }) (by kernel_rfl) (by kernel_rfl) (by kernel_rfl) (by kernel_rfl) (by kernel_rfl) ?_
  exact ⟨by kernel_rfl, by kernel_rfl⟩
set_option maxRecDepth 100000 in
theorem sort12_spec (A : Option Addr) (cap : Nat) (xs : List Int) (n : Nat) (hn : xs.length = n) (h12 : n ≤ 12) :
    CallSpec Try.prog 86 [.slice A n cap] [rowC 23 1 A cap (u32s xs)] [] (fun v cs => v = .tuple #[] ∧ cs = [rowC 23 1 A cap (u32s (insortF xs))]) := by
  refine CallSpec.of [.v (.slice A n cap)] [(0, .ab (rowC 23 1 A cap (u32s xs)))] (by kernel_rfl) (by kernel_rfl) (by kernel_rfl) (by kernel_rfl) fun w0 => ?_
  refine SG.run 5 fun ν0 => ?_
  refine SG.run 6 fun ν1 => ?_
  refine SG.nat 8 IntKind.u64 (IntKind.wrap IntKind.u64 (↑n : Int)) n (by kernel_rfl) (by (repeat first | rw [wrap_i64 (by omega) (by omega)] | rw [wrap_u64 (by omega) (by omega)]); first | done | omega) ?_
  refine SG.pack ?_; intro q2
  refine SG.call [] [] [] (len_12 (n) (by first | assumption | omega | (simp; done) | (simp; omega) | simp [*] | (simp [*]; omega))) (by kernel_rfl) (by kernel_rfl) (by kernel_rfl) (by kernel_rfl) (by kernel_rfl) (by kernel_rfl) (by kernel_rfl) ?_
  rintro v2 cs2 ⟨rfl, rfl⟩
  refine SG.pack ?_; intro q2
  refine SG.pack ?_; intro q3
  refine SG.call [0] [] [] (pdq12_spec (A) (cap) (xs) (n) (by first | assumption | omega | (simp; done) | (simp; omega) | simp [*] | (simp [*]; omega)) (by first | assumption | omega | (simp; done) | (simp; omega) | simp [*] | (simp [*]; omega)) (lenTab n)) (by kernel_rfl) (by kernel_rfl) (by kernel_rfl) (by kernel_rfl) (by kernel_rfl) (by kernel_rfl) (by kernel_rfl) ?_
  rintro v3 cs3 ⟨rfl, rfl⟩
  refine SG.pack ?_; intro q3
  refine SG.run 1 fun ν4 => ?_
  refine SG.ret [1] (Value.tuple { toList := [] }) (by kernel_rfl) (by kernel_rfl) (by kernel_rfl) (by kernel_rfl) (by kernel_rfl) ?_
  exact ⟨by kernel_rfl, by kernel_rfl⟩
end Go.Proofs.Ytdholfagmlablaa
