/- What the law's own bit, Right and Has do (for every argument). -/
import Derived.Test.YtdholfagmlablaaT3
namespace Go.Proofs.Ytdholfagmlablaa
open Go.Sx Go.Proofs

theorem and_one_u32 (x : Int) : bits .and .u32 x 1 = x % 2 := by
  have hb : bits .and .u32 x 1 = IntKind.u32.wrap ((BitVec.ofInt 32 x &&& BitVec.ofInt 32 1).toNat : Int) := rfl
  have key : (BitVec.ofInt 32 x &&& BitVec.ofInt 32 1).toNat = (x % 2 ^ 32).toNat % 2 ^ 1 := by
    rw [BitVec.toNat_and, BitVec.toNat_ofInt, BitVec.toNat_ofInt]
    have : ((1 : Int) % ((2 ^ 32 : Nat) : Int)).toNat = 2 ^ 1 - 1 := by decide
    rw [this, Nat.and_two_pow_sub_one_eq_mod]
    rfl
  rw [hb, key]
  simp only [IntKind.wrap, IntKind.bits, IntKind.signed]
  simp only [Bool.false_and, Bool.false_eq_true, if_false]
  omega

def bitF (a i : Int) : Bool := (a / 2 ^ (31 - i).toNat) % 2 == 1

theorem bit_spec (a i : Int) (h0 : 0 ≤ i) (h1 : i < 32) : CallSpec Try.prog 41 [.int .u32 a, .int .i64 i] [] [] (fun v cs => v = .bool (bitF a i) ∧ cs = []) := by
  refine CallSpec.of [.v (.int .u32 a), .v (.int .i64 i)] [] (by kernel_rfl) (by kernel_rfl) (by kernel_rfl) (by kernel_rfl) fun w0 => ?_
  refine SG.put 8 (.int .u64 (IntKind.u64.wrap (IntKind.i64.wrap (31 - i)))) (.int .u64 (31 - i)) (fun ν => by kernel_rfl) (by rw [wrap_i64 (by omega) (by omega), wrap_u64 (by omega) (by omega)]) fun ν => ?_
  refine SG.bin .shr 23 (.int .u32 a) (.int .u64 (31 - i)) (.int .u32 (a / 2 ^ (31 - i).toNat)) (by kernel_rfl) (by kernel_rfl) rfl ?_ (by kernel_rfl) ?_
  · rw [binOp_shr, shift_shr _ _ _ _ (by omega) (by simp [IntKind.bits]; omega)]
  refine SG.put 10 (.int .u32 (bits .and .u32 (a / 2 ^ (31 - i).toNat) 1)) (.int .u32 (a / 2 ^ (31 - i).toNat % 2)) (fun ν => by kernel_rfl) (by rw [and_one_u32]) fun ν => ?_
  refine SG.run 400 fun ν => ?_
  exact SG.ret [] (.bool (bitF a i)) (by kernel_rfl) (by kernel_rfl) (by kernel_rfl) (by kernel_rfl) (by kernel_rfl) ⟨rfl, rfl⟩

def right2 (p : Pre) : Bool := decide (0 ≤ p.l) && decide (p.l ≤ 32) && (List.range 32).all fun i => decide ((i : Int) < p.l) || !bitF p.a i

set_option maxRecDepth 10000 in
theorem right2_spec (p : Pre) : CallSpec Try.prog 13 [p.v] [] [] (fun v cs => v = .bool (right2 p) ∧ cs = []) := by
  refine CallSpec.of [.v p.v] [] (by kernel_rfl) (by kernel_rfl) (by kernel_rfl) (by kernel_rfl) fun w0 => ?_
  refine SG.test 6 (decide (p.l < 0)) (fun ν => by kernel_rfl) (fun h1 ν => ?_) (fun h1 ν => ?_)
  · refine SG.run 400 fun ν => ?_
    refine SG.ret [] (.bool false) (by kernel_rfl) (by kernel_rfl) (by kernel_rfl) (by kernel_rfl) (by kernel_rfl) ⟨?_, rfl⟩
    have : p.l < 0 := by simpa using h1
    have : ¬ 0 ≤ p.l := by omega
    simp [right2, this]
  refine SG.test 10 (decide (p.l > 32)) (fun ν => by kernel_rfl) (fun h2 ν => ?_) (fun h2 ν => ?_)
  · refine SG.run 400 fun ν => ?_
    refine SG.ret [] (.bool false) (by kernel_rfl) (by kernel_rfl) (by kernel_rfl) (by kernel_rfl) (by kernel_rfl) ⟨?_, rfl⟩
    have : p.l > 32 := by simpa using h2
    have : ¬ p.l ≤ 32 := by omega
    simp [right2, this]
  have hl0 : 0 ≤ p.l := by have : ¬ p.l < 0 := by simpa using h1
                           omega
  have hl1 : p.l ≤ 32 := by have : ¬ p.l > 32 := by simpa using h2
                            omega
  refine SG.run 400 fun ν => ?_
  obtain ⟨l, hl⟩ : ∃ l : Nat, p.l = l := ⟨p.l.toNat, by omega⟩
  refine SG.slot 3 (.v (.int .i64 p.l)) (.v (.int .i64 (l : Nat))) (by kernel_rfl) (by rw [hl]) trivial ?_
  refine SG.pack ?_; intro q0
  refine SG.loopI (fun σ (k : Nat) => { σ with t := (3, .v (.int .i64 k)) :: keepT σ [1], h := keepH σ [0], n := 1 })
    (fun k => p.l ≤ k ∧ k ≤ 32 ∧ ∀ j : Nat, p.l ≤ j → j < k → bitF p.a j = false) (fun k => 32 - k) (by kernel_rfl) l ⟨by omega, by omega, fun j h h' => by omega⟩ (by kernel_rfl) (by kernel_rfl) (by kernel_rfl) ?_
  rintro k ⟨hk0, hk1, hno⟩ ih
  have hk' : ∀ b, (∀ j : Nat, p.l ≤ j → j < 32 → bitF p.a j = false) ∧ b = true ∨ (∃ j : Nat, p.l ≤ j ∧ j < 32 ∧ bitF p.a j = true) ∧ b = false → b = right2 p := by
    intro b hb
    rcases hb with ⟨h1, rfl⟩ | ⟨⟨j, h1, h2, h3⟩, rfl⟩
    · symm
      simp only [right2, hl0, hl1, decide_true, Bool.true_and, List.all_eq_true, List.mem_range, Bool.or_eq_true, decide_eq_true_eq, Bool.not_eq_true']
      intro i hi
      by_cases h : (i : Int) < p.l
      · exact .inl h
      · exact .inr (h1 i (by omega) hi)
    · symm
      simp only [right2, hl0, hl1, decide_true, Bool.true_and]
      rw [List.all_eq_false]
      exact ⟨j, List.mem_range.2 h2, by simp [h3]; omega⟩
  refine SG.test 15 (decide ((k : Int) < 32)) (fun ν => by kernel_rfl) (fun h3 ν => ?_) (fun h3 ν => ?_)
  · have hk2 : k < 32 := by have : (k : Int) < 32 := by simpa using h3
                            omega
    refine SG.run 400 fun ν => ?_
    refine SG.call [] [] [] (bit_spec p.a k (by omega) (by omega)) (by kernel_rfl) (by kernel_rfl) (by kernel_rfl) (by kernel_rfl) (by kernel_rfl) (by kernel_rfl) (by kernel_rfl) ?_
    rintro v cs ⟨rfl, rfl⟩
    refine SG.pack ?_; intro q1
    refine SG.split 21 (bitF p.a k) (by kernel_rfl) (fun h4 => ?_) (fun h4 => ?_)
    · refine SG.run 400 fun ν => ?_
      exact SG.ret [] (.bool false) (by kernel_rfl) (by kernel_rfl) (by kernel_rfl) (by kernel_rfl) (by kernel_rfl) ⟨congrArg Value.bool (hk' false (.inr ⟨⟨k, hk0, hk2, h4⟩, rfl⟩)), rfl⟩
    · refine SG.run 400 fun ν => ?_
      refine SG.inc 3 k (by kernel_rfl) (by omega) ?_
      refine SG.next (ih (k + 1) ⟨by omega, by omega, fun j h h' => ?_⟩ (by omega)) (by kernel_rfl) (by kernel_rfl) (by kernel_rfl) (by kernel_rfl)
      by_cases e : j = k
      · subst e; exact h4
      · exact hno j h (by omega)
  · have hk2 : k = 32 := by have : ¬ (k : Int) < 32 := by simpa using h3
                            omega
    subst hk2
    refine SG.run 400 fun ν => ?_
    exact SG.ret [] (.bool true) (by kernel_rfl) (by kernel_rfl) (by kernel_rfl) (by kernel_rfl) (by kernel_rfl) ⟨congrArg Value.bool (hk' true (.inl ⟨hno, rfl⟩)), rfl⟩

def has2 (p : Pre) (a : Int) : Bool := right2 p && (List.range 32).all fun i => decide (p.l ≤ (i : Int)) || (bitF a i == bitF p.a i)

set_option maxRecDepth 10000 in
theorem has2_spec (p : Pre) (a : Int) : CallSpec Try.prog 69 [p.v, .int .u32 a] [] [] (fun v cs => v = .bool (has2 p a) ∧ cs = []) := by
  refine CallSpec.of [.v p.v, .v (.int .u32 a)] [] (by kernel_rfl) (by kernel_rfl) (by kernel_rfl) (by kernel_rfl) fun w0 => ?_
  refine SG.run 400 fun ν => ?_
  refine SG.call [] [] [] (right2_spec p) (by kernel_rfl) (by kernel_rfl) (by kernel_rfl) (by kernel_rfl) (by kernel_rfl) (by kernel_rfl) (by kernel_rfl) ?_
  rintro v cs ⟨rfl, rfl⟩
  refine SG.pack ?_; intro q0
  refine SG.test 8 (!right2 p) (fun ν => by kernel_rfl) (fun h1 ν => ?_) (fun h1 ν => ?_)
  · refine SG.run 400 fun ν => ?_
    refine SG.ret [] (.bool false) (by kernel_rfl) (by kernel_rfl) (by kernel_rfl) (by kernel_rfl) (by kernel_rfl) ⟨?_, rfl⟩
    have : right2 p = false := by simpa using h1
    simp [has2, this]
  have hr : right2 p = true := by simpa using h1
  have hrr : 0 ≤ p.l ∧ p.l ≤ 32 := by
    simp only [right2, Bool.and_eq_true, decide_eq_true_eq] at hr; exact ⟨hr.1.1, hr.1.2⟩
  refine SG.run 400 fun ν => ?_
  refine SG.pack ?_; intro q1
  refine SG.loopI (fun σ (k : Nat) => { σ with t := (5, .v (.int .i64 k)) :: keepT σ [1, 2], h := keepH σ [0], n := 1 })
    (fun k => (k : Int) ≤ p.l ∧ ∀ j : Nat, j < k → bitF a j = bitF p.a j) (fun k => 32 - k) (by kernel_rfl) 0 ⟨by omega, fun j h' => by omega⟩ (by kernel_rfl) (by kernel_rfl) (by kernel_rfl) ?_
  rintro k ⟨hk0, hno⟩ ih
  have hk' : ∀ b, (∀ j : Nat, (j : Int) < p.l → bitF a j = bitF p.a j) ∧ b = true ∨ (∃ j : Nat, (j : Int) < p.l ∧ bitF a j ≠ bitF p.a j) ∧ b = false → b = has2 p a := by
    intro b hb
    rcases hb with ⟨h1, rfl⟩ | ⟨⟨j, h1, h3⟩, rfl⟩
    · symm
      simp only [has2, hr, Bool.true_and, List.all_eq_true, List.mem_range, Bool.or_eq_true, decide_eq_true_eq, beq_iff_eq]
      intro i hi
      by_cases h : p.l ≤ (i : Int)
      · exact .inl h
      · exact .inr (h1 i (by omega))
    · symm
      simp only [has2, hr, Bool.true_and]
      rw [List.all_eq_false]
      exact ⟨j, List.mem_range.2 (by omega), by simp [h3]; omega⟩
  refine SG.test 12 (decide ((k : Int) < p.l)) (fun ν => by kernel_rfl) (fun h3 ν => ?_) (fun h3 ν => ?_)
  · have hk2 : (k : Int) < p.l := by simpa using h3
    refine SG.run 400 fun ν => ?_
    refine SG.pack ?_; intro q2
    refine SG.draw 8 [(2, .v (.bool (bitF a k))), (6, .v (.bool (bitF p.a k)))] _ rfl (by kernel_rfl) (by kernel_rfl) (by kernel_rfl) (by kernel_rfl) (by kernel_rfl)
      ⟨OpTo.call [] [] ((bit_spec a k (by omega) (by omega)).mono fun v cs h => h.1) (by kernel_rfl) (by kernel_rfl) (by kernel_rfl),
       OpTo.call [] [] ((bit_spec p.a k (by omega) (by omega)).mono fun v cs h => h.1) (by kernel_rfl) (by kernel_rfl) (by kernel_rfl), trivial⟩ ?_
    refine SG.pack ?_; intro q3
    refine SG.split 22 (bitF a k != bitF p.a k) (by kernel_rfl) (fun h4 => ?_) (fun h4 => ?_)
    · refine SG.run 400 fun ν => ?_
      exact SG.ret [] (.bool false) (by kernel_rfl) (by kernel_rfl) (by kernel_rfl) (by kernel_rfl) (by kernel_rfl) ⟨congrArg Value.bool (hk' false (.inr ⟨⟨k, hk2, by simpa using h4⟩, rfl⟩)), rfl⟩
    · refine SG.run 400 fun ν => ?_
      refine SG.inc 5 k (by kernel_rfl) (by omega) ?_
      refine SG.next (ih (k + 1) ⟨by omega, fun j h' => ?_⟩ (by omega)) (by kernel_rfl) (by kernel_rfl) (by kernel_rfl) (by kernel_rfl)
      by_cases e : j = k
      · subst e; simpa using h4
      · exact hno j (by omega)
  · have hk2 : ¬ (k : Int) < p.l := by simpa using h3
    refine SG.run 400 fun ν => ?_
    exact SG.ret [] (.bool true) (by kernel_rfl) (by kernel_rfl) (by kernel_rfl) (by kernel_rfl) (by kernel_rfl) ⟨congrArg Value.bool (hk' true (.inl ⟨fun j hj => hno j (by omega), rfl⟩)), rfl⟩
#print axioms has2_spec
end Go.Proofs.Ytdholfagmlablaa
