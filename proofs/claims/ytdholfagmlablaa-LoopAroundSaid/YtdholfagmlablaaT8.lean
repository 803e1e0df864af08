/- The two lookups, and so the two walks, agree where each entry has one of the four prefixes. -/
import Derived.Test.YtdholfagmlablaaT7
namespace Go.Proofs.Ytdholfagmlablaa
open Go.Sx Go.Proofs

def qe (a : Int) (e : Ent) : Bool := e.how != 0 && has2 e.p a
theorem pr2_eq (a : Int) (m : Nat) (e : Ent) : pr2 a m e = (e.p.l == (m : Int) && qe a e) := rfl

theorem look2_form (es : List Ent) (a : Int) : ∀ m, (look2 es a m).how = 0 ∨ ((look2 es a m).how ≠ 0 ∧ (look2 es a m).p.l < m)
  | 0 => .inl rfl
  | m + 1 => by
    rw [look2]
    cases h : es.find? (pr2 a m) with
    | some b =>
      have := List.find?_some h
      simp only [pr2, Bool.and_eq_true, beq_iff_eq, bne_iff_ne, ne_eq] at this
      refine .inr ⟨this.2.1, ?_⟩
      simp only; omega
    | none =>
      rcases look2_form es a m with h1 | ⟨h1, h2⟩
      · exact .inl h1
      · exact .inr ⟨h1, by simp only; omega⟩

theorem ite_iff {P Q : Prop} [Decidable P] [Decidable Q] {α : Type} {x y : α} (h : P ↔ Q) : (if P then x else y) = if Q then x else y := by
  by_cases hp : P
  · rw [if_pos hp, if_pos (h.1 hp)]
  · rw [if_neg hp, if_neg (fun hq => hp (h.2 hq))]

theorem look2_snoc (xs : List Ent) (e : Ent) (a : Int) : ∀ m, look2 (xs ++ [e]) a m = if qe a e = true ∧ e.p.l < m ∧ 0 ≤ e.p.l ∧ ((look2 xs a m).how = 0 ∨ (look2 xs a m).p.l < e.p.l) then e else look2 xs a m
  | 0 => by
    symm
    exact if_neg (by rintro ⟨_, h1, h2, _⟩; omega)
  | m + 1 => by
    have ih := look2_snoc xs e a m
    have hf := look2_form xs a m
    rw [look2, look2, List.find?_append]
    cases h : xs.find? (pr2 a m) with
    | some b =>
      have := List.find?_some h
      simp only [pr2, Bool.and_eq_true, beq_iff_eq, bne_iff_ne, ne_eq] at this
      simp only [Option.some_or]
      rw [if_neg]
      rintro ⟨_, h1, _, h2⟩
      rcases h2 with h2 | h2
      · exact this.2.1 h2
      · omega
    | none =>
      simp only [Option.none_or]
      by_cases hp : pr2 a m e = true
      · have hp' := hp
        rw [pr2_eq] at hp'
        simp only [Bool.and_eq_true, beq_iff_eq] at hp'
        have hcond : qe a e = true ∧ e.p.l < ((m + 1 : Nat) : Int) ∧ 0 ≤ e.p.l ∧ ((look2 xs a m).how = 0 ∨ (look2 xs a m).p.l < e.p.l) := ⟨hp'.2, by omega, by omega, by
          rcases hf with hf | ⟨_, hf⟩
          · exact .inl hf
          · exact .inr (by omega)⟩
        simp only [List.find?_cons, hp]
        exact (if_pos hcond).symm
      · simp only [List.find?_cons, Bool.eq_false_iff.2 hp, List.find?_nil]
        rw [ih]
        by_cases hq : qe a e = true
        · have hne : e.p.l ≠ m := by
            intro hm
            apply hp
            rw [pr2_eq, hq, hm]; simp
          exact ite_iff ⟨fun ⟨h1, h2, h3, h4⟩ => ⟨h1, by omega, h3, h4⟩, fun ⟨h1, h2, h3, h4⟩ => ⟨h1, by omega, h3, h4⟩⟩
        · rw [if_neg (fun h => hq h.1), if_neg (fun h => hq h.1)]

theorem look_eq (a : Nat) (ha : a < 2 ^ 32) (es : List Ent) (h : ∀ e ∈ es, e.p ∈ pfx4) : look2 es a 33 = lookupF es a := by
  have key : ∀ n (es : List Ent), es.length = n → (∀ e ∈ es, e.p ∈ pfx4) → look2 es a 33 = lookupF es a := by
    intro n
    induction n with
    | zero =>
      intro es hn _
      have : es = [] := List.eq_nil_of_length_eq_zero hn
      subst this
      have : ∀ m, look2 [] (a : Int) m = ent0 := by
        intro m
        induction m with
        | zero => rfl
        | succ m ih => rw [look2]; simpa using ih
      rw [this]; rfl
    | succ n ih =>
      intro es hn hes
      rcases List.eq_nil_or_concat es with rfl | ⟨xs, e, rfl⟩
      · simp at hn
      · rw [List.concat_eq_append] at hn hes ⊢
        have hx := ih xs (by simpa using hn) (fun y hy => hes y (by simp [hy]))
        have hp := hes e (by simp)
        have hl : 0 ≤ e.p.l ∧ e.p.l < (33 : Nat) := by
          have : ∀ p ∈ pfx4, 0 ≤ p.l ∧ p.l < (33 : Nat) := by decide
          exact this e.p hp
        rw [look2_snoc, lookupF, List.foldl_append, ← lookupF, hx]
        simp only [List.foldl_cons, List.foldl_nil, lookupS, qe, has_pfx4 e.p hp a ha]
        generalize lookupF xs a = b
        by_cases h1 : e.p.has a = true <;> by_cases h2 : e.how = 0 <;> by_cases h3 : b.how = 0 <;> by_cases h4 : b.p.l < e.p.l <;> simp [h1, h2, h3, h4, hl.1, hl.2] <;> omega
  exact key _ es rfl h

theorem tri_pfx (x : Tri) : (triE x).p ∈ pfx4 := by
  have : ∀ k, k < 4 → pfx4.getD k default ∈ pfx4 := by decide
  exact this _ (by omega)
theorem fold_pfx (n : Nat) : ∀ (l : List Tri) (fs : List (List Ent)), (∀ f ∈ fs, ∀ e ∈ f, e.p ∈ pfx4) → ∀ f ∈ l.foldl (fibsStep n) fs, ∀ e ∈ f, e.p ∈ pfx4
  | [], fs, h => h
  | x :: l, fs, h => fold_pfx n l (fibsStep n fs x) (fun f hf e he => by
      unfold fibsStep at hf
      rcases List.mem_or_eq_of_mem_set hf with hf | rfl
      · exact h f hf e he
      · rcases List.mem_append.1 he with he | he
        · rw [List.getD_eq_getElem?_getD] at he
          cases hq : fs[triI n x]? with
          | none => rw [hq] at he; simp at he
          | some y => rw [hq] at he; exact h y (List.mem_of_getElem? hq) e he
        · rw [List.mem_singleton.1 he]; exact tri_pfx x)
theorem fibs_pfx (n : Nat) (l : List Tri) : ∀ f ∈ fibsF n l, ∀ e ∈ f, e.p ∈ pfx4 :=
  fold_pfx n l _ fun f hf e he => by rw [(List.mem_replicate.1 hf).2] at he; cases he

theorem walk_eq (fs : List (List Ent)) (a : Nat) (ha : a < 2 ^ 32) (h : ∀ f ∈ fs, ∀ e ∈ f, e.p ∈ pfx4) : ∀ m path p, walk2F fs a m path p = walkF fs a m path p
  | 0, _, _ => rfl
  | m + 1, path, p => by
    have hl : look2 (fs.getD p.toNat []) a 33 = lookupF (fs.getD p.toNat []) a := by
      refine look_eq a ha _ fun e he => ?_
      rw [List.getD_eq_getElem?_getD] at he
      cases hq : fs[p.toNat]? with
      | none => rw [hq] at he; simp at he
      | some y => rw [hq] at he; exact h y (List.mem_of_getElem? hq) e he
    rw [walk2F, walkF, hl]
    simp only [walk_eq fs a ha h m]
#print axioms walk_eq
end Go.Proofs.Ytdholfagmlablaa
