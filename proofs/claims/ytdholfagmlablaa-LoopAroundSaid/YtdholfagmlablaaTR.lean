/- Following the next machine for as many steps as there are machines, and striking out again and again who leads nowhere, tell the same: whether there is a ring. -/
import Derived.Test.YtdholfagmlablaaT11
namespace Go.Proofs.Ytdholfagmlablaa
open Go.Sx Go.Proofs

theorem fold_all (Q : Ent → Prop) (hQ : ∀ x, Q (triE x)) (n : Nat) : ∀ (l : List Tri) (fs : List (List Ent)), (∀ f ∈ fs, ∀ e ∈ f, Q e) → ∀ f ∈ l.foldl (fibsStep n) fs, ∀ e ∈ f, Q e
  | [], _, h => h
  | x :: l, fs, h => by
    rw [List.foldl_cons]
    refine fold_all Q hQ n l _ fun f hf e he => ?_
    rw [fibsStep] at hf
    rcases List.mem_or_eq_of_mem_set hf with hf | hf
    · exact h f hf e he
    · rw [hf, List.mem_append] at he
      rcases he with he | he
      · rw [List.getD_eq_getElem?_getD] at he
        cases hq : fs[triI n x]? with
        | none => rw [hq] at he; simp at he
        | some f' => rw [hq] at he; exact h f' (List.mem_of_getElem? hq) e he
      · rw [List.mem_singleton.1 he]; exact hQ x
theorem fibs_nn (n : Nat) (l : List Tri) : ∀ f ∈ fibsF n l, ∀ e ∈ f, 0 ≤ e.next :=
  fold_all _ (fun x => by unfold triE; simp only; split <;> omega) n l _ fun f hf e he => by rw [(List.mem_replicate.1 hf).2] at he; cases he
theorem next1_snoc (p : Pre) (l : List Ent) (e : Ent) (h : ∀ e ∈ l, 0 ≤ e.next) : next1 p (l ++ [e]) = if next1 p l < 0 ∧ (e.p == p && e.how == 2) = true then e.next else next1 p l := by
  unfold next1
  rw [List.find?_append]
  cases hf : l.find? (fun e => e.p == p && e.how == 2) with
  | some x =>
    have := h x (List.mem_of_find?_eq_some hf)
    simp only [Option.some_or]
    rw [if_neg (by omega)]
  | none =>
    simp only [Option.none_or, List.find?_cons, List.find?_nil]
    cases hq : (e.p == p && e.how == 2) with
    | true => simp
    | false => simp
def swp (xs : List Int) (i : Nat) : List Int := if 0 ≤ xs.getD i (-1) ∧ xs.getD (xs.getD i (-1)).toNat (-1) < 0 then xs.set i (-1) else xs
def sweepTo (i : Nat) (xs : List Int) : List Int := (List.range i).foldl swp xs
def swps (n : Nat) : Nat → List Int → List Int
  | 0, xs => xs
  | k + 1, xs => sweepTo n (swps n k xs)
def good (n : Nat) (xs : List Int) : Prop := xs.length = n ∧ ∀ x ∈ xs, x < n
theorem swp_good {n : Nat} {xs : List Int} (h : good n xs) (i : Nat) : good n (swp xs i) := by
  unfold swp
  split
  · refine ⟨by rw [List.length_set]; exact h.1, fun x hx => ?_⟩
    rcases List.mem_or_eq_of_mem_set hx with hx | hx
    · exact h.2 x hx
    · omega
  · exact h
theorem sweep_next (i : Nat) (xs : List Int) : sweepTo (i + 1) xs = swp (sweepTo i xs) i := by
  rw [sweepTo, List.range_succ, List.foldl_append]; rfl
theorem sweep_good {n : Nat} {xs : List Int} (h : good n xs) : ∀ i, good n (sweepTo i xs)
  | 0 => h
  | i + 1 => by rw [sweep_next]; exact swp_good (sweep_good h i) i
theorem swps_good {n : Nat} {xs : List Int} (h : good n xs) : ∀ k, good n (swps n k xs)
  | 0 => h
  | k + 1 => sweep_good (swps_good h k) n
def gF (n : Nat) (p : Pre) (es : List Ent) : Int := if (n : Int) ≤ next1 p es then -1 else next1 p es
theorem right2_pfx (p : Pre) (h : p ∈ pfx4) : right2 p = true := by
  simp only [pfx4, List.mem_cons, List.not_mem_nil, or_false] at h
  rcases h with rfl | rfl | rfl | rfl <;> kernel_rfl

/-! ### a map of numbers below n into themselves, or out -/
section
variable (G : Nat → Int) (n : Nat)
def st : Nat → Nat → Bool
  | 0, _ => true
  | m + 1, j => if G j < 0 then false else st m (G j).toNat
theorem st_pos {m j : Nat} (h : st G (m + 1) j = true) : 0 ≤ G j ∧ st G m (G j).toNat = true := by
  rw [st] at h
  split at h
  · cases h
  · exact ⟨by omega, h⟩
theorem st_anti : ∀ (m j : Nat), st G (m + 1) j = true → st G m j = true
  | 0, _, _ => rfl
  | m + 1, j, h => by
    obtain ⟨h1, h2⟩ := st_pos G h
    rw [st, if_neg (by omega)]
    exact st_anti m _ h2
theorem st_le {m k : Nat} (hk : k ≤ m) (j : Nat) (h : st G m j = true) : st G k j = true := by
  induction m with
  | zero => rw [show k = 0 by omega]; rfl
  | succ m ih =>
    by_cases e : k = m + 1
    · rw [e]; exact h
    · exact ih (by omega) (st_anti G m j h)
theorem cnt_lt {α : Type} {p q : α → Bool} : ∀ {l : List α}, (∀ x ∈ l, p x = true → q x = true) → (∃ x ∈ l, q x = true ∧ p x = false) → l.countP p < l.countP q
  | [], _, ⟨_, hx, _⟩ => by cases hx
  | y :: l, h, ⟨x, hx, hq, hp⟩ => by
    rw [List.countP_cons, List.countP_cons]
    have hle : l.countP p ≤ l.countP q := List.countP_mono_left fun z hz => h z (List.mem_cons_of_mem _ hz)
    rcases List.mem_cons.1 hx with rfl | hx
    · rw [hq, hp]; simp; omega
    · have ih := cnt_lt (l := l) (fun z hz => h z (List.mem_cons_of_mem _ hz)) ⟨x, hx, hq, hp⟩
      have hy := h y (by simp)
      cases hpy : p y with
      | true => rw [hy hpy]; simp; omega
      | false => simp; split <;> omega
variable {G n} (hG : ∀ j, G j < n)
include hG
theorem st_same {k : Nat} (h : ∀ j, j < n → st G k j = true → st G (k + 1) j = true) : ∀ m j, j < n → st G k j = true → st G (k + m) j = true
  | 0, _, _, hj => hj
  | m + 1, j, hjn, hj => by
    obtain ⟨h1, h2⟩ := st_pos G (h j hjn hj)
    have hlt : (G j).toNat < n := by have := hG j; omega
    have := st_same h m _ hlt h2
    rw [show k + (m + 1) = (k + m) + 1 by omega, st, if_neg (by omega)]
    exact this
theorem st_all {i : Nat} (hi : i < n) (h : st G n i = true) : ∀ m, st G m i = true := by
  have hex : ∃ k, k < n ∧ ∀ j, j < n → st G k j = true → st G (k + 1) j = true := by
    refine Classical.byContradiction fun hno => ?_
    have hstep : ∀ k, k < n → (List.range n).countP (st G (k + 1)) < (List.range n).countP (st G k) := by
      intro k hk
      refine cnt_lt (fun j _ hj => st_anti G k j hj) ?_
      refine Classical.byContradiction fun hne => hno ⟨k, hk, fun j hj hs => ?_⟩
      cases hq : st G (k + 1) j with
      | true => rfl
      | false => exact absurd ⟨j, List.mem_range.2 hj, hs, hq⟩ hne
    have hsum : ∀ m, m ≤ n → (List.range n).countP (st G m) + m ≤ n := by
      intro m
      induction m with
      | zero => intro _; have := List.countP_le_length (p := st G 0) (l := List.range n); simpa using this
      | succ m ih => intro hm; have := hstep m (by omega); have := ih (by omega); omega
    have h0 := hsum n (Nat.le_refl _)
    have hpos : 0 < (List.range n).countP (st G n) := List.countP_pos_iff.2 ⟨i, List.mem_range.2 hi, h⟩
    omega
  obtain ⟨k, hk, hsame⟩ := hex
  intro m
  have hki := st_le G (Nat.le_of_lt hk) i h
  rcases Nat.lt_or_ge m k with hm | hm
  · exact st_le G (Nat.le_of_lt hm) i hki
  · have := st_same hG hsame (m - k) i hi hki
    rwa [show k + (m - k) = m by omega] at this

def Kin (G : Nat → Int) (n : Nat) (xs : List Int) : Prop := xs.length = n ∧ (∀ j, j < n → xs.getD j (-1) = G j ∨ xs.getD j (-1) = -1) ∧ ∀ j, j < n → (∀ m, st G m j = true) → xs.getD j (-1) = G j
omit hG in
theorem getD_set' (xs : List Int) (i j : Nat) (v : Int) (hi : i < xs.length) : (xs.set i v).getD j (-1) = if i = j then v else xs.getD j (-1) := by
  rw [List.getD_eq_getElem?_getD, List.getD_eq_getElem?_getD, List.getElem?_set]
  by_cases e : i = j
  · subst e; simp [hi]
  · simp [e]
omit hG in
theorem swp_neg (xs : List Int) (i j : Nat) (h : xs.getD j (-1) < 0) : (swp xs i).getD j (-1) < 0 := by
  unfold swp
  split
  · rename_i hc
    by_cases hi : i < xs.length
    · rw [getD_set' xs i j (-1) hi]; split <;> omega
    · rw [List.set_eq_of_length_le (by omega)]; exact h
  · exact h
omit hG in
theorem sweep_neg (xs : List Int) (j : Nat) (h : xs.getD j (-1) < 0) : ∀ i, (sweepTo i xs).getD j (-1) < 0
  | 0 => h
  | i + 1 => by rw [sweep_next]; exact swp_neg _ _ _ (sweep_neg xs j h i)
theorem swp_kin {xs : List Int} (h : Kin G n xs) (i : Nat) (hi : i < n) : Kin G n (swp xs i) := by
  obtain ⟨h1, h2, h3⟩ := h
  unfold swp
  split
  · rename_i hc
    have hil : i < xs.length := by omega
    refine ⟨by rw [List.length_set]; exact h1, fun j hj => ?_, fun j hj hs => ?_⟩
    · rw [getD_set' xs i j (-1) hil]
      split
      · exact .inr rfl
      · exact h2 j hj
    · rw [getD_set' xs i j (-1) hil]
      split
      · rename_i e
        subst e
        exfalso
        obtain ⟨p1, _⟩ := st_pos G (hs 1)
        have e1 := h3 i hj hs
        have hlt : (G i).toNat < n := by have := hG i; omega
        have hs' : ∀ m, st G m (G i).toNat = true := fun m => (st_pos G (hs (m + 1))).2
        have e2 := h3 _ hlt hs'
        obtain ⟨p2, _⟩ := st_pos G (hs' 1)
        rw [e1, e2] at hc
        omega
      · exact h3 j hj hs
  · exact ⟨h1, h2, h3⟩
theorem sweep_kin {xs : List Int} (h : Kin G n xs) : ∀ i, i ≤ n → Kin G n (sweepTo i xs)
  | 0, _ => h
  | i + 1, hi => by rw [sweep_next]; exact swp_kin hG (sweep_kin h i (by omega)) i (by omega)
theorem swps_kin {xs : List Int} (h : Kin G n xs) : ∀ k, Kin G n (swps n k xs)
  | 0 => h
  | k + 1 => sweep_kin hG (swps_kin h k) n (Nat.le_refl _)
theorem sweep_more {xs : List Int} (h : Kin G n xs) {k : Nat} (hd : ∀ j, j < n → st G k j = false → xs.getD j (-1) < 0) (j : Nat) (hj : j < n) (hs : st G (k + 1) j = false) : ∀ i, j < i → i ≤ n → (sweepTo i xs).getD j (-1) < 0
  | 0, hi, _ => by omega
  | i + 1, hi, hin => by
    rw [sweep_next]
    by_cases e : j = i
    · subst e
      have hk := sweep_kin hG h j (by omega)
      generalize hz : sweepTo j xs = zs at hk
      rcases hk.2.1 j hj with h1 | h1
      · by_cases hneg : G j < 0
        · exact swp_neg _ _ _ (by rw [h1]; exact hneg)
        · rw [st, if_neg hneg] at hs
          have hlt : (G j).toNat < n := by have := hG j; omega
          have h2 := hd _ hlt hs
          have h3 := sweep_neg xs _ h2 j
          rw [hz] at h3
          rw [swp, h1, if_pos ⟨by omega, h3⟩, getD_set' zs j j (-1) (by have := hk.1; omega), if_pos rfl]
          omega
      · exact swp_neg _ _ _ (by rw [h1]; omega)
    · exact swp_neg _ _ _ (sweep_more h hd j hj hs i (by omega) (by omega))
theorem swps_more {xs : List Int} (h : Kin G n xs) : ∀ k j, j < n → st G k j = false → (swps n k xs).getD j (-1) < 0
  | 0, _, _, hs => by cases hs
  | k + 1, j, hj, hs => sweep_more hG (swps_kin hG h k) (swps_more h k) j hj hs n hj (Nat.le_refl _)
theorem ring_iff {xs : List Int} (h : Kin G n xs) : ((List.range n).any fun i => st G n i) = (swps n n xs).any fun x => decide (x ≥ 0) := by
  have hK := swps_kin hG h n
  rw [Bool.eq_iff_iff, List.any_eq_true, List.any_eq_true]
  constructor
  · rintro ⟨i, hi, hs⟩
    have hi' := List.mem_range.1 hi
    have hall := st_all hG hi' hs
    have e := hK.2.2 i hi' hall
    obtain ⟨p1, _⟩ := st_pos G (hall 1)
    have hil : i < (swps n n xs).length := by rw [hK.1]; exact hi'
    rw [List.getD_eq_getElem?_getD, List.getElem?_eq_getElem hil] at e
    exact ⟨_, List.getElem_mem hil, by simp at e; simp [e, p1]⟩
  · rintro ⟨x, hx, hx0⟩
    obtain ⟨i, hi⟩ := List.getElem?_of_mem hx
    have hil := (List.getElem?_eq_some_iff.1 hi).1
    rw [hK.1] at hil
    refine ⟨i, List.mem_range.2 hil, ?_⟩
    cases hs : st G n i with
    | true => rfl
    | false =>
      have := swps_more hG h n i hil hs
      rw [List.getD_eq_getElem?_getD, hi] at this
      simp at this hx0
      omega
end

theorem stays_st (n : Nat) (fs : List (List Ent)) (p : Pre) (hnn : ∀ f ∈ fs, ∀ e ∈ f, 0 ≤ e.next) : ∀ (m : Nat) (j : Nat), stays n fs p m j = st (fun j => gF n p (fs.getD j [])) m j
  | 0, _ => rfl
  | m + 1, j => by
    rw [stays, st]
    simp only [Int.toNat_natCast]
    have hpos : next1 p (fs.getD j []) = -1 ∨ 0 ≤ next1 p (fs.getD j []) := by
      unfold next1
      split
      · rename_i e he
        right
        have hm := List.mem_of_find?_eq_some he
        rw [List.getD_eq_getElem?_getD] at hm
        cases hq : fs[j]? with
        | none => rw [hq] at hm; simp at hm
        | some f => rw [hq] at hm; exact hnn f (List.mem_of_getElem? hq) e hm
      · exact .inl rfl
    by_cases hc : next1 p (fs.getD j []) < 0 ∨ (n : Int) ≤ next1 p (fs.getD j [])
    · rw [if_pos hc, if_pos]
      unfold gF; split <;> omega
    · have hg : gF n p (fs.getD j []) = next1 p (fs.getD j []) := by unfold gF; rw [if_neg (by omega)]
      rw [if_neg hc, if_neg (by rw [hg]; omega), hg]
      have := stays_st n fs p hnn m (next1 p (fs.getD j [])).toNat
      rw [Int.toNat_of_nonneg (by omega)] at this
      exact this
theorem around_ring (n : Nat) (fs : List (List Ent)) (p : Pre) (hn : fs.length = n) (hnn : ∀ f ∈ fs, ∀ e ∈ f, 0 ≤ e.next) (ys : List Int) (hyl : ys.length = n) (hy : ∀ (j : Nat) (f : List Ent), fs[j]? = some f → ys[j]? = some (gF n p f)) :
    aroundF n fs p = (swps n n ys).any fun x => decide (x ≥ 0) := by
  have hG : ∀ j, (fun j => gF n p (fs.getD j [])) j < n := fun j => by
    show gF n p _ < n
    unfold gF; split <;> omega
  have hget : ∀ j, j < n → ys.getD j (-1) = gF n p (fs.getD j []) := fun j hj => by
    have hf : fs[j]? = some fs[j] := List.getElem?_eq_getElem (by omega)
    rw [List.getD_eq_getElem?_getD, hy j _ hf, List.getD_eq_getElem?_getD, hf]; rfl
  have h := ring_iff hG (xs := ys) ⟨hyl, fun j hj => .inl (hget j hj), fun j hj _ => hget j hj⟩
  rw [← h, aroundF]
  congr 1
  funext i
  exact stays_st n fs p hnn n i
end Go.Proofs.Ytdholfagmlablaa
