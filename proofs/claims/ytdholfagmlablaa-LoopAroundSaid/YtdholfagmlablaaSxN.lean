/- Walking Go's text by symbolic states: slices of slices, clear. -/
import Derived.Test.YtdholfagmlablaaSxM
namespace Go.Sx

theorem SeqAt.drop {w : World} {A : Option Addr} {cap sz : Nat} {xs : List (List Value)} (k : Nat) (h : SeqAt w A cap sz xs) : SeqAt w (A.map (·.add (k * sz))) (cap - k) sz (xs.drop k) := by
  obtain ⟨h1, h2, h3⟩ := h
  refine ⟨by rw [List.length_drop]; omega, fun x hx => h2 x (List.mem_of_mem_drop hx), ?_⟩
  rcases h3 with ⟨rfl, rfl⟩ | ⟨ad, rfl, hc⟩
  · exact .inl ⟨rfl, by simp⟩
  · refine .inr ⟨ad.add (k * sz), rfl, fun j u hj => ?_⟩
    rw [addr_add_add]
    refine hc _ u ?_
    have e : xs.flatten = (xs.take k).flatten ++ (xs.drop k).flatten := by rw [← List.flatten_append, List.take_append_drop]
    have hl : (xs.take k).flatten.length = (xs.take k).length * sz := flatten_len fun x hx => h2 x (List.mem_of_mem_take hx)
    by_cases hk : k ≤ xs.length
    · rw [e, List.getElem?_append_right (by rw [hl, List.length_take, Nat.min_eq_left hk]; omega), hl, List.length_take, Nat.min_eq_left hk]
      rw [show k * sz + j - k * sz = j by omega]; exact hj
    · rw [List.drop_of_length_le (by omega)] at hj; simp at hj

def slAt (σ : St) (todo : List Item) : Option (TypeId × Value × Option Value × Option Value) :=
  match (theOp todo).op with
  | .slice t x lo hi none => some (t, rhoOf σ x, lo.map (rhoOf σ), hi.map (rhoOf σ))
  | _ => none
def slT (todo : List Item) : TypeId := match (theOp todo).op with
  | .slice t _ _ _ _ => t
  | _ => 0
def slV (σ : St) (todo : List Item) : Option (Value × Option Value × Option Value) :=
  match slAt σ todo with
  | some (_, x, lo, hi) => some (x, lo, hi)
  | none => none
theorem slAt_of {σ : St} {todo : List Item} {x : Value} {lo hi : Option Value} (h : slV σ todo = some (x, lo, hi)) : slAt σ todo = some (slT todo, x, lo, hi) := by
  unfold slV at h
  cases hq : slAt σ todo with
  | none => rw [hq] at h; cases h
  | some p =>
    obtain ⟨T, a, b, c⟩ := p
    rw [hq] at h
    cases h
    have : T = slT todo := by
      unfold slAt at hq
      unfold slT
      cases ho : (theOp todo).op <;> simp only [ho] at hq ⊢ <;> try cases hq
      rename_i t x lo hi m
      cases m <;> simp only at hq <;> cases hq
      rfl
    rw [this]

def slB (P : Program) (σ : St) (todo : List Item) (sz : Nat) : Bool := (elemP P (slT todo)).isSome && (Nat.beq (szOf P (slT todo)) sz && (opReady σ todo && dstOk σ todo))

section
variable {P : Program} {C : Ctx P} {σ : St} {todo : List Item}

/-- 's[k:]', k below cap. -/
theorem SG.slLo (A : Option Addr) (n cap : Nat) (kk : IntKind) (k sz : Nat) (hop : slV σ todo = some (.slice A n cap, some (.int kk (k : Int)), none)) (hB : slB P σ todo sz = true) (hk : k ≤ n) (hc : k < cap)
    (h : SG P C (nextOf todo) (setD σ (dstOf todo) (.v (.slice (A.map (·.add (k * sz))) (n - k) (cap - k))))) : SG P C todo σ := by
  simp only [slB, Bool.and_eq_true] at hB
  obtain ⟨b1, b2, b3, b4⟩ := hB
  have e1 := elem_of b1
  rw [Nat.eq_of_beq_eq_true b2] at e1
  obtain ⟨hu, i, z, hi, _, hs, _, _, _, _⟩ := elemP_spec e1
  refine SG.opv _ b3 b4 (fun a w _ => ?_) h
  have hop' := slAt_of hop
  unfold slAt at hop'
  split at hop'
  case h_2 => cases hop'
  rename_i t x lo hi' ho
  simp only [Option.some.injEq, Prod.mk.injEq] at hop'
  obtain ⟨ht, hx, hlo, hhi⟩ := hop'
  cases lo with
  | none => cases hlo
  | some lo =>
    cases hi' with
    | some _ => cases hhi
    | none =>
      simp only [Option.map_some, Option.some.injEq] at hlo
      have h1 : (0 : Int) ≤ (k : Int) ∧ (k : Int) ≤ (n : Int) := by omega
      have h2 : cap ≠ k := by omega
      simp [semAt, execOp, ho, ht, hx, hlo, Instr.sliceAt, Instr.slice, run_underlying hu, Instr.sliceBounds, Instr.sliceBound, asIntOf, hk, h2, sizeOf, typeInfo, hi, hs]

/-- 's[:k]'. -/
theorem SG.slHi (A : Option Addr) (n cap : Nat) (kk : IntKind) (k sz : Nat) (hop : slV σ todo = some (.slice A n cap, none, some (.int kk (k : Int)))) (hB : slB P σ todo sz = true) (hc : k ≤ cap)
    (h : SG P C (nextOf todo) (setD σ (dstOf todo) (.v (.slice A k cap)))) : SG P C todo σ := by
  simp only [slB, Bool.and_eq_true] at hB
  obtain ⟨b1, b2, b3, b4⟩ := hB
  have e1 := elem_of b1
  rw [Nat.eq_of_beq_eq_true b2] at e1
  obtain ⟨hu, i, z, hi, _, hs, _, _, _, _⟩ := elemP_spec e1
  refine SG.opv _ b3 b4 (fun a w _ => ?_) h
  have hop' := slAt_of hop
  unfold slAt at hop'
  split at hop'
  case h_2 => cases hop'
  rename_i t x lo hi' ho
  simp only [Option.some.injEq, Prod.mk.injEq] at hop'
  obtain ⟨ht, hx, hlo, hhi⟩ := hop'
  cases hi' with
  | none => cases hhi
  | some hi' =>
    cases lo with
    | some _ => cases hlo
    | none =>
      simp only [Option.map_some, Option.some.injEq] at hhi
      have h1 : (0 : Int) ≤ (k : Int) ∧ (k : Int) ≤ (cap : Int) := by omega
      have h3 : (if cap = 0 then A else A.map (·.add (0 * sz))) = A := by
        split
        · rfl
        · cases A <;> simp [Addr.add]
      simp [semAt, execOp, ho, ht, hx, hhi, Instr.sliceAt, Instr.slice, run_underlying hu, Instr.sliceBounds, Instr.sliceBound, asIntOf, hc, sizeOf, typeInfo, hi, hs]
      first | done | (cases A <;> simp [Addr.add])

/-- A row, shortened: its first k. -/
theorem row_take {w : World} {e sz : Nat} {A : Option Addr} {cap : Nat} {xs : List (List Value)} (k : Nat) (h : (rowC e sz A cap xs).holds w) : (rowC e sz A cap (xs.take k)).holds w := by
  obtain ⟨⟨h1, h2⟩, h3⟩ := h
  have h3' : ∀ x ∈ xs.take k, x.length = sz := fun x hx => h3 x (List.mem_of_mem_take hx)
  refine ⟨⟨flatten_len h3', ?_⟩, h3'⟩
  have hle : (xs.take k).length ≤ xs.length := by rw [List.length_take]; omega
  rcases h2 with ⟨h4, h5⟩ | ⟨g, c, cur, h4, h5, h6, h7, h8, h9, h10⟩
  · injection h4 with ha hn hc
    refine .inl ⟨?_, by omega⟩
    rw [ha, hc]
    have : (xs.take k).length = 0 := by omega
    rw [this]
  · injection h4 with ha hn hc
    refine .inr ⟨g, c, cur, by rw [ha, hc], h5, h6, by omega, h8, h9, ?_⟩
    have e : xs.flatten = (xs.take k).flatten ++ (xs.drop k).flatten := by rw [← List.flatten_append, List.take_append_drop]
    have hl : (xs.take k).flatten.length = (xs.take k).length * sz := flatten_len h3'
    have := congrArg (List.take ((xs.take k).length * sz)) h10
    rw [List.take_take, Nat.min_eq_left (Nat.mul_le_mul_right sz hle), e, ← hl, List.take_left] at this
    rw [← hl]; exact this
theorem row_take_fp {e sz : Nat} {A : Option Addr} {cap : Nat} {xs : List (List Value)} (k : Nat) : ∀ x, (rowC e sz A cap (xs.take k)).fp x → (rowC e sz A cap xs).fp x := by
  intro x hx
  cases A with
  | none => simp [rowC, Value.ownBlock] at hx
  | some a => simpa [rowC, Value.ownBlock] using hx
theorem SG.cutRow (i e sz : Nat) (A : Option Addr) (cap : Nat) (xs : List (List Value)) (k : Nat) (hi : chunkAt σ i = rowC e sz A cap xs) (hs : (lk σ.h i).isSome = true) (h : SG P C todo (setC σ i (rowC e sz A cap (xs.take k)))) : SG P C todo σ := by
  intro a w hR cs
  obtain ⟨p, hp⟩ := Option.isSome_iff_exists.1 hs
  obtain ⟨b0, c0⟩ := p
  have hblk : blkOf σ.h i = b0 := by simp [blkOf, hp]
  have hch : c0.chunk (blkOf σ.h) b0 = rowC e sz A cap xs := by rw [← hi]; simp [chunkAt, hp]
  have hold := (hR.holds i b0 c0 hp).1
  rw [hch] at hold
  have := Real.turn hR hp (c' := .ab (rowC e sz A cap (xs.take k))) trivial (Upd.refl _ w) (row_take k hold) (fun x hx => .inl (by rw [hch]; exact row_take_fp k x hx))
  refine h a w ?_ cs
  unfold setC
  rw [hblk]
  exact this
/-- A block whose cells are known as a row of one's own. -/
theorem SG.rowify (i T sz : Nat) (vs : List Value) (xs : List (List Value)) (hi : chunkAt σ i = cellsC (blkOf σ.h i) vs T) (hs : (lk σ.h i).isSome = true) (hx : ∀ x ∈ xs, x.length = sz) (hf : xs.flatten = vs) (hm : xs.length ≤ 1000000)
    (h : SG P C todo (setC σ i (rowC T sz (some ⟨blkOf σ.h i, 0, none⟩) xs.length xs))) : SG P C todo σ := by
  intro a w hR cs
  obtain ⟨p, hp⟩ := Option.isSome_iff_exists.1 hs
  obtain ⟨b0, c0⟩ := p
  have hblk : blkOf σ.h i = b0 := by simp [blkOf, hp]
  have hch : c0.chunk (blkOf σ.h) b0 = cellsC b0 vs T := by rw [← hblk, ← hi]; simp [chunkAt, hp, hblk]
  have hold := (hR.holds i b0 c0 hp).1
  rw [hch] at hold
  rw [hblk] at h
  have := Real.turn hR hp (c' := .ab (rowC T sz (some ⟨b0, 0, none⟩) xs.length xs)) trivial (Upd.refl _ w) (row_of_cells hold hx hf (by simp only [maxLen]; omega)) (fun x hx => .inl (by
    rw [hch]
    have : x = b0 := by simpa [SC.chunk, rowC, Value.ownBlock] using hx.symm
    rw [this]; rfl))
  refine h a w ?_ cs
  unfold setC
  rw [hblk]
  exact this
/-- Pieces as one. -/
theorem SG.bundle (is : List Nat) (old : List Chunk) (hids : goodIds σ.n is = true) (ho : is.map (chunkAt σ) = old) (h : SG P C todo (addL (goneL σ is) [sepL old])) : SG P C todo σ :=
  SG.conv is old [sepL old] hids ho (fun _ hw => ⟨sepL_one.2 hw, fun _ hx => sepL_one_fp.1 hx⟩) h
theorem SG.mk' (kl kc : IntKind) (n bt : Nat) (hop : mkV σ todo = some (.int kl (n : Int), .int kc (n : Int))) (hB : mkB P σ todo = true) (hbt : byOf P (mkT todo) = bt) (hb : n * bt ≤ 140737488355328)
    (h : ∀ ν, SG P C (nextOf todo) (setD (addC σ 0 (.ab (rowC (elOf P (mkT todo)) (szOf P (mkT todo)) (some ⟨ν, 0, none⟩) n (List.replicate n (zsOf P (elOf P (mkT todo))))))) (dstOf todo) (.v (.slice (some ⟨ν, 0, none⟩) n n)))) : SG P C todo σ :=
  SG.mk kl kc n hop hB (by rw [hbt]; exact hb) h
/-- A loop's first round. -/
theorem SG.unroll (hl : isLoop todo = true) (h : SG P C (.code (bodyOf todo) :: .inLoop (bodyOf todo) :: tailOf todo) σ) : SG P C todo σ := by
  match todo, hl with
  | .code (.loop c) :: k, _ => exact h.steps fun a w hR => ⟨a, w, hR, fun cs => .one m_loop⟩
def isIn : List Item → Bool
  | .inLoop _ :: _ => true
  | _ => false
/-- A loop's next round. -/
theorem SG.unrollIn (hl : isIn todo = true) (h : SG P C (.code (bodyOf todo) :: todo) σ) : SG P C todo σ := by
  match todo, hl with
  | .inLoop c :: k, _ => exact h.steps fun a w hR => ⟨a, w, hR, fun cs => .one m_inLoop⟩
theorem SG.rowCap (i e sz : Nat) (A : Option Addr) (cap : Nat) (xs : List (List Value)) (hi : chunkAt σ i = rowC e sz A cap xs) (h : xs.length ≤ cap → SG P C todo σ) : SG P C todo σ :=
  SG.fact i (xs.length ≤ cap) (fun w hw => by rw [hi] at hw; exact (seq_row hw).1) h

/-! ### clear -/
def clAt (σ : St) (todo : List Item) : Option (TypeId × Value) :=
  match (theOp todo).op with
  | .call c => match c.callee, c.args.toList, c.argTypes.toList with
    | .builtin .clear, [s], [t] => match (theOp todo).dst with
      | none => some (t, rhoOf σ s)
      | some _ => none
    | _, _, _ => none
  | _ => none
def clT (todo : List Item) : TypeId := match (theOp todo).op with
  | .call c => match c.argTypes.toList with
    | [t] => t
    | _ => 0
  | _ => 0
def clV (σ : St) (todo : List Item) : Option Value := match clAt σ todo with
  | some (_, v) => some v
  | none => none
theorem clAt_of {σ : St} {todo : List Item} {x : Value} (h : clV σ todo = some x) : clAt σ todo = some (clT todo, x) := by
  unfold clV at h
  cases hq : clAt σ todo with
  | none => rw [hq] at h; cases h
  | some p =>
    obtain ⟨T, a⟩ := p
    rw [hq] at h
    cases h
    have : T = clT todo := by
      unfold clAt at hq
      unfold clT
      split at hq
      · rename_i c hc
        split at hq
        · rename_i s t _ _ hat
          split at hq
          · cases hq; simp only [hc, hat]
          · cases hq
        · cases hq
      · cases hq
    rw [this]
def clB (P : Program) (σ : St) (todo : List Item) (i sz : Nat) : Bool := (elemP P (clT todo)).isSome && (Nat.beq (szOf P (clT todo)) sz && (opReady σ todo && (lk σ.h i).isSome))

/-- 'clear(s[k:])': of the row its first k are left. -/
theorem SG.clearTail (i e sz : Nat) (A : Option Addr) (cap k m c' : Nat) (xs : List (List Value)) (hop : clV σ todo = some (.slice (A.map (·.add (k * sz))) m c')) (hi : chunkAt σ i = rowC e sz A cap xs)
    (hm : k + m = xs.length) (hB : clB P σ todo i sz = true) (zs : List Value) (hzs0 : zsOf P (elOf P (clT todo)) = zs) (hz : ∀ u ∈ zs, u.oneCell' = true) (h : SG P C (nextOf todo) (setC σ i (rowC e sz A cap (xs.take k)))) : SG P C todo σ := by
  subst hzs0
  intro a w hR cs
  simp only [clB, Bool.and_eq_true] at hB
  obtain ⟨b1, b2, b3, b4⟩ := hB
  have e1 := elem_of b1
  rw [Nat.eq_of_beq_eq_true b2] at e1
  obtain ⟨hu, ti, z, hti, hzz, hsz, _, hzs, hpos, _⟩ := elemP_spec e1
  obtain ⟨ops, j, rest, q, o, rfl, ho, hw, hdef, hdst, hex⟩ := opReady_spec b3 hR
  obtain ⟨p, hp⟩ := Option.isSome_iff_exists.1 b4
  obtain ⟨b0, c0⟩ := p
  have hblk : blkOf σ.h i = b0 := by simp [blkOf, hp]
  have hch : c0.chunk (blkOf σ.h) b0 = rowC e sz A cap xs := by rw [← hi]; simp [chunkAt, hp]
  have hrow := (hR.holds i b0 c0 hp).1
  rw [hch] at hrow
  have hop' := clAt_of hop
  unfold clAt at hop'
  have hth : theOp (.inRegion ops (j :: rest) :: q) = o := by simp [theOp, opAt, ho]
  rw [hth] at hop'
  split at hop'
  case h_2 => cases hop'
  rename_i cc hcc
  split at hop'
  case h_2 => cases hop'
  rename_i s t hcal hargs hats
  split at hop'
  case h_2 => cases hop'
  rename_i hdn
  simp only [Option.some.injEq, Prod.mk.injEq] at hop'
  obtain ⟨ht, hs⟩ := hop'
  have hargs' : cc.args = #[s] := by rw [← Array.toArray_toList (xs := cc.args), hargs]
  have hats' : cc.argTypes = #[t] := by rw [← Array.toArray_toList (xs := cc.argTypes), hats]
  have hput : ∀ v, a.put o.dst v = a := by intro v; rw [hdn]; rfl
  -- what becomes of the world
  have key : ∃ w', (execOp a.eval o).run P w = .ok (.value (.tuple #[])) w' ∧ Upd (rowC e sz A cap xs).fp w w' ∧ (rowC e sz A cap (xs.take k)).holds w' := by
    by_cases hm0 : m = 0
    · refine ⟨w, ?_, Upd.refl _ _, row_take k hrow⟩
      subst hm0
      rw [hex]
      simp only [semAt, hth, execOp, hcc, resolve, hcal, hargs', hats', invoke, builtin, ht, hs]
      cases A <;> simp [Builtin.clear_, run_underlying hu, hs]
    · obtain ⟨⟨hlen, hcase⟩, hxl⟩ := hrow
      rcases hcase with ⟨h4, h5⟩ | ⟨g, c, cur, h4, h5, h6, h7, h8, h9, h10⟩
      · omega
      · injection h4 with ha _ hc
        subst hc
        subst ha
        have hvs : (Builtin.zeroCells z.cells m).toList = (List.replicate m z.cells.toList).flatten := by
          have := madeCells_rep z.cells (by rw [hzs]; exact hpos) m
          rw [← this]
          simp [Builtin.zeroCells, madeCells]
        have hle : xs.length * sz ≤ cur.toList.length := by
          simp only [Array.length_toList, h9]
          exact Nat.mul_le_mul_right sz h7
        have hb' : w.heap[g]? = some (.cells cur.toList.toArray e (0, 0)) := by simpa using h6
        have hvl : ((List.replicate m z.cells.toList).flatten).length = m * sz := by
          rw [flatten_len (sz := sz) (by intro x hx; rw [(List.mem_replicate.1 hx).2]; simpa using hzs), List.length_replicate]
        have hkm : k * sz + m * sz ≤ xs.length * sz := by rw [← Nat.add_mul, hm]; exact Nat.le_refl _
        have hone : ∀ u ∈ (List.replicate m z.cells.toList).flatten, u.oneCell' = true := by
          intro u hu'
          obtain ⟨l, hl, hul⟩ := List.mem_flatten.1 hu'
          rw [(List.mem_replicate.1 hl).2] at hul
          refine hz u ?_
          simp only [zsOf, zeroT, hti, hzz, Option.map_some]
          exact hul
        have hst := run_stores (P := P) (b := g) (k * sz) ((List.replicate m z.cells.toList).flatten) w cur.toList 0 hb' (by rw [hvl]; omega) hone
        obtain ⟨w1, w2⟩ := writeL_spec (b := g) ((List.replicate m z.cells.toList).flatten) w cur.toList (k * sz) hb'
        refine ⟨writeL w g (k * sz) ((List.replicate m z.cells.toList).flatten), ?_, ?_, ?_⟩
        · rw [hex]
          simp only [Nat.add_zero] at hst
          simp only [semAt, hth, execOp, hcc, resolve, hcal, hargs', hats', invoke, builtin, ht, hs]
          have hA : (Option.map (fun x => Addr.add x (k * sz)) (some (⟨g, 0, none⟩ : Addr))) = some ⟨g, k * sz, none⟩ := by simp [addr_add]
          obtain ⟨m', rfl⟩ : ∃ m', m = m' + 1 := ⟨m - 1, by omega⟩
          simp [Builtin.clear_, run_underlying hu, hs, addr_add, zeroValue, typeInfo, hti, hzz, hvs, hst]
        · exact w2.mono fun x _ hx => by simp [rowC, Value.ownBlock, hx]
        · have hsp := spliceV_eq ((List.replicate m z.cells.toList).flatten) cur.toList (k * sz) (by rw [hvl]; omega)
          have hlen2 : (spliceV cur.toList (k * sz) ((List.replicate m z.cells.toList).flatten)).length = cur.toList.length := by
            rw [hsp, List.length_append, List.length_append, List.length_take, List.length_drop, hvl]; omega
          have htk : (spliceV cur.toList (k * sz) ((List.replicate m z.cells.toList).flatten)).take (k * sz) = cur.toList.take (k * sz) := by
            rw [hsp, List.append_assoc, List.take_append_of_le_length (by rw [List.length_take]; omega), List.take_take, Nat.min_self]
          have hk' : (xs.take k).length = k := by rw [List.length_take]; omega
          have h3' : ∀ x ∈ xs.take k, x.length = sz := fun x hx => hxl x (List.mem_of_mem_take hx)
          have e : xs.flatten = (xs.take k).flatten ++ (xs.drop k).flatten := by rw [← List.flatten_append, List.take_append_drop]
          have hl : (xs.take k).flatten.length = (xs.take k).length * sz := flatten_len h3'
          refine ⟨⟨flatten_len h3', .inr ⟨g, cap, (spliceV cur.toList (k * sz) ((List.replicate m z.cells.toList).flatten)).toArray, rfl, Nat.zero_le _, w1, by omega, h8, by simp only [List.size_toArray, hlen2, Array.length_toList, h9], ?_⟩⟩, h3'⟩
          simp only [hk', htk]
          have := congrArg (List.take (k * sz)) h10
          have hkl : (xs.take k).flatten.length = k * sz := by rw [hl, hk']
          rw [List.take_take, Nat.min_eq_left (by rw [← hm, Nat.add_mul]; exact Nat.le_add_right _ _), e, List.take_append_of_le_length (Nat.le_of_eq hkl.symm), List.take_of_length_le (Nat.le_of_eq hkl)] at this
          exact this
  obtain ⟨w', hrun, hupd, hnew⟩ := key
  refine C.clos _ _ _ (.one (m_value ho hw hdef hrun (.inl rfl))) ?_
  rw [hput]
  have hR1 := Real.turn hR hp (c' := .ab (rowC e sz A cap (xs.take k))) (w' := w') trivial (by rw [hch]; exact hupd) hnew (fun x hx => .inl (by rw [hch]; exact row_take_fp k x hx))
  refine h a w' ?_ cs
  unfold setC
  rw [hblk]
  exact hR1
end
end Go.Sx
