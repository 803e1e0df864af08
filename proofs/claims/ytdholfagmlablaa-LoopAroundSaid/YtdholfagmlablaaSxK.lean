/- Walking Go's text by symbolic states: rows that are written, made, parted and joined. -/
import Derived.Test.YtdholfagmlablaaSxJ
import Derived.Laws.OwnMore
namespace Go.Sx

/-! ### all pieces of a list -/
theorem sepL_append_fp : ∀ {l1 l2 : List Chunk} {x : Nat}, (sepL (l1 ++ l2)).fp x ↔ (sepL l1).fp x ∨ (sepL l2).fp x
  | [], l2, x => by simp [sepL, noC]
  | d :: l1, l2, x => by
    simp only [List.cons_append, sepL, Chunk.sep]
    rw [sepL_append_fp (l1 := l1), or_assoc]
theorem sepL_append_holds {w : World} : ∀ {l1 l2 : List Chunk}, (sepL (l1 ++ l2)).holds w ↔ (sepL l1).holds w ∧ (sepL l2).holds w ∧ ∀ x, (sepL l1).fp x → ¬ (sepL l2).fp x
  | [], l2 => by simp [sepL, noC]
  | c :: l1, l2 => by
    have ih := sepL_append_holds (w := w) (l1 := l1) (l2 := l2)
    have hf : ∀ x, (sepL (l1 ++ l2)).fp x ↔ (sepL l1).fp x ∨ (sepL l2).fp x := fun x => sepL_append_fp
    simp only [List.cons_append, sepL, Chunk.sep, ih]
    constructor
    · rintro ⟨h1, ⟨h2, h3, h4⟩, h5⟩
      exact ⟨⟨h1, h2, fun x hx hy => h5 x hx ((hf x).2 (.inl hy))⟩, h3, fun x hx hy => by
        rcases hx with hx | hx
        · exact h5 x hx ((hf x).2 (.inr hy))
        · exact h4 x hx hy⟩
    · rintro ⟨⟨h1, h2, h3⟩, h4, h5⟩
      exact ⟨h1, ⟨h2, h4, fun x hx hy => h5 x (.inr hx) hy⟩, fun x hx hy => by
        rcases (hf x).1 hy with hy | hy
        · exact h3 x hx hy
        · exact h5 x (.inl hx) hy⟩

theorem list_part {α : Type} {l : List α} {k : Nat} {c : α} (h : l[k]? = some c) : l = l.take k ++ c :: l.drop (k + 1) := by
  obtain ⟨hlt, rfl⟩ := List.getElem?_eq_some_iff.1 h
  rw [List.getElem_cons_drop, List.take_append_drop]

/-- One piece out of all. -/
theorem sepL_out {w : World} {l : List Chunk} {k : Nat} {c : Chunk} (h : l[k]? = some c) (hl : (sepL l).holds w) :
    (sepL [c, sepL (l.eraseIdx k)]).holds w ∧ ∀ x, (sepL [c, sepL (l.eraseIdx k)]).fp x → (sepL l).fp x := by
  have he : l.eraseIdx k = l.take k ++ l.drop (k + 1) := List.eraseIdx_eq_take_drop_succ ..
  have hp := list_part h
  rw [hp] at hl
  obtain ⟨h1, ⟨h2, h3, h4⟩, h5⟩ := sepL_append_holds.1 hl
  rw [he]
  refine ⟨⟨h2, ⟨sepL_append_holds.2 ⟨h1, h3, fun x hx hy => h5 x hx (.inr hy)⟩, trivial, fun x _ hy => hy.elim⟩, fun x hx hy => ?_⟩, fun x hx => ?_⟩
  · rcases hy with hy | hy
    · rcases sepL_append_fp.1 hy with hy | hy
      · exact h5 x hy (.inl hx)
      · exact h4 x hx hy
    · exact hy.elim
  · rw [hp]
    refine sepL_append_fp.2 ?_
    rcases hx with hx | hx | hx
    · exact .inr (.inl hx)
    · rcases sepL_append_fp.1 hx with hx | hx
      · exact .inl hx
      · exact .inr (.inr hx)
    · exact hx.elim
/-- And back, turned. -/
theorem sepL_back {w : World} {l : List Chunk} {k : Nat} {c : Chunk} (hk : k < l.length) (hl : (sepL [c, sepL (l.eraseIdx k)]).holds w) :
    (sepL [sepL (l.set k c)]).holds w ∧ ∀ x, (sepL [sepL (l.set k c)]).fp x → (sepL [c, sepL (l.eraseIdx k)]).fp x := by
  have he : l.eraseIdx k = l.take k ++ l.drop (k + 1) := List.eraseIdx_eq_take_drop_succ ..
  have hp : l.set k c = l.take k ++ c :: l.drop (k + 1) := List.set_eq_take_append_cons_drop .. |>.trans (by simp [hk])
  rw [he] at hl ⊢
  rw [hp]
  obtain ⟨h1, ⟨h2, _, _⟩, h3⟩ := hl
  obtain ⟨h4, h5, h6⟩ := sepL_append_holds.1 h2
  refine ⟨⟨sepL_append_holds.2 ⟨h4, ⟨h1, h5, fun x hx hy => h3 x hx (.inl (sepL_append_fp.2 (.inr hy)))⟩, fun x hx hy => ?_⟩, trivial, fun x _ hy => hy.elim⟩, fun x hx => ?_⟩
  · rcases hy with hy | hy
    · exact h3 x hy (.inl (sepL_append_fp.2 (.inl hx)))
    · exact h6 x hx hy
  · rcases hx with hx | hx
    · rcases sepL_append_fp.1 hx with hx | hx | hx
      · exact .inr (.inl (sepL_append_fp.2 (.inl hx)))
      · exact .inl hx
      · exact .inr (.inl (sepL_append_fp.2 (.inr hx)))
    · exact hx.elim
theorem sepL_one {w : World} {c : Chunk} : (sepL [c]).holds w ↔ c.holds w := by simp [sepL, Chunk.sep, noC]
theorem sepL_one_fp {c : Chunk} {x : Nat} : (sepL [c]).fp x ↔ c.fp x := by simp [sepL, Chunk.sep, noC]
theorem sepL_cons {w : World} {c : Chunk} {l : List Chunk} : (sepL (c :: l)).holds w ↔ c.holds w ∧ (sepL l).holds w ∧ ∀ x, c.fp x → ¬ (sepL l).fp x := Iff.rfl
theorem sepL_cons_fp {c : Chunk} {l : List Chunk} {x : Nat} : (sepL (c :: l)).fp x ↔ c.fp x ∨ (sepL l).fp x := Iff.rfl

section
variable {P : Program} {C : Ctx P} {σ : St} {todo : List Item}

/-- Some pieces, old, in other words, cs: they lie where these lay. -/
theorem SG.conv (is : List Nat) (old cs : List Chunk) (hids : goodIds σ.n is = true) (ho : is.map (chunkAt σ) = old)
    (hc : ∀ w, (sepL old).holds w → (sepL cs).holds w ∧ ∀ x, (sepL cs).fp x → (sepL old).fp x) (h : SG P C todo (addL (goneL σ is) cs)) : SG P C todo σ := by
  subst ho
  exact SG.turn is cs hids hc h

/-- Piece j moves to i, where nothing is. -/
theorem SG.move (i j : Nat) (b : Nat) (c : Chunk) (hi : lk σ.h i = some (b, .gone)) (hj : chunkAt σ j = c) (hlt : Nat.blt j σ.n = true) (hne : Nat.beq i j = false)
    (h : SG P C todo { goneL σ [j] with h := (i, (b, .ab c)) :: (goneL σ [j]).h }) : SG P C todo σ := by
  intro a w hR cs
  have hne : i ≠ j := by intro e; subst e; simp at hne
  have hg : goodIds σ.n [j] = true := by simp [goodIds, hlt]
  have hR2 := hR.gone hg (w' := w) (Upd.refl _ _)
  have hat := hR.at_ j
  rw [hj] at hat
  have hi2 : lk (goneL σ [j]).h i = some (b, .gone) := by
    rw [lk_goneL]; simp [hne, hi]
  have hB := same_turn (goneL σ [j]).h (goneL σ [j]).n i b .gone (.ab c) hi2
  have key : ∀ q b1 c1, lk ((i, (b, SC.ab c)) :: (goneL σ [j]).h) q = some (b1, c1) → (q = i ∧ b1 = b ∧ c1 = .ab c) ∨ (q ≠ i ∧ lk (goneL σ [j]).h q = some (b1, c1)) := by
    intro q b1 c1 hq
    rw [lk_cons] at hq
    by_cases e : i = q
    · subst e; simp only [if_true, Option.some.injEq, Prod.mk.injEq] at hq; exact .inl ⟨rfl, hq.1.symm, hq.2.symm⟩
    · simp only [e, if_false] at hq; exact .inr ⟨fun e' => e e'.symm, hq⟩
  have far : ∀ q b1 c1, lk (goneL σ [j]).h q = some (b1, c1) → ∀ x, (c1.chunk (blkOf (goneL σ [j]).h) b1).fp x → ¬ c.fp x := by
    intro q b1 c1 hq x hx
    rw [funext (blk_goneL σ [j])] at hx
    rw [lk_goneL] at hq
    by_cases e : q ∈ [j]
    · simp only [e, if_true, Option.some.injEq, Prod.mk.injEq] at hq
      obtain ⟨_, rfl⟩ := hq
      exact hx.elim
    · simp only [e, if_false] at hq
      have hcx : (chunkAt σ q).fp x := by simpa [chunkAt, hq] using hx
      have hne : q ≠ j := by simpa using e
      rw [← hj]
      exact hR.at_apart hne x hcx
  refine h a w ?_ cs
  constructor
  · exact hR2.ok
  · exact hR2.size
  · intro q sv hq
    obtain ⟨h1, h2⟩ := hR2.slots q sv hq
    exact ⟨by rw [hB.den h2]; exact h1, h2⟩
  · intro q b1 c1 hq
    rcases key q b1 c1 hq with ⟨rfl, rfl, rfl⟩ | ⟨_, h1⟩
    · exact ⟨hat.1, trivial⟩
    · obtain ⟨h2, h3⟩ := hR2.holds q b1 c1 h1
      exact ⟨by rw [hB.chunk h3]; exact h2, h3⟩
  · intro q r b1 c1 b2 c2 hne' hq hr
    rcases key q b1 c1 hq with ⟨rfl, rfl, rfl⟩ | ⟨_, h1⟩ <;> rcases key r b2 c2 hr with ⟨rfl, rfl, rfl⟩ | ⟨_, h2⟩
    · exact absurd rfl hne'
    · rw [hB.chunk (hR2.holds r b2 c2 h2).2]
      exact fun x hx hy => far r b2 c2 h2 x hy hx
    · rw [hB.chunk (hR2.holds q b1 c1 h1).2]
      exact far q b1 c1 h1
    · rw [hB.chunk (hR2.holds q b1 c1 h1).2, hB.chunk (hR2.holds r b2 c2 h2).2]
      exact hR2.apart q r b1 c1 b2 c2 hne' h1 h2
  · intro q b1 c1 hq
    rcases key q b1 c1 hq with ⟨rfl, rfl, rfl⟩ | ⟨_, h1⟩
    · exact hat.2
    · rw [hB.chunk (hR2.holds q b1 c1 h1).2]; exact hR2.inS q b1 c1 h1
  · intro q hq
    have : i ≠ q := by have := lk_lt hR2 hi2; simp only at hq; omega
    rw [lk_cons, if_neg this]
    exact hR2.next q hq
  · exact hR2.upd
  · rw [hR2.defers]
    exact List.map_congr_left fun q hq => by rw [hB q (hR2.dlt q hq)]
  · exact hR2.dlt

/-! ### an element is written -/
theorem spliceV_eq : ∀ (vs cs : List Value) (o : Nat), o + vs.length ≤ cs.length → spliceV cs o vs = cs.take o ++ vs ++ cs.drop (o + vs.length)
  | [], cs, o, _ => by simp [spliceV]
  | v :: vs, cs, o, h => by
    simp only [List.length_cons] at h
    simp only [spliceV]
    rw [spliceV_eq vs (cs.set o v) (o + 1) (by simp; omega)]
    have hlt : o < cs.length := by omega
    rw [List.set_eq_take_append_cons_drop, if_pos hlt]
    have hl : (cs.take o).length = o := by simp; omega
    have h1 : (cs.take o ++ v :: cs.drop (o + 1)).take (o + 1) = cs.take o ++ [v] := by
      have := List.take_length_add_append (l₁ := cs.take o) (l₂ := v :: cs.drop (o + 1)) 1
      rw [hl] at this
      rw [this]; simp
    have h2 : (cs.take o ++ v :: cs.drop (o + 1)).drop (o + 1 + vs.length) = cs.drop (o + (v :: vs).length) := by
      have := List.drop_length_add_append (l₁ := cs.take o) (l₂ := v :: cs.drop (o + 1)) (1 + vs.length)
      rw [hl] at this
      rw [show o + 1 + vs.length = o + (1 + vs.length) by omega, this, show 1 + vs.length = vs.length + 1 by omega, List.drop_succ_cons, List.drop_drop]
      congr 1
      simp only [List.length_cons]; omega
    rw [h1, h2]
    simp

theorem row_splice {sz : Nat} {xs : List (List Value)} (hx : ∀ x ∈ xs, x.length = sz) {cs : List Value} (hcs : cs.take (xs.length * sz) = xs.flatten) (hle : xs.length * sz ≤ cs.length) {k : Nat} (hk : k < xs.length) {x' : List Value} (hx' : x'.length = sz) :
    (spliceV cs (k * sz) x').length = cs.length ∧ (spliceV cs (k * sz) x').take (xs.length * sz) = (xs.set k x').flatten := by
  have hkz : k * sz + sz ≤ xs.length * sz := by
    have := Nat.mul_le_mul_right sz hk
    rw [Nat.succ_mul] at this; exact this
  rw [spliceV_eq _ _ _ (by omega)]
  have hlen : (cs.take (k * sz) ++ x' ++ cs.drop (k * sz + x'.length)).length = cs.length := by simp; omega
  refine ⟨hlen, ?_⟩
  have hp := list_part (List.getElem?_eq_getElem hk)
  have hcs' : cs = xs.flatten ++ cs.drop (xs.length * sz) := by rw [← hcs, List.take_append_drop]
  have hf : xs.flatten = (xs.take k).flatten ++ xs[k] ++ (xs.drop (k + 1)).flatten := by
    have := congrArg List.flatten hp
    rw [List.flatten_append, List.flatten_cons, ← List.append_assoc] at this
    exact this
  have hl1 : (xs.take k).flatten.length = k * sz := by
    rw [flatten_len fun z hz => hx z (List.mem_of_mem_take hz), List.length_take, Nat.min_eq_left (Nat.le_of_lt hk)]
  have hl2 : xs[k].length = sz := hx _ (List.getElem_mem hk)
  have t1 : cs.take (k * sz) = (xs.take k).flatten := by
    rw [hcs', hf, List.append_assoc, List.append_assoc, ← hl1, List.take_left]
  have t2 : cs.drop (k * sz + x'.length) = (xs.drop (k + 1)).flatten ++ cs.drop (xs.length * sz) := by
    conv => lhs; rw [hcs', hf]
    have : ((xs.take k).flatten ++ xs[k]).length = k * sz + x'.length := by rw [List.length_append, hl1, hl2, hx']
    rw [List.append_assoc, ← this, List.drop_left]
  rw [t1, t2, List.set_eq_take_append_cons_drop, if_pos hk]
  have hl3 : ((xs.take k).flatten ++ x' ++ (xs.drop (k + 1)).flatten).length = xs.length * sz := by
    have h1 := congrArg List.length hf
    rw [flatten_len hx] at h1
    simp only [List.length_append] at h1 ⊢
    omega
  rw [← List.append_assoc, ← hl3, List.take_left]
  simp

def stAt (σ : St) (todo : List Item) : Option (TypeId × Value × Value) :=
  match (theOp todo).op with
  | .store t x y => match (theOp todo).dst with
    | none => some (t, rhoOf σ x, rhoOf σ y)
    | some _ => none
  | _ => none

/-- 's[k] = v', for a row of one's own: i. -/
theorem SG.storeRow (i : Nat) (T e sz : TypeId) (ag : Bool) (ad : Addr) (cap k : Nat) (xs : List (List Value)) (v : Value) (x' : List Value)
    (hop : stAt σ todo = some (T, .pointer (some (ad.add (k * sz))), v)) (hT : aggT P T = some (ag, sz)) (hv : v.cells.toList = x') (hx' : x'.length = sz) (h1 : ∀ u ∈ x', u.oneCell' = true)
    (hi : chunkAt σ i = rowC e sz (some ad) cap xs) (hs : (lk σ.h i).isSome = true) (hk : k < xs.length)
    (hr : opReady σ todo = true) (h : SG P C (nextOf todo) (setC σ i (rowC e sz (some ad) cap (xs.set k x')))) : SG P C todo σ := by
  intro a w hR cs
  obtain ⟨ops, j, rest, q, o, rfl, ho, hw, hdef, hdst, hex⟩ := opReady_spec hr hR
  have hrow := (hR.at_ i).1
  rw [hi] at hrow
  obtain ⟨⟨hlen, hcase⟩, hxl⟩ := hrow
  rcases hcase with ⟨hno, _⟩ | ⟨g, c, cur, he, _, hb, hnc, hcm, hcs, htk⟩
  · cases hno
  · injection he with hA _ hc
    cases hA
    subst hc
    obtain ⟨p, hp⟩ := Option.isSome_iff_exists.1 hs
    obtain ⟨b0, c0⟩ := p
    have hblk : blkOf σ.h i = b0 := by simp [blkOf, hp]
    have hch : c0.chunk (blkOf σ.h) b0 = rowC e sz (some ⟨g, 0, none⟩) cap xs := by rw [← hi]; simp [chunkAt, hp]
    have hle : xs.length * sz ≤ cur.toList.length := by
      simp only [Array.length_toList, hcs]
      exact Nat.mul_le_mul_right sz hnc
    obtain ⟨s1, s2⟩ := row_splice hxl htk hle hk hx'
    obtain ⟨_, hsz⟩ := aggT_spec hT
    have hkz : k * sz + sz ≤ xs.length * sz := by
      have := Nat.mul_le_mul_right sz hk
      rw [Nat.succ_mul] at this; exact this
    have hb' : w.heap[g]? = some (.cells cur.toList.toArray e (0, 0)) := by simpa using hb
    have hst := run_stores (P := P) (b := g) (k * sz) x' w cur.toList 0 hb' (by omega) h1
    obtain ⟨w1, w2⟩ := writeL_spec (b := g) x' w cur.toList (k * sz) hb'
    have hcz : v.cells.size = sz := by
      have := congrArg List.length hv
      simp only [Array.length_toList] at this; omega
    unfold stAt at hop
    have hth : theOp (.inRegion ops (j :: rest) :: q) = o := by simp [theOp, opAt, ho]
    rw [hth] at hop
    split at hop
    · rename_i t x y hop'
      split at hop
      · rename_i hdn
        simp only [Option.some.injEq, Prod.mk.injEq] at hop
        obtain ⟨rfl, hpx, hpy⟩ := hop
        have hexec : (execOp a.eval o).run P w = .ok .skip (writeL w g (k * sz) x') := by
          rw [hex]
          simp only [Nat.add_zero] at hst
          rw [addr_add, Nat.zero_add] at hpx
          simp [semAt, hth, execOp, hop', hpx, hpy, Instr.storeAt, Instr.sureAddr, storeVar, hsz, hcz, hv, hst]
        refine C.clos _ _ _ (.one (m_value ho hw hdef hexec (.inr ⟨rfl, rfl⟩))) ?_
        have hput : a.put o.dst undef = a := by rw [hdn]; rfl
        rw [hput]
        have hR1 := Real.turn hR hp (c' := .ab (rowC e sz (some ⟨g, 0, none⟩) cap (xs.set k x'))) (w' := writeL w g (k * sz) x') trivial (by
          rw [hch]
          exact w2.mono fun z _ hz => by simp [rowC, Value.ownBlock, hz]) (by
          refine ⟨⟨?_, .inr ⟨g, cap, (spliceV cur.toList (k * sz) x').toArray, by simp, Nat.zero_le _, w1, by simpa using hnc, hcm, ?_, ?_⟩⟩, ?_⟩
          · rw [flatten_len]
            intro z hz
            rcases List.mem_or_eq_of_mem_set hz with hz | rfl
            · exact hxl z hz
            · exact hx'
          · simp only [List.size_toArray, s1, Array.length_toList, hcs]
          · simpa using s2
          · intro z hz
            rcases List.mem_or_eq_of_mem_set hz with hz | rfl
            · exact hxl z hz
            · exact hx') (by rw [hch]; intro z hz; exact .inl (by simpa [SC.chunk, rowC, Value.ownBlock] using hz))
        refine h a _ ?_ cs
        unfold setC
        rw [hblk]
        exact hR1
      · cases hop
    · cases hop

/-! ### a row is made -/
def mkAt (σ : St) (todo : List Item) : Option (TypeId × Value × Value) :=
  match (theOp todo).op with
  | .makeSlice t x y => some (t, rhoOf σ x, rhoOf σ y)
  | _ => none
def zeroT (P : Program) (e : TypeId) : Option (List Value) :=
  match P.info? e with
  | some i => i.zero.map fun z => z.cells.toList
  | none => none

theorem madeCells_rep (z : Array Value) (hz : 0 < z.size) : ∀ n, (madeCells z (n * z.size)).toList = (List.replicate n z.toList).flatten := by
  intro n
  apply List.ext_getElem?
  intro j
  have hx : ∀ x ∈ List.replicate n z.toList, x.length = z.size := by
    intro x hx; rw [(List.mem_replicate.1 hx).2]; simp
  by_cases hj : j < n * z.size
  · have hd : j / z.size < n := Nat.div_lt_of_lt_mul (by rw [Nat.mul_comm]; exact hj)
    have hm : j % z.size < z.size := Nat.mod_lt _ hz
    have h1 := flatten_at hx (k := j / z.size) (x := z.toList) (by rw [List.getElem?_replicate, if_pos hd]) (j := j % z.size) (u := z[j % z.size]) (by simp [hm])
    rw [Nat.div_add_mod'] at h1
    rw [h1]
    simp only [madeCells, Array.toList_map, List.getElem?_map, Array.toList_range, List.getElem?_range hj, Option.map_some]
    rw [getElem!_pos z (j % z.size) hm]
  · rw [List.getElem?_eq_none (by simp [size_madeCells]; omega), List.getElem?_eq_none (by rw [flatten_len hx]; simp; omega)]

/-- 'make(T, n)'. -/
theorem SG.makeRow (T e sz bytes : TypeId) (kl kc : IntKind) (n : Nat) (zs : List Value) (hop : mkAt σ todo = some (T, .int kl (n : Int), .int kc (n : Int))) (hT : elemP P T = some (e, sz, bytes)) (hz : zeroT P e = some zs)
    (hb : n * bytes ≤ 140737488355328) (hr : opReady σ todo = true) (hd : dstOk σ todo = true)
    (h : ∀ ν, SG P C (nextOf todo) (setD (addC σ 0 (.ab (rowC e sz (some ⟨ν, 0, none⟩) n (List.replicate n zs)))) (dstOf todo) (.v (.slice (some ⟨ν, 0, none⟩) n n)))) : SG P C todo σ := by
  intro a w hR cs
  obtain ⟨ops, j, rest, q, o, rfl, ho, hw, hdef, hdst, hex⟩ := opReady_spec hr hR
  obtain ⟨hu, ti, z, hti, hz', hsz, hby, hzs, hpos, hbpos⟩ := elemP_spec hT
  have hzz : zs = z.cells.toList := by
    unfold zeroT at hz
    rw [hti] at hz
    simp only [hz', Option.map_some, Option.some.injEq] at hz
    exact hz.symm
  have hn := Nat.le_trans (Nat.le_mul_of_pos_right n hbpos) hb
  have hm : n ≤ maxLen := by simp only [maxLen]; omega
  obtain ⟨w', h1, h2, h3⟩ := run_make_full (P := P) w 0 T e ti z sz hu hti hz' hsz kl kc n (by rw [hby, Nat.mul_comm]; omega) hm (Nat.zero_le _)
  have hth : theOp (.inRegion ops (j :: rest) :: q) = o := by simp [theOp, opAt, ho]
  have hexec : (execOp a.eval o).run P w = .ok (.value (.slice (some ⟨w.heap.size, 0, none⟩) n n)) w' := by
    rw [hex]
    unfold mkAt at hop
    rw [hth] at hop
    split at hop
    · rename_i t x y ho'
      simp only [Option.some.injEq, Prod.mk.injEq] at hop
      obtain ⟨rfl, h4, h5⟩ := hop
      simp [semAt, hth, execOp, ho', h4, h5, h1]
    · cases hop
  refine C.clos _ _ _ (.one (m_value ho hw hdef hexec (.inl rfl))) ?_
  have hupd : Upd (fun _ => False) w w' := ⟨h3.os, h3.tape, h3.output, h3.size, fun x hx _ => h3.block x hx (by simp)⟩
  have hrow : (rowC e sz (some ⟨w.heap.size, 0, none⟩) n (List.replicate n zs)).holds w' := by
    have hrep : (List.replicate n zs).flatten = (madeCells z.cells (n * sz)).toList := by
      rw [hzz, ← hzs]; exact (madeCells_rep z.cells (by rw [hzs]; exact hpos) n).symm
    refine ⟨?_, ?_⟩
    · rw [hrep, List.length_replicate]; exact h2
    · intro x hx
      rw [(List.mem_replicate.1 hx).2, hzz]; simpa using hzs
  have hR1 := hR.more hupd
  have hR2 := Real.add hR1 (c := .ab (rowC e sz (some ⟨w.heap.size, 0, none⟩) n (List.replicate n zs))) (b := 0) trivial hrow (by
    intro x hx
    have : x = w.heap.size := by simpa [SC.chunk, rowC, Value.ownBlock] using hx.symm
    exact .inr (by rw [this]; exact hR.upd.size)) (by
    intro i b' c' hi x hx hy
    have : x = w.heap.size := by simpa [SC.chunk, rowC, Value.ownBlock] using hy.symm
    have := (c'.chunk (blkOf σ.h) b').lt w (hR.holds i b' c' hi).1 x hx
    omega)
  refine h w.heap.size _ w' ?_ cs
  rw [hdst]
  exact Real.setD hR2 fun x hx => by
    unfold dstOk at hd; rw [hdst, hx] at hd; simpa [Nat.blt_eq] using hd

/-- 's[k]', loaded, where s is a block whose cells are known: piece i. -/
theorem SG.elemC (i : Nat) (vs : List Value) (T' : TypeId) (T e sz bytes U : TypeId) (ag : Bool) (n cap : Nat) (kk : IntKind) (z : Int) (k : Nat) (xs : List (List Value)) (x : List Value)
    (hi : chunkAt σ i = cellsC (blkOf σ.h i) vs T') (hx' : ∀ x ∈ xs, x.length = sz) (hf : xs.flatten = vs) (hn : xs.length = n) (hc : cap = n) (hx : xs[k]? = some x) (hk : z = k)
    (hop : idxAt σ todo = some (T, .slice (some ⟨blkOf σ.h i, 0, none⟩) n cap, .int kk z)) (hT : elemP P T = some (e, sz, bytes)) (hr : opReady σ todo = true) (hd : dstOk σ todo = true)
    (d : Nat) (hdd : dstOf todo = some d) (hop2 : ∀ v, ldAt { σ with t := (d, .v v) :: σ.t } (nextOf todo) = some (U, v)) (hr2 : ∀ v, opReady { σ with t := (d, .v v) :: σ.t } (nextOf todo) = true) (hd2 : ∀ v, dstOk { σ with t := (d, .v v) :: σ.t } (nextOf todo) = true)
    (hU : aggT P U = some (ag, sz)) (v : Value) (hv : v = if ag then .agg x.toArray else x.getD 0 undef) (h1 : ag = false → sz = 1)
    (h : ∀ u, SG P C (nextOf (nextOf todo)) (setD { σ with t := (d, .v u) :: σ.t } (dstOf (nextOf todo)) (.v v))) : SG P C todo σ := by
  subst hc
  refine SG.elem (chunkAt σ i) (Has.at_ i) T e sz bytes U ag (some ⟨blkOf σ.h i, 0, none⟩) cap cap kk z k xs x (fun w hw => ?_) hn hx hk hop hT hr hd d hdd hop2 hr2 hd2 hU v hv h1 h
  rw [hi] at hw
  have := seq_cells hw hx' hf
  rwa [hn] at this

/-- As far as slot d: its value in other words. -/
theorem SG.put (d : Nat) (v v' : Value) (h : ∀ ν, lk (runTo P d 400 ν todo σ).2.t d = some (.v v)) (he : v = v')
    (hg : ∀ ν, SG P C (runTo P d 400 ν todo σ).1 { (runTo P d 400 ν todo σ).2 with t := (d, .v v') :: (runTo P d 400 ν todo σ).2.t }) : SG P C todo σ :=
  SG.past d 400 fun ν => SG.slot d _ (.v v') (h ν) (by rw [he]) trivial (hg ν)

theorem wrap_u64 {x : Int} (h1 : 0 ≤ x) (h2 : x < 18446744073709551616) : IntKind.u64.wrap x = x := by
  simp only [IntKind.wrap, IntKind.bits, IntKind.signed]; simp; omega
theorem wrap_u64_range (x : Int) : 0 ≤ IntKind.u64.wrap x ∧ IntKind.u64.wrap x < 18446744073709551616 := by
  simp only [IntKind.wrap, IntKind.bits, IntKind.signed]; simp; omega

/-! ### free operations of a drawn region, by hand -/
theorem OpTo.opv {ops : Array Oper} {i : Nat} (v : Value) (hr : opReady (restr σ (keysAt ops i)) [.inRegion ops [i]] = true)
    (hv : ∀ a w, Real C.K (restr σ (keysAt ops i)) a w → (semAt (restr σ (keysAt ops i)) [.inRegion ops [i]]).run P w = .ok (.value v) w) : OpTo P C ops σ i (.v v) := by
  intro a w hR b rest k cs
  obtain ⟨ops', i', rest', k', o, he, ho, hw, hdef, hdst, hex⟩ := opReady_spec hr hR
  cases he
  have h1 := hv a w hR
  rw [← hex] at h1
  refine ⟨w, Upd.refl _ _, trivial, .one ?_⟩
  have hd : dstAt ops i = o.dst := by simp [dstAt, ho]
  rw [hd]
  exact m_value ho hw hdef h1 (.inl rfl)

theorem idx_sem {σ : St} {todo : List Item} (T e sz bytes : TypeId) (ad : Addr) (n cap : Nat) (kk : IntKind) (x : Int) (k : Nat) (hop : idxAt σ todo = some (T, .slice (some ad) n cap, .int kk x)) (hT : elemP P T = some (e, sz, bytes)) (hk : x = k) (hlt : k < n) (w : World) :
    (semAt σ todo).run P w = .ok (.value (.pointer (some (ad.add (k * sz))))) w := by
  obtain ⟨hu, i, z, hi, _, hs, _, _, _, _⟩ := elemP_spec hT
  unfold idxAt at hop
  split at hop
  · rename_i t x' i' ho
    simp only [Option.some.injEq, Prod.mk.injEq] at hop
    obtain ⟨rfl, h1, h2⟩ := hop
    subst hk
    have hlt' : (0 : Int) ≤ (k : Int) ∧ (k : Int) < (n : Int) := by constructor <;> omega
    simp [semAt, execOp, ho, h1, h2, Instr.indexAt, asIntOf, run_underlying hu, hlt, sizeOf, typeInfo, hi, hs]
  · cases hop

theorem OpTo.index {ops : Array Oper} {i : Nat} (T e sz bytes : TypeId) (ad : Addr) (n cap : Nat) (kk : IntKind) (x : Int) (k : Nat) (hop : idxAt (restr σ (keysAt ops i)) [.inRegion ops [i]] = some (T, .slice (some ad) n cap, .int kk x))
    (hT : elemP P T = some (e, sz, bytes)) (hk : x = k) (hlt : k < n) (hr : opReady (restr σ (keysAt ops i)) [.inRegion ops [i]] = true) : OpTo P C ops σ i (.v (.pointer (some (ad.add (k * sz))))) :=
  OpTo.opv _ hr fun _ w _ => idx_sem T e sz bytes ad n cap kk x k hop hT hk hlt w

theorem load_sem {σ : St} {todo : List Item} (T : TypeId) (ag : Bool) (p : Addr) (x : List Value) (hop : ldAt σ todo = some (T, .pointer (some p))) (hT : aggT P T = some (ag, x.length)) (v : Value) (hv : v = if ag then .agg x.toArray else x.getD 0 undef) (h1 : ag = false → x.length = 1)
    (w : World) (hcell : ∀ j u, x[j]? = some u → w.cell? (p.add j) = some u) : (semAt σ todo).run P w = .ok (.value v) w := by
  obtain ⟨ha, hs⟩ := aggT_spec hT
  have hloads : ∀ (n i : Nat) (acc : Array Value), i + n = x.length → (loadCellsFrom p i n acc).run P w = .ok (acc ++ (x.drop i).toArray) w := by
    intro n
    induction n with
    | zero => intro i acc hn; have : x.drop i = [] := List.drop_eq_nil_of_le (by omega); simp [loadCellsFrom, this]
    | succ n ih =>
      intro i acc hn
      have hi : i < x.length := by omega
      have hci := hcell i x[i] (List.getElem?_eq_getElem hi)
      simp only [loadCellsFrom, Sem.run_bind, run_load, hci, Result.andThen_ok, ih (i + 1) _ (by omega)]
      rw [List.drop_eq_getElem_cons hi]
      simp
  unfold ldAt at hop
  split at hop
  · rename_i t x' ho
    simp only [Option.some.injEq, Prod.mk.injEq] at hop
    obtain ⟨rfl, hp⟩ := hop
    cases ag with
    | true =>
      have hl := hloads x.length 0 #[] (by omega)
      simp [semAt, execOp, ho, hp, Instr.loadAt, Instr.sureAddr, loadVar, ha, hs, loadCells, hl, hv]
    | false =>
      have hx := h1 rfl
      have h0 : x[0]? = some (x.getD 0 undef) := by rw [List.getD_eq_getElem?_getD, List.getElem?_eq_getElem (by omega)]; rfl
      have hc0 := hcell 0 _ h0
      have hp0 : p.add 0 = p := by simp [Addr.add]
      rw [hp0] at hc0
      simp only [semAt, execOp, ho, hp, Instr.loadAt, Instr.sureAddr, pure_bind, loadVar, Sem.run_bind, ha, Result.andThen_ok, Bool.false_eq_true, if_false, run_load, hc0, Sem.run_pure, hv]
  · cases hop

/-- A load of element k of a row. -/
theorem OpTo.load {ops : Array Oper} {i : Nat} (c : Chunk) (hc : Has C σ c) (U sz : TypeId) (ag : Bool) (ad : Addr) (cap k : Nat) (xs : List (List Value)) (x : List Value) (hseq : ∀ w, c.holds w → SeqAt w (some ad) cap sz xs) (hx : xs[k]? = some x)
    (hop : ldAt (restr σ (keysAt ops i)) [.inRegion ops [i]] = some (U, .pointer (some (ad.add (k * sz))))) (hU : aggT P U = some (ag, sz)) (v : Value) (hv : v = if ag then .agg x.toArray else x.getD 0 undef) (h1 : ag = false → sz = 1)
    (hr : opReady (restr σ (keysAt ops i)) [.inRegion ops [i]] = true) : OpTo P C ops σ i (.v v) := by
  refine OpTo.opv _ hr fun a w hR => ?_
  obtain ⟨_, hlen, hcase⟩ := hseq w (hc a w hR.bare)
  have hxl : x.length = sz := hlen x (List.mem_of_getElem? hx)
  refine load_sem U ag _ x hop (by rw [hxl]; exact hU) v hv (by rw [hxl]; exact h1) w fun j u hj => ?_
  rw [addr_add_add]
  rcases hcase with ⟨hn, _⟩ | ⟨ad', he, hcells⟩
  · cases hn
  · cases he
    exact hcells _ u (flatten_at hlen hx hj)

/-- A piece's cells in other words. -/
theorem SG.recell (i : Nat) (vs vs' : List Value) (T : TypeId) (hi : chunkAt σ i = cellsC (blkOf σ.h i) vs T) (hs : (lk σ.h i).isSome = true) (he : vs = vs')
    (h : SG P C todo { σ with h := (i, (blkOf σ.h i, .cells (vs'.map .v) T)) :: σ.h }) : SG P C todo σ := by
  subst he
  intro a w hR cs
  obtain ⟨p, hp⟩ := Option.isSome_iff_exists.1 hs
  obtain ⟨b0, c0⟩ := p
  have hblk : blkOf σ.h i = b0 := by simp [blkOf, hp]
  have hch : c0.chunk (blkOf σ.h) b0 = cellsC b0 vs T := by rw [← hblk, ← hi]; simp [chunkAt, hp, hblk]
  have hdd : ∀ B, (SC.cells (vs.map .v) T).chunk B b0 = cellsC b0 vs T := by intro B; simp [SC.chunk, den, Function.comp_def]
  refine h a w ?_ cs
  rw [hblk]
  refine Real.turn hR hp (c' := .cells (vs.map .v) T) (by intro sv hm; simp only [List.mem_map] at hm; obtain ⟨x, _, rfl⟩ := hm; trivial) (Upd.refl _ _) ?_ ?_
  · rw [hdd, ← hch]; exact (hR.holds i b0 c0 hp).1
  · intro x hx; rw [hdd, ← hch] at hx; exact .inl hx

end
end Go.Sx
