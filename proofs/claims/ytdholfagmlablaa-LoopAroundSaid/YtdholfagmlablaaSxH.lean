/- Walking Go's text by symbolic states: single operations by hand; pieces opened and shut. -/
import Derived.Test.YtdholfagmlablaaSxG
namespace Go.Sx

def opAt : List Item → Option Oper
  | .inRegion ops (i :: _) :: _ => ops[i]?
  | _ => none
/-- The operation that stands next is to be done, and all that it looks at is known. -/
def opReady (σ : St) (todo : List Item) : Bool :=
  match todo with
  | .inRegion ops (i :: _) :: _ => match ops[i]? with
    | some o => match wantedB ops σ o with
      | some true => !isSel o.op && !isDefer o.op && o.op.operands.toList.all fun x => (ev σ x).isSome
      | _ => false
    | none => false
  | _ => false
def theOp (todo : List Item) : Oper := (opAt todo).getD default
def semAt (σ : St) (todo : List Item) : Sem Next := execOp (rhoOf σ) (theOp todo)

section
variable {P : Program} {C : Ctx P} {σ : St} {todo : List Item}

theorem opReady_spec (h : opReady σ todo = true) {K : Kx} {a : Act} {w : World} (hR : Real K σ a w) :
    ∃ ops i rest k o, todo = .inRegion ops (i :: rest) :: k ∧ ops[i]? = some o ∧ Region.wanted o (yielded ops a.tmps) = true ∧ isDefer o.op = false ∧ dstOf todo = o.dst ∧ execOp a.eval o = semAt σ todo := by
  unfold opReady at h
  split at h
  · rename_i ops i rest k
    split at h
    · rename_i o ho
      split at h
      · rename_i hw
        simp only [Bool.and_eq_true, Bool.not_eq_true', List.all_eq_true] at h
        refine ⟨ops, i, rest, k, o, rfl, ho, wantedB_sound hR hw, h.1.2, by simp [dstOf, ho], ?_⟩
        have hth : theOp (.inRegion ops (i :: rest) :: k) = o := by simp [theOp, opAt, ho]
        rw [semAt, hth]
        exact execOp_congr o (fun cs b e => by simp [isSel, e] at h) fun x hx => rho_eq hR (h.2 x (by simpa using hx))
      · cases h
    · cases h
  · cases h

/-- State and text under one name: 'refine SG.pack ?_; intro q'. Goals stay small. -/
theorem SG.pack (h : let q := (todo, σ); SG P C q.1 q.2) : SG P C todo σ := h

/-- An operation that gives a value and turns nothing. -/
theorem SG.opv (v : Value) (hr : opReady σ todo = true) (hd : dstOk σ todo = true)
    (hv : ∀ a w, Real C.K σ a w → (semAt σ todo).run P w = .ok (.value v) w) (h : SG P C (nextOf todo) (setD σ (dstOf todo) (.v v))) : SG P C todo σ := by
  intro a w hR cs
  obtain ⟨ops, i, rest, k, o, rfl, ho, hw, hdef, hdst, hex⟩ := opReady_spec hr hR
  have hv' := hv a w hR
  rw [← hex] at hv'
  refine C.clos _ _ _ (.one (m_value ho hw hdef hv' (.inl rfl))) ?_
  refine h _ w ?_ cs
  rw [hdst]
  exact hR.setD fun x hx => by
    unfold dstOk at hd; rw [hdst, hx] at hd; simpa [Nat.blt_eq] using hd

/-! ### loops, once more -/
def keepT (σ : St) (l : List Nat) : List (Nat × SV) := l.filterMap fun i => match lk σ.t i with | some v => some (i, v) | none => none
def keepH (σ : St) (l : List Nat) : List (Nat × (Nat × SC)) := l.filterMap fun i => match lk σ.h i with | some v => some (i, v) | none => none
def listBeq : List Nat → List Nat → Bool
  | [], [] => true
  | x :: l, y :: l' => Nat.beq x y && listBeq l l'
  | _, _ => false
theorem listBeq_eq : ∀ {l l' : List Nat}, listBeq l l' = true → l = l'
  | [], [], _ => rfl
  | x :: l, y :: l', h => by
    simp only [listBeq, Bool.and_eq_true] at h
    rw [Nat.eq_of_beq_eq_true h.1, listBeq_eq h.2]
  | [], _ :: _, h => by simp [listBeq] at h
  | _ :: _, [], h => by simp [listBeq] at h

def lessB (σ' σ : St) : Bool :=
  Nat.beq σ'.m σ.m && (Nat.ble σ'.n σ.n && (σ'.h.all (fun p => Nat.blt p.1 σ'.n) && (σ'.t.all (fun p => p.2.okB σ'.n) && (σ'.h.all (fun p => p.2.2.okB σ'.n) && (listBeq σ'.d σ.d && σ'.d.all fun i => Nat.blt i σ'.n)))))
theorem Less.of {σ' : St} (hb : lessB σ' σ = true) (ht : σ'.t.map (fun p => lk σ.t p.1) = σ'.t.map (fun p => some p.2)) (hh : (List.range σ'.n).map (lk σ'.h) = (List.range σ'.n).map (lk σ.h)) : Less σ' σ := by
  simp only [lessB, Bool.and_eq_true] at hb
  obtain ⟨h1, h2, h3, h4, h5, h6, h7⟩ := hb
  exact ⟨Nat.eq_of_beq_eq_true h1, h2, ht, hh, h3, h4, h5, listBeq_eq h6, h7⟩

/-- A loop: at the head of each round the state is f σ x for some x of which Inv holds, and μ falls. -/
theorem SG.loopI {α : Type} (f : St → α → St) (Inv : α → Prop) (μ : α → Nat) (hl : isLoop todo = true) (x0 : α) (hx0 : Inv x0) (hb : lessB (f σ x0) σ = true)
    (ht : (f σ x0).t.map (fun p => lk σ.t p.1) = (f σ x0).t.map (fun p => some p.2)) (hh : (List.range (f σ x0).n).map (lk (f σ x0).h) = (List.range (f σ x0).n).map (lk σ.h))
    (round : ∀ x, Inv x → (∀ y, Inv y → μ y < μ x → SG P C (.inLoop (bodyOf todo) :: tailOf todo) (f σ y)) → SG P C (.code (bodyOf todo) :: .inLoop (bodyOf todo) :: tailOf todo) (f σ x)) : SG P C todo σ :=
  SG.loop (α := { x : α // Inv x }) (fun x => f σ x.1) (fun x => μ x.1) hl ⟨x0, hx0⟩ (Less.of hb ht hh) fun x ih => round x.1 x.2 fun y hy hlt => ih ⟨y, hy⟩ hlt

/-- A round's end. -/
theorem SG.next {todo' : List Item} {σ' : St} (ih : SG P C todo' σ') (hk : todo = todo') (hb : lessB σ' σ = true)
    (ht : σ'.t.map (fun p => lk σ.t p.1) = σ'.t.map (fun p => some p.2)) (hh : (List.range σ'.n).map (lk σ'.h) = (List.range σ'.n).map (lk σ.h)) : SG P C todo σ :=
  SG.again ih hk (Less.of hb ht hh)

theorem wrap_i64 {x : Int} (h1 : -9223372036854775808 ≤ x) (h2 : x ≤ 9223372036854775807) : IntKind.i64.wrap x = x := by
  simp only [IntKind.wrap, IntKind.bits, IntKind.signed]; simp; omega

/-- 'k + 1' of a counter. -/
theorem SG.inc (d k : Nat) (h : lk σ.t d = some (.v (.int .i64 (IntKind.i64.wrap ((k : Int) + 1))))) (hk : k < 9223372036854775807)
    (hg : SG P C todo { σ with t := (d, .v (.int .i64 ((k + 1 : Nat) : Int))) :: σ.t }) : SG P C todo σ :=
  SG.slot d _ (.v (.int .i64 ((k + 1 : Nat) : Int))) h (by rw [wrap_i64 (by omega) (by omega)]; rfl) trivial hg

def binAt (σ : St) (todo : List Item) : Option (BinOp × TypeId × Value × Value) :=
  match (theOp todo).op with
  | .binOp op t x y _ => some (op, t, rhoOf σ x, rhoOf σ y)
  | _ => none
def isEq : BinOp → Bool
  | .eql => true
  | .neq => true
  | _ => false

/-- A sum and its like, of which the value is to be shown. -/
theorem SG.bin (op : BinOp) (t : TypeId) (x y : Value) (v : Value) (hr : opReady σ todo = true) (hb : binAt σ todo = some (op, t, x, y)) (hne : isEq op = false) (hv : binOp op t x y = pure v)
    (hd : dstOk σ todo = true) (h : SG P C (nextOf todo) (setD σ (dstOf todo) (.v v))) : SG P C todo σ := by
  refine SG.opv v hr hd (fun a w _ => ?_) h
  unfold binAt at hb
  split at hb
  · rename_i op' t' x' y' u ho
    cases hb
    simp only [semAt, execOp, ho]
    have : eqGuard op t x' y' (rhoOf σ x') (rhoOf σ y') = pure () := by cases op <;> first | rfl | simp [isEq] at hne
    rw [this, hv]
    rfl
  · cases hb

/-- As far as the operation that gives slot d, and no further. -/
def runTo (P : Program) (d : Nat) : Nat → (Nat → Nat) → List Item → St → List Item × St
  | 0, _, k, σ => (k, σ)
  | n + 1, ν, k, σ => match run1 P (ν 0) k σ with
    | some (k', σ') => bif (match dstOf k with | some e => Nat.beq e d | none => false) then (k', σ') else runTo P d n (fun j => ν (j + 1)) k' σ'
    | none => (k, σ)

theorem SG.past (d : Nat) (n : Nat) (h : ∀ ν : Nat → Nat, SG P C (runTo P d n ν todo σ).1 (runTo P d n ν todo σ).2) : SG P C todo σ := by
  induction n generalizing todo σ with
  | zero => exact h (fun _ => 0)
  | succ n ih =>
    intro a w hR cs
    cases hs : run1 P w.heap.size todo σ with
    | none =>
      have := h (fun _ => w.heap.size)
      simp only [Sx.runTo, hs] at this
      exact this a w hR cs
    | some p =>
      obtain ⟨k', σ'⟩ := p
      obtain ⟨a', w', hR', hst⟩ := run1_sound (b := C.b) hR hs
      cases hb : (match dstOf todo with | some e => Nat.beq e d | none => false) with
      | true =>
        have := h (fun _ => w.heap.size)
        simp only [Sx.runTo, hs, hb, cond_true] at this
        exact C.clos _ _ _ (hst cs) (this a' w' hR' cs)
      | false =>
        refine C.clos _ _ _ (hst cs) (ih (fun ν => ?_) a' w' hR' cs)
        have := h (fun j => match j with | 0 => w.heap.size | j + 1 => ν j)
        simp only [Sx.runTo, hs, hb, cond_false] at this
        exact this

/-- A test, at slot d: the ways part. -/
theorem SG.test (d : Nat) (b : Bool) (h : ∀ ν, lk (runTo P d 400 ν todo σ).2.t d = some (.v (.bool b)))
    (ht : b = true → ∀ ν, SG P C (runTo P d 400 ν todo σ).1 { (runTo P d 400 ν todo σ).2 with t := (d, .v (.bool true)) :: (runTo P d 400 ν todo σ).2.t })
    (hf : b = false → ∀ ν, SG P C (runTo P d 400 ν todo σ).1 { (runTo P d 400 ν todo σ).2 with t := (d, .v (.bool false)) :: (runTo P d 400 ν todo σ).2.t }) : SG P C todo σ :=
  SG.past d 400 fun ν => SG.split d b (h ν) (fun e => ht e ν) (fun e => hf e ν)

/-- A test of which the answer is known. -/
theorem SG.known (t : Bool) (d : Nat) (b : Bool) (hb : b = t) (h : ∀ ν, lk (runTo P d 400 ν todo σ).2.t d = some (.v (.bool b)))
    (ht : ∀ ν, SG P C (runTo P d 400 ν todo σ).1 { (runTo P d 400 ν todo σ).2 with t := (d, .v (.bool t)) :: (runTo P d 400 ν todo σ).2.t }) : SG P C todo σ := by
  subst hb
  exact SG.past d 400 fun ν => SG.slot d _ (.v (.bool b)) (h ν) rfl trivial (ht ν)

/-! ### pieces in other words -/

/-- A fact that a piece bears. -/
theorem SG.fact (i : Nat) (φ : Prop) (hφ : ∀ w, (chunkAt σ i).holds w → φ) (h : φ → SG P C todo σ) : SG P C todo σ :=
  fun a w hR cs => h (hφ w (hR.at_ i).1) a w hR cs
theorem SG.factRo (k : Nat) (φ : Prop) (hk : Nat.blt k C.K.ro.length = true) (hφ : ∀ w, (C.K.ro.getD k noC).holds w → φ) (h : φ → SG P C todo σ) : SG P C todo σ :=
  fun a w hR cs => h (by
    have hlt : k < C.K.ro.length := by simpa [Nat.blt_eq] using hk
    refine hφ w (hR.ro ?_)
    rw [List.getD_eq_getElem?_getD, List.getElem?_eq_getElem hlt]; exact List.getElem_mem hlt) a w hR cs

/-- Some pieces in other words, cs: they lie where these lay. -/
theorem SG.turn (is : List Nat) (cs : List Chunk) (hids : goodIds σ.n is = true)
    (hc : ∀ w, (sepL (is.map (chunkAt σ))).holds w → (sepL cs).holds w ∧ ∀ x, (sepL cs).fp x → (sepL (is.map (chunkAt σ))).fp x) (h : SG P C todo (addL (goneL σ is) cs)) : SG P C todo σ := by
  intro a w hR cs'
  obtain ⟨h1, h2⟩ := hc w (hR.sepL hids)
  have hin : ∀ x, (sepL (is.map (chunkAt σ))).fp x → C.K.S0 x ∨ C.K.w0.heap.size ≤ x := by
    intro x hx
    obtain ⟨j, c, hj, hcx⟩ := sepL_fp _ _ hx
    simp only [List.getElem?_map, Option.map_eq_some_iff] at hj
    obtain ⟨m, _, rfl⟩ := hj
    exact (hR.at_ m).2 x hcx
  have hR2 := hR.gone hids (w' := w) (Upd.refl _ _)
  refine h a w (Real.adds cs _ hR2 h1 (fun x hx => hin x (h2 x hx)) ?_) cs'
  intro j b c hj x hx hy
  rw [funext (blk_goneL σ is)] at hx
  rw [lk_goneL] at hj
  by_cases e : j ∈ is
  · simp only [e, if_true, Option.some.injEq, Prod.mk.injEq] at hj
    obtain ⟨_, rfl⟩ := hj
    exact hx.elim
  · simp only [e, if_false] at hj
    have hcx : (chunkAt σ j).fp x := by simpa [chunkAt, hj] using hx
    obtain ⟨q, c', hq, hcq⟩ := sepL_fp _ _ (h2 x hy)
    simp only [List.getElem?_map, Option.map_eq_some_iff] at hq
    obtain ⟨m, hm, rfl⟩ := hq
    have hne : j ≠ m := fun ee => e (ee ▸ List.mem_of_getElem? hm)
    exact hR.at_apart hne x hcx hcq

/-- A block whose cells are known is laid open: it becomes piece n of σ. -/
theorem SG.open_ (i : Nat) (b : Nat) (vs : List Value) (T : TypeId) (hi : chunkAt σ i = cellsC b vs T) (hlt : Nat.blt i σ.n = true)
    (h : SG P C todo (addC (goneL σ [i]) b (.cells (vs.map .v) T))) : SG P C todo σ := by
  intro a w hR cs
  have hg : goodIds σ.n [i] = true := by simp [goodIds, hlt]
  have hR2 := hR.gone hg (w' := w) (Upd.refl _ _)
  have hat := hR.at_ i
  rw [hi] at hat
  have hch : ∀ B, (SC.cells (vs.map .v) T).chunk B b = cellsC b vs T := by intro B; simp [SC.chunk, den, Function.comp_def]
  refine h a w (Real.add hR2 (c := .cells (vs.map .v) T) (b := b) (by intro sv hm; simp only [List.mem_map] at hm; obtain ⟨x, _, rfl⟩ := hm; trivial) (by rw [hch]; exact hat.1) (by rw [hch]; exact hat.2) ?_) cs
  intro j b' c' hj x hx
  rw [hch]
  rw [funext (blk_goneL σ [i])] at hx
  rw [lk_goneL] at hj
  by_cases e : j ∈ [i]
  · simp only [e, if_true, Option.some.injEq, Prod.mk.injEq] at hj
    obtain ⟨_, rfl⟩ := hj
    exact hx.elim
  · simp only [e, if_false] at hj
    have hcx : (chunkAt σ j).fp x := by simpa [chunkAt, hj] using hx
    have hne : j ≠ i := by simpa using e
    rw [← hi]
    exact hR.at_apart hne x hcx

/-- Piece j, a known block, is what piece i was: i takes it. -/
theorem SG.take (i j : Nat) (b : Nat) (vs : List Value) (T : TypeId) (hi : lk σ.h i = some (b, .gone)) (hj : chunkAt σ j = cellsC b vs T) (hlt : Nat.blt j σ.n = true)
    (h : SG P C todo { goneL σ [j] with h := (i, (b, .cells (vs.map .v) T)) :: (goneL σ [j]).h }) : SG P C todo σ := by
  intro a w hR cs
  have hne : i ≠ j := by
    intro e; subst e
    have h1 : chunkAt σ i = noC := by simp [chunkAt, hi, SC.chunk]
    rw [h1] at hj
    have h2 := congrArg Chunk.fp hj
    have h3 : (noC.fp b) = ((cellsC b vs T).fp b) := by rw [h2]
    simp [noC, cellsC, objC] at h3
  have hg : goodIds σ.n [j] = true := by simp [goodIds, hlt]
  have hR2 := hR.gone hg (w' := w) (Upd.refl _ _)
  have hat := hR.at_ j
  rw [hj] at hat
  have hch : ∀ B, (SC.cells (vs.map .v) T).chunk B b = cellsC b vs T := by intro B; simp [SC.chunk, den, Function.comp_def]
  have hi2 : lk (goneL σ [j]).h i = some (b, .gone) := by
    rw [lk_goneL]; simp [hne, hi]
  have hB := same_turn (goneL σ [j]).h (goneL σ [j]).n i b .gone (.cells (vs.map .v) T) hi2
  have key : ∀ q b1 c1, lk ((i, (b, SC.cells (vs.map .v) T)) :: (goneL σ [j]).h) q = some (b1, c1) → (q = i ∧ b1 = b ∧ c1 = .cells (vs.map .v) T) ∨ (q ≠ i ∧ lk (goneL σ [j]).h q = some (b1, c1)) := by
    intro q b1 c1 hq
    rw [lk_cons] at hq
    by_cases e : i = q
    · subst e; simp only [if_true, Option.some.injEq, Prod.mk.injEq] at hq; exact .inl ⟨rfl, hq.1.symm, hq.2.symm⟩
    · simp only [e, if_false] at hq; exact .inr ⟨fun e' => e e'.symm, hq⟩
  have hok : (SC.cells (vs.map .v) T).ok (goneL σ [j]).n := by intro sv hm; simp only [List.mem_map] at hm; obtain ⟨x, _, rfl⟩ := hm; trivial
  have far : ∀ q b1 c1, lk (goneL σ [j]).h q = some (b1, c1) → ∀ x, (c1.chunk (blkOf (goneL σ [j]).h) b1).fp x → ¬ (cellsC b vs T).fp x := by
    intro q b1 c1 hq x hx
    rw [funext (blk_goneL σ [j])] at hx
    rw [lk_goneL] at hq
    by_cases e : q ∈ [j]
    · simp only [e, if_true, Option.some.injEq, Prod.mk.injEq] at hq
      obtain ⟨_, rfl⟩ := hq
      exact hx.elim
    · simp only [e, if_false] at hq
      have hcx : (chunkAt σ q).fp x := by simpa [chunkAt, hq] using hx
      have hne : q ≠ j := by simpa using e
      rw [← hj]
      exact hR.at_apart hne x hcx
  refine h a w ?_ cs
  constructor
  · exact hR2.ok
  · exact hR2.size
  · intro q sv hq
    obtain ⟨h1, h2⟩ := hR2.slots q sv hq
    exact ⟨by rw [hB.den h2]; exact h1, h2⟩
  · intro q b1 c1 hq
    rcases key q b1 c1 hq with ⟨rfl, rfl, rfl⟩ | ⟨_, h1⟩
    · exact ⟨by rw [hch]; exact hat.1, hok⟩
    · obtain ⟨h2, h3⟩ := hR2.holds q b1 c1 h1
      exact ⟨by rw [hB.chunk h3]; exact h2, h3⟩
  · intro q r b1 c1 b2 c2 hne' hq hr
    rcases key q b1 c1 hq with ⟨rfl, rfl, rfl⟩ | ⟨_, h1⟩ <;> rcases key r b2 c2 hr with ⟨rfl, rfl, rfl⟩ | ⟨_, h2⟩
    · exact absurd rfl hne'
    · rw [hch, hB.chunk (hR2.holds r b2 c2 h2).2]
      exact fun x hx hy => far r b2 c2 h2 x hy hx
    · rw [hch, hB.chunk (hR2.holds q b1 c1 h1).2]
      exact far q b1 c1 h1
    · rw [hB.chunk (hR2.holds q b1 c1 h1).2, hB.chunk (hR2.holds r b2 c2 h2).2]
      exact hR2.apart q r b1 c1 b2 c2 hne' h1 h2
  · intro q b1 c1 hq
    rcases key q b1 c1 hq with ⟨rfl, rfl, rfl⟩ | ⟨_, h1⟩
    · rw [hch]; exact hat.2
    · rw [hB.chunk (hR2.holds q b1 c1 h1).2]; exact hR2.inS q b1 c1 h1
  · intro q hq
    have : i ≠ q := by have := lk_lt hR2 hi2; simp only at hq; omega
    rw [lk_cons, if_neg this]
    exact hR2.next q hq
  · exact hR2.upd
  · rw [hR2.defers]
    exact List.map_congr_left fun q hq => by rw [hB q (hR2.dlt q hq)]
  · exact hR2.dlt

end
end Go.Sx
