/- A small logic for walking Go's text: worlds that part in a set of blocks alone, pieces of memory, symbolic values and states. No program in sight. -/
import Derived.Orders
import Derived.Laws.Entries
namespace Go.Sx

/-! ### worlds -/
/-- The blocks of w that are not in S lie in w' as they lay; what is no memory is the same. -/
structure Upd (S : Nat → Prop) (w w' : World) : Prop where
  os : w'.os = w.os
  tape : w'.tape = w.tape
  output : w'.output = w.output
  size : w.heap.size ≤ w'.heap.size
  block : ∀ i, i < w.heap.size → ¬ S i → w'.heap[i]? = w.heap[i]?

theorem Upd.refl (S : Nat → Prop) (w : World) : Upd S w w := ⟨rfl, rfl, rfl, Nat.le_refl _, fun _ _ _ => rfl⟩
theorem Upd.mono {S S' : Nat → Prop} {w w' : World} (h : Upd S w w') (hs : ∀ i, i < w.heap.size → S i → S' i) : Upd S' w w' :=
  ⟨h.os, h.tape, h.output, h.size, fun i hi hn => h.block i hi fun hh => hn (hs i hi hh)⟩
theorem Upd.trans {S S' : Nat → Prop} {w w1 w2 : World} (h : Upd S w w1) (h' : Upd S' w1 w2) (hs : ∀ i, S' i → S i ∨ w.heap.size ≤ i) : Upd S w w2 :=
  ⟨h'.os.trans h.os, h'.tape.trans h.tape, h'.output.trans h.output, Nat.le_trans h.size h'.size, fun i hi hn =>
    (h'.block i (Nat.lt_of_lt_of_le hi h.size) fun hh => by rcases hs i hh with h1 | h1; exact hn h1; omega).trans (h.block i hi hn)⟩
theorem Upd.drawn (S : Nat → Prop) (w : World) (n : Nat) : Upd S w { w with drawn := n } := ⟨rfl, rfl, rfl, Nat.le_refl _, fun _ _ _ => rfl⟩
theorem Upd.alloc (S : Nat → Prop) (w : World) (o : Obj) : Upd S w { w with heap := w.heap.push o } :=
  ⟨rfl, rfl, rfl, by simp, fun i hi _ => by simp [Array.getElem?_push, Nat.ne_of_lt hi]⟩
theorem Upd.setCell {S : Nat → Prop} (w : World) (p : Addr) (v : Value) (h : S p.block) : Upd S w (w.setCell p v) :=
  ⟨rfl, rfl, rfl, by simp [World.setCell], fun i _ hn => by
    have : p.block ≠ i := fun e => hn (e ▸ h)
    simp [World.setCell, Array.getElem?_modify, this]⟩
theorem Upd.setObj {S : Nat → Prop} (w : World) (r : Nat) (o : Obj) (h : S r) : Upd S w { w with heap := w.heap.setIfInBounds r o } :=
  ⟨rfl, rfl, rfl, by simp, fun i _ hn => by
    have : r ≠ i := fun e => hn (e ▸ h)
    simp [this]⟩

/-! ### pieces of memory -/
structure Chunk where
  fp : Nat → Prop
  holds : World → Prop
  loc : ∀ w w', (∀ b, fp b → w'.heap[b]? = w.heap[b]?) → holds w → holds w'
  lt : ∀ w, holds w → ∀ b, fp b → b < w.heap.size

theorem lt_of_heap {w : World} {b : Nat} {o : Obj} (h : w.heap[b]? = some o) : b < w.heap.size := by
  rcases Nat.lt_or_ge b w.heap.size with hlt | hge
  · exact hlt
  · rw [Array.getElem?_eq_none hge] at h; cases h

/-- Just the block b, which is o. -/
def objC (b : Nat) (o : Obj) : Chunk where
  fp := (· = b)
  holds := fun w => w.heap[b]? = some o
  loc := fun _ _ hk h => (hk b rfl).trans h
  lt := fun _ h _ hb => hb ▸ lt_of_heap h
def cellsC (b : Nat) (cs : List Value) (T : TypeId) : Chunk := objC b (.cells cs.toArray T (0, 0))
/-- Nothing. -/
def noC : Chunk where
  fp := fun _ => False
  holds := fun _ => True
  loc := fun _ _ _ _ => trivial
  lt := fun _ _ _ h => h.elim
/-- One block, of which something is known. -/
def blockC (b : Nat) (φ : Obj → Prop) : Chunk where
  fp := (· = b)
  holds := fun w => ∃ o, w.heap[b]? = some o ∧ φ o
  loc := fun _ _ hk ⟨o, h, ho⟩ => ⟨o, (hk b rfl).trans h, ho⟩
  lt := fun _ ⟨_, h, _⟩ _ hb => hb ▸ lt_of_heap h

/-- Two pieces that lie apart. -/
def Chunk.sep (c d : Chunk) : Chunk where
  fp := fun b => c.fp b ∨ d.fp b
  holds := fun w => c.holds w ∧ d.holds w ∧ ∀ b, c.fp b → ¬ d.fp b
  loc := fun w w' hk ⟨hc, hd, hn⟩ => ⟨c.loc w w' (fun b h => hk b (.inl h)) hc, d.loc w w' (fun b h => hk b (.inr h)) hd, hn⟩
  lt := fun w ⟨hc, hd, _⟩ b h => h.elim (c.lt w hc b) (d.lt w hd b)
/-- All pieces of a list, apart. -/
def sepL : List Chunk → Chunk
  | [] => noC
  | c :: l => c.sep (sepL l)
/-- A fact beside a piece. -/
def Chunk.and (c : Chunk) (φ : Prop) : Chunk where
  fp := c.fp
  holds := fun w => c.holds w ∧ φ
  loc := fun w w' hk ⟨h, hp⟩ => ⟨c.loc w w' hk h, hp⟩
  lt := fun w ⟨h, _⟩ => c.lt w h

/-! ### symbolic values and states -/
/-- A value; or a pointer to cell o of piece i. -/
inductive SV where
  | v (x : Value)
  | p (i o : Nat)
  deriving Inhabited

inductive SC where
  | cells (cs : List SV) (T : TypeId)
  | ab (c : Chunk)
  | gone

def lk {β : Type} : List (Nat × β) → Nat → Option β
  | [], _ => none
  | (j, b) :: l, i => bif Nat.beq j i then some b else lk l i

/-- t: what is known of the slots (m of them), the newest first; h: the pieces, by their numbers (below n), each with its block; d: pieces that are marks of deferred calls. -/
structure St where
  t : List (Nat × SV)
  m : Nat
  h : List (Nat × (Nat × SC))
  n : Nat
  d : List Nat

def blkOf (h : List (Nat × (Nat × SC))) (i : Nat) : Nat :=
  match lk h i with
  | some (b, _) => b
  | none => 0

def den (B : Nat → Nat) : SV → Value
  | .v x => x
  | .p i o => .pointer (some ⟨B i, o, none⟩)

def SC.chunk (B : Nat → Nat) (b : Nat) : SC → Chunk
  | .cells cs T => cellsC b (cs.map (den B)) T
  | .ab c => c
  | .gone => noC

theorem lk_cons {β : Type} (l : List (Nat × β)) (j i : Nat) (b : β) : lk ((j, b) :: l) i = if j = i then some b else lk l i := by
  simp only [lk]
  by_cases h : j = i
  · subst h; simp
  · have : Nat.beq j i = false := by
      rw [← Bool.not_eq_true]; intro e; exact h (Nat.eq_of_beq_eq_true e)
    simp [this, h]

def SV.ok (n : Nat) : SV → Prop
  | .v _ => True
  | .p i _ => i < n

/-- Two tables of blocks that agree below n. -/
def Same (n : Nat) (B B' : Nat → Nat) : Prop := ∀ i, i < n → B' i = B i
theorem Same.den {n : Nat} {B B' : Nat → Nat} (h : Same n B B') {sv : SV} (hs : sv.ok n) : den B' sv = den B sv := by
  cases sv with
  | v x => rfl
  | p i o => simp [Sx.den, h i hs]
theorem Same.map {n : Nat} {B B' : Nat → Nat} (h : Same n B B') {l : List SV} (hs : ∀ sv ∈ l, sv.ok n) : l.map (Sx.den B') = l.map (Sx.den B) :=
  List.map_congr_left fun sv hm => h.den (hs sv hm)
def SC.ok (n : Nat) : SC → Prop
  | .cells cs _ => ∀ sv ∈ cs, sv.ok n
  | _ => True
theorem Same.chunk {n : Nat} {B B' : Nat → Nat} (h : Same n B B') {c : SC} (hs : c.ok n) (b : Nat) : c.chunk B' b = c.chunk B b := by
  cases c with
  | cells cs T => simp only [SC.chunk]; rw [h.map hs]
  | ab c => rfl
  | gone => rfl
theorem SV.ok.more {n n' : Nat} (h : n ≤ n') : ∀ {sv : SV}, sv.ok n → sv.ok n'
  | .v _, _ => trivial
  | .p _ _, hs => Nat.lt_of_lt_of_le hs h
theorem SC.ok.more {n n' : Nat} (h : n ≤ n') {c : SC} (hc : c.ok n) : c.ok n' := by
  cases c with
  | cells cs T => exact fun sv hm => (hc sv hm).more h
  | ab c => trivial
  | gone => trivial

/-! ### what a state says of a frame and a world -/
structure Kx where
  w0 : World
  S0 : Nat → Prop
  ro : List Chunk

structure Kx.Ok (K : Kx) : Prop where
  ro : ∀ c ∈ K.ro, c.holds K.w0 ∧ ∀ x, c.fp x → ¬ K.S0 x

def mark (r : Nat) : Deferred := { target := .collected r, args := #[] }

structure Real (K : Kx) (σ : St) (a : Act) (w : World) : Prop where
  ok : K.Ok
  size : a.tmps.size = σ.m
  slots : ∀ i sv, lk σ.t i = some sv → a.tmps[i]? = some (den (blkOf σ.h) sv) ∧ sv.ok σ.n
  holds : ∀ i b c, lk σ.h i = some (b, c) → (c.chunk (blkOf σ.h) b).holds w ∧ c.ok σ.n
  apart : ∀ i j b c b' c', i ≠ j → lk σ.h i = some (b, c) → lk σ.h j = some (b', c') → ∀ x, (c.chunk (blkOf σ.h) b).fp x → ¬ (c'.chunk (blkOf σ.h) b').fp x
  inS : ∀ i b c, lk σ.h i = some (b, c) → ∀ x, (c.chunk (blkOf σ.h) b).fp x → K.S0 x ∨ K.w0.heap.size ≤ x
  next : ∀ i, σ.n ≤ i → lk σ.h i = none
  upd : Upd K.S0 K.w0 w
  defers : a.defers = σ.d.map fun i => mark (blkOf σ.h i)
  dlt : ∀ i ∈ σ.d, i < σ.n

/-- What lay ahead of the call and is none of its own lies there still. -/
theorem Real.ro {K : Kx} {σ : St} {a : Act} {w : World} (h : Real K σ a w) {c : Chunk} (hc : c ∈ K.ro) : c.holds w :=
  let ⟨hh, hn⟩ := h.ok.ro c hc
  c.loc _ _ (fun b hb => h.upd.block b (c.lt _ hh b hb) (hn b hb)) hh

def ev (σ : St) : Operand → Option SV
  | .tmp t => lk σ.t t
  | .const v => some (.v v)
  | .func f => some (.v (.func (.func f) #[] #[]))
  | .global _ => none

theorem Real.ev {K : Kx} {σ : St} {a : Act} {w : World} (h : Real K σ a w) {x : Operand} {sv : SV} (he : ev σ x = some sv) : a.eval x = den (blkOf σ.h) sv ∧ sv.ok σ.n := by
  cases x with
  | tmp t =>
    have := h.slots t sv he
    exact ⟨by simp [Act.eval, Array.getD_eq_getD_getElem?, this], this.2⟩
  | const v => cases he; exact ⟨rfl, trivial⟩
  | func f => cases he; exact ⟨rfl, trivial⟩
  | global g => cases he

/-- A slot is given a value. -/
theorem Real.put {K : Kx} {σ : St} {a : Act} {w : World} (h : Real K σ a w) {d : Nat} {sv : SV} (hd : d < σ.m) (hs : sv.ok σ.n) :
    Real K { σ with t := (d, sv) :: σ.t } (a.put (some d) (den (blkOf σ.h) sv)) w where
  ok := h.ok
  size := by simp [Act.put, h.size]
  slots := by
    intro i sv' hi
    simp only [lk_cons] at hi
    have hz := h.size
    by_cases e : d = i
    · subst e
      simp only [if_true, Option.some.injEq] at hi
      subst hi
      exact ⟨by simp [Act.put, hz, hd], hs⟩
    · simp only [e, if_false] at hi
      exact ⟨by simp [Act.put, e, h.slots i sv' hi], (h.slots i sv' hi).2⟩
  holds := h.holds
  apart := h.apart
  inS := h.inS
  next := h.next
  upd := h.upd
  defers := h.defers
  dlt := h.dlt

theorem Real.draw {K : Kx} {σ : St} {a : Act} {w : World} (h : Real K σ a w) (n : Nat) : Real K σ a { w with drawn := n } where
  ok := h.ok
  size := h.size
  slots := h.slots
  holds := fun i b c hi => ⟨(c.chunk _ b).loc w _ (fun _ _ => rfl) (h.holds i b c hi).1, (h.holds i b c hi).2⟩
  apart := h.apart
  inS := h.inS
  next := h.next
  upd := ⟨h.upd.os, h.upd.tape, h.upd.output, h.upd.size, h.upd.block⟩
  defers := h.defers
  dlt := h.dlt

theorem lk_lt {K : Kx} {σ : St} {a : Act} {w : World} (h : Real K σ a w) {i : Nat} {x : Nat × SC} (hi : lk σ.h i = some x) : i < σ.n := by
  rcases Nat.lt_or_ge i σ.n with h1 | h1
  · exact h1
  · rw [h.next i h1] at hi; cases hi

theorem same_new (h : List (Nat × (Nat × SC))) (n : Nat) (x : Nat × SC) : Same n (blkOf h) (blkOf ((n, x) :: h)) := by
  intro i hi
  have : n ≠ i := by omega
  simp [blkOf, lk_cons, this]
theorem same_turn (h : List (Nat × (Nat × SC))) (n i : Nat) (b : Nat) (c c' : SC) (hi : lk h i = some (b, c)) : Same n (blkOf h) (blkOf ((i, (b, c')) :: h)) := by
  intro j _
  by_cases e : i = j
  · subst e; simp [blkOf, lk_cons, hi]
  · simp [blkOf, lk_cons, e]

/-- The world grows: nothing that is known turns. -/
theorem Real.more {K : Kx} {σ : St} {a : Act} {w w' : World} (h : Real K σ a w) (hu : Upd (fun _ => False) w w') : Real K σ a w' where
  ok := h.ok
  size := h.size
  slots := h.slots
  holds := fun i b c hi => ⟨(c.chunk _ b).loc w _ (fun x hx => hu.block x ((c.chunk _ b).lt w (h.holds i b c hi).1 x hx) id) (h.holds i b c hi).1, (h.holds i b c hi).2⟩
  apart := h.apart
  inS := h.inS
  next := h.next
  upd := h.upd.trans hu (fun _ h => h.elim)
  defers := h.defers
  dlt := h.dlt

/-- A new piece, made of blocks that nobody had. -/
theorem Real.add {K : Kx} {σ : St} {a : Act} {w : World} (h : Real K σ a w) {b : Nat} {c : SC} (hok : c.ok σ.n)
    (hc : (c.chunk (blkOf σ.h) b).holds w) (hf : ∀ x, (c.chunk (blkOf σ.h) b).fp x → K.S0 x ∨ K.w0.heap.size ≤ x)
    (hn : ∀ i b' c', lk σ.h i = some (b', c') → ∀ x, (c'.chunk (blkOf σ.h) b').fp x → ¬ (c.chunk (blkOf σ.h) b).fp x) :
    Real K { σ with h := (σ.n, (b, c)) :: σ.h, n := σ.n + 1 } a w := by
  have hB := same_new σ.h σ.n (b, c)
  have key : ∀ i b' c', lk ((σ.n, (b, c)) :: σ.h) i = some (b', c') → (i = σ.n ∧ b' = b ∧ c' = c) ∨ (i ≠ σ.n ∧ lk σ.h i = some (b', c')) := by
    intro i b' c' hi
    rw [lk_cons] at hi
    by_cases e : σ.n = i
    · subst e; simp only [if_true, Option.some.injEq, Prod.mk.injEq] at hi; exact .inl ⟨rfl, hi.1.symm, hi.2.symm⟩
    · simp only [e, if_false] at hi; exact .inr ⟨fun e' => e e'.symm, hi⟩
  constructor
  · exact h.ok
  · exact h.size
  · intro i sv hi
    obtain ⟨h1, h2⟩ := h.slots i sv hi
    exact ⟨by rw [hB.den h2]; exact h1, h2.more (Nat.le_succ _)⟩
  · intro i b' c' hi
    rcases key i b' c' hi with ⟨rfl, rfl, rfl⟩ | ⟨_, h1⟩
    · exact ⟨by rw [hB.chunk hok]; exact hc, hok.more (Nat.le_succ _)⟩
    · obtain ⟨h2, h3⟩ := h.holds i b' c' h1
      exact ⟨by rw [hB.chunk h3]; exact h2, h3.more (Nat.le_succ _)⟩
  · intro i j b1 c1 b2 c2 hne hi hj
    rcases key i b1 c1 hi with ⟨rfl, rfl, rfl⟩ | ⟨_, h1⟩ <;> rcases key j b2 c2 hj with ⟨rfl, rfl, rfl⟩ | ⟨_, h2⟩
    · exact absurd rfl hne
    · rw [hB.chunk hok, hB.chunk (h.holds j b2 c2 h2).2]
      exact fun x hx hy => hn j b2 c2 h2 x hy hx
    · rw [hB.chunk hok, hB.chunk (h.holds i b1 c1 h1).2]
      exact hn i b1 c1 h1
    · rw [hB.chunk (h.holds i b1 c1 h1).2, hB.chunk (h.holds j b2 c2 h2).2]
      exact h.apart i j b1 c1 b2 c2 hne h1 h2
  · intro i b' c' hi
    rcases key i b' c' hi with ⟨rfl, rfl, rfl⟩ | ⟨_, h1⟩
    · rw [hB.chunk hok]; exact hf
    · rw [hB.chunk (h.holds i b' c' h1).2]; exact h.inS i b' c' h1
  · intro i hi
    simp only at hi
    have : σ.n ≠ i := by omega
    rw [lk_cons, if_neg this]
    exact h.next i (by omega)
  · exact h.upd
  · rw [h.defers]
    exact List.map_congr_left fun i hi => by rw [hB i (h.dlt i hi)]
  · exact fun i hi => Nat.lt_succ_of_lt (h.dlt i hi)

/-- A piece turns: of the world only its blocks, and new ones. -/
theorem Real.turn {K : Kx} {σ : St} {a : Act} {w w' : World} (h : Real K σ a w) {i b : Nat} {c c' : SC} (hi : lk σ.h i = some (b, c)) (hok : c'.ok σ.n)
    (hu : Upd (c.chunk (blkOf σ.h) b).fp w w') (hc : (c'.chunk (blkOf σ.h) b).holds w')
    (hf : ∀ x, (c'.chunk (blkOf σ.h) b).fp x → (c.chunk (blkOf σ.h) b).fp x ∨ w.heap.size ≤ x) :
    Real K { σ with h := (i, (b, c')) :: σ.h } a w' := by
  have hB := same_turn σ.h σ.n i b c c' hi
  have key : ∀ j b1 c1, lk ((i, (b, c')) :: σ.h) j = some (b1, c1) → (j = i ∧ b1 = b ∧ c1 = c') ∨ (j ≠ i ∧ lk σ.h j = some (b1, c1)) := by
    intro j b1 c1 hj
    rw [lk_cons] at hj
    by_cases e : i = j
    · subst e; simp only [if_true, Option.some.injEq, Prod.mk.injEq] at hj; exact .inl ⟨rfl, hj.1.symm, hj.2.symm⟩
    · simp only [e, if_false] at hj; exact .inr ⟨fun e' => e e'.symm, hj⟩
  have far : ∀ j b1 c1, j ≠ i → lk σ.h j = some (b1, c1) → ∀ x, (c1.chunk (blkOf σ.h) b1).fp x → ¬ (c'.chunk (blkOf σ.h) b).fp x := by
    intro j b1 c1 hne hj x hx hy
    rcases hf x hy with h1 | h1
    · exact h.apart j i b1 c1 b c hne hj hi x hx h1
    · have := (c1.chunk (blkOf σ.h) b1).lt w (h.holds j b1 c1 hj).1 x hx; omega
  constructor
  · exact h.ok
  · exact h.size
  · intro j sv hj
    obtain ⟨h1, h2⟩ := h.slots j sv hj
    exact ⟨by rw [hB.den h2]; exact h1, h2⟩
  · intro j b1 c1 hj
    rcases key j b1 c1 hj with ⟨rfl, rfl, rfl⟩ | ⟨hne, h1⟩
    · exact ⟨by rw [hB.chunk hok]; exact hc, hok⟩
    · obtain ⟨h2, h3⟩ := h.holds j b1 c1 h1
      exact ⟨by
        rw [hB.chunk h3]
        exact (c1.chunk _ b1).loc w _ (fun x hx => hu.block x ((c1.chunk _ b1).lt w h2 x hx) fun hy => h.apart j i b1 c1 b c hne h1 hi x hx hy) h2, h3⟩
  · intro j k b1 c1 b2 c2 hne hj hk
    rcases key j b1 c1 hj with ⟨rfl, rfl, rfl⟩ | ⟨h1n, h1⟩ <;> rcases key k b2 c2 hk with ⟨rfl, rfl, rfl⟩ | ⟨h2n, h2⟩
    · exact absurd rfl hne
    · rw [hB.chunk hok, hB.chunk (h.holds k b2 c2 h2).2]
      exact fun x hx hy => far k b2 c2 h2n h2 x hy hx
    · rw [hB.chunk hok, hB.chunk (h.holds j b1 c1 h1).2]
      exact far j b1 c1 h1n h1
    · rw [hB.chunk (h.holds j b1 c1 h1).2, hB.chunk (h.holds k b2 c2 h2).2]
      exact h.apart j k b1 c1 b2 c2 hne h1 h2
  · intro j b1 c1 hj
    rcases key j b1 c1 hj with ⟨rfl, rfl, rfl⟩ | ⟨_, h1⟩
    · rw [hB.chunk hok]
      intro x hx
      rcases hf x hx with h1 | h1
      · exact h.inS _ _ _ hi x h1
      · exact .inr (Nat.le_trans h.upd.size h1)
    · rw [hB.chunk (h.holds j b1 c1 h1).2]; exact h.inS j b1 c1 h1
  · intro j hj
    have : i ≠ j := by have := lk_lt h hi; simp only at hj; omega
    rw [lk_cons, if_neg this]
    exact h.next j hj
  · refine h.upd.trans hu ?_
    intro x hx
    exact h.inS i b c hi x hx
  · rw [h.defers]
    exact List.map_congr_left fun j hj => by rw [hB j (h.dlt j hj)]
  · exact h.dlt

end Go.Sx
