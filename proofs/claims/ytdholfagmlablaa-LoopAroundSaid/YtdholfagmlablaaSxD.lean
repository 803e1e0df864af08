/- Walking Go's text by symbolic states: control, calls, returns. -/
import Derived.Test.YtdholfagmlablaaSxC
namespace Go.Sx

structure FB where
  fn : FuncId
  kind : CallKind
  round : Option Nat

def fat (b : FB) (a : Act) (todo : List Item) : Frame :=
  { fn := b.fn, tmps := a.tmps, todo, defers := a.defers, mode := .run, kind := b.kind, roundOf := b.round }

theorem fat_eval (b : FB) (a : Act) (todo : List Item) : (fat b a todo).eval = a.eval := by funext x; cases x <;> rfl

/-! ### the machine's steps -/
section
variable {P : Program} {b : FB} {a : Act} {k : List Item} {cs : List Frame} {w : World} {ops : Array Oper}
theorem m_skip : step P (lone (fat b a (.code .skip :: k)) cs w) = .next (lone (fat b a k) cs w) := step_lone_go (by simp [stepG, stepG.exec, fat])
theorem m_label {l : Nat} : step P (lone (fat b a (.code (.label l) :: k)) cs w) = .next (lone (fat b a k) cs w) := step_lone_go (by simp [stepG, stepG.exec, fat])
theorem m_inBlock {i : Nat} : step P (lone (fat b a (.inBlock i :: k)) cs w) = .next (lone (fat b a k) cs w) := step_lone_go (by simp [stepG, stepG.exec, fat])
theorem m_inScope {c : Code} : step P (lone (fat b a (.inScope c :: k)) cs w) = .next (lone (fat b a k) cs w) := step_lone_go (by simp [stepG, stepG.exec, fat])
theorem m_seq {x y : Code} : step P (lone (fat b a (.code (.seq x y) :: k)) cs w) = .next (lone (fat b a (.code x :: .code y :: k)) cs w) := step_lone_go (by simp [stepG, stepG.exec, fat])
theorem m_cond {c : Operand} {x y : Code} {t : Bool} (h : a.eval c = .bool t) : step P (lone (fat b a (.code (.cond c x y) :: k)) cs w) = .next (lone (fat b a (.code (if t then x else y) :: k)) cs w) :=
  step_lone_go (by
    have := congrFun (fat_eval b a (.code (.cond c x y) :: k)) c
    simp only [fat] at this
    simp [stepG, stepG.exec, fat, this, h])
theorem m_block {i : Nat} {c : Code} : step P (lone (fat b a (.code (.block i c) :: k)) cs w) = .next (lone (fat b a (.code c :: .inBlock i :: k)) cs w) := step_lone_go (by simp [stepG, stepG.exec, fat])
theorem m_loop {c : Code} : step P (lone (fat b a (.code (.loop c) :: k)) cs w) = .next (lone (fat b a (.code c :: .inLoop c :: k)) cs w) := step_lone_go (by simp [stepG, stepG.exec, fat])
theorem m_inLoop {c : Code} : step P (lone (fat b a (.inLoop c :: k)) cs w) = .next (lone (fat b a (.code c :: .inLoop c :: k)) cs w) := step_lone_go (by simp [stepG, stepG.exec, fat])
theorem m_scope {c : Code} : step P (lone (fat b a (.code (.scope c) :: k)) cs w) = .next (lone (fat b a (.code c :: .inScope c :: k)) cs w) := step_lone_go (by simp [stepG, stepG.exec, fat])
theorem m_exit {i : Nat} {k' : List Item} (h : exitTo i k = some k') : step P (lone (fat b a (.code (.exit i) :: k)) cs w) = .next (lone (fat b a k') cs w) := step_lone_go (by simp [stepG, stepG.exec, fat, h])
theorem m_goto {i : Nat} {k' : List Item} (h : gotoIn i k = some k') : step P (lone (fat b a (.code (.goto i) :: k)) cs w) = .next (lone (fat b a k') cs w) := step_lone_go (by simp [stepG, stepG.exec, fat, h])
theorem m_region {i : Nat} : step P (lone (fat b a (.code (.region i ops false) :: k)) cs w) = .next (lone (fat b a (.inRegion ops (List.range ops.size) :: k)) cs w) := step_lone_go (by simp [stepG, stepG.exec, fat])
theorem m_draw {i : Nat} : step P (lone (fat b a (.code (.region i ops true) :: k)) cs w) =
    .next (lone (fat b a (.inRegion ops (Region.schedule (P.follows .mixedOrders) ops (w.tape w.drawn (.order b.fn i))) :: k)) cs { w with drawn := w.drawn + 1 }) :=
  step_lone_go (by simp [stepG, stepG.exec, fat, choose, Sem.run, Question.forced, Question.cut])
theorem m_end : step P (lone (fat b a (.inRegion ops [] :: k)) cs w) = .next (lone (fat b a k) cs w) := step_lone_go (by simp [stepG, stepG.exec, fat])

theorem finish_fat {i : Nat} {rest : List Nat} (v : Value) : (fat b a (.inRegion ops (i :: rest) :: k)).finish v = fat b (a.put ((ops[i]?).bind (·.dst)) v) (.inRegion ops rest :: k) := by
  cases h : (ops[i]?).bind (·.dst) <;> simp [Frame.finish, fat, Act.put, h]

theorem m_opskip {i : Nat} {rest : List Nat} (h : ((ops[i]?).map (Region.wanted · (yielded ops a.tmps))).getD false = false) :
    step P (lone (fat b a (.inRegion ops (i :: rest) :: k)) cs w) = .next (lone (fat b (a.put ((ops[i]?).bind (·.dst)) undef) (.inRegion ops rest :: k)) cs w) := by
  rw [← finish_fat]
  exact step_lone_go (by
    have h' := h
    simp only [fat] at *
    simp [stepG, stepG.exec, h'])

def isDefer : Op → Bool
  | .defer _ => true
  | _ => false

theorem stepG_fat {i : Nat} {rest : List Nat} {o : Oper} (ho : ops[i]? = some o) (hw : Region.wanted o (yielded ops a.tmps) = true) (hd : isDefer o.op = false) :
    stepG P true { frame := fat b a (.inRegion ops (i :: rest) :: k), callers := cs, status := .running, dying := none } w =
      stepG.apply P true (fat b a (.inRegion ops (i :: rest) :: k)) cs none (execOp a.eval o) w := by
  have he := fat_eval b a (.inRegion ops (i :: rest) :: k)
  simp only [fat] at he
  cases hr : b.round with
  | none => simp [stepG, stepG.exec, stepG.oper, Frame.oper?, fat, ho, hw, hr]; simp [hr] at he; rw [he]
  | some l =>
    simp only [stepG, stepG.exec, fat, ho, hw, Option.map_some, Option.getD_some, if_true, stepG.oper, Frame.oper?, hr]
    rw [hr] at he
    split
    · rename_i hh; simp [hh, isDefer] at hd
    · rw [he]

theorem m_value {i : Nat} {rest : List Nat} {o : Oper} (ho : ops[i]? = some o) (hw : Region.wanted o (yielded ops a.tmps) = true) (hd : isDefer o.op = false) {v : Value} {w' : World} {nx : Next}
    (hr : (execOp a.eval o).run P w = .ok nx w') (hnx : nx = .value v ∨ (nx = .skip ∧ v = undef)) :
    step P (lone (fat b a (.inRegion ops (i :: rest) :: k)) cs w) = .next (lone (fat b (a.put o.dst v) (.inRegion ops rest :: k)) cs w') := by
  have hg := stepG_fat (P := P) (b := b) (k := k) (cs := cs) (w := w) (rest := rest) ho hw hd
  have hfin : (fat b a (.inRegion ops (i :: rest) :: k)).finish v = fat b (a.put o.dst v) (.inRegion ops rest :: k) := by rw [finish_fat, ho]; rfl
  refine step_lone_go ?_
  rw [hg, ← hfin]
  rcases hnx with rfl | ⟨rfl, rfl⟩ <;> simp [stepG.apply, hr]

theorem m_enter {i : Nat} {rest : List Nat} {o : Oper} (ho : ops[i]? = some o) (hw : Region.wanted o (yielded ops a.tmps) = true) (hd : isDefer o.op = false) {f : FuncId} {args : Array Value} {w' : World}
    (hr : (execOp a.eval o).run P w = .ok (.enter f args) w') :
    step P (lone (fat b a (.inRegion ops (i :: rest) :: k)) cs w) = .next (lone (Frame.enter P f args .normal) (fat b a (.inRegion ops (i :: rest) :: k) :: cs) w') := by
  have hg := stepG_fat (P := P) (b := b) (k := k) (cs := cs) (w := w) (rest := rest) ho hw hd
  refine step_lone_go ?_
  rw [hg]
  simp [stepG.apply, hr, fat]
end

/-! ### where a walk is to come; what holds of a place in the text -/
structure Ctx (P : Program) where
  K : Kx
  b : FB
  T : List Frame → Machine → Prop
  clos : ∀ cs m m', Steps P m m' → T cs m' → T cs m

def SG (P : Program) (C : Ctx P) (todo : List Item) (σ : St) : Prop :=
  ∀ a w, Real C.K σ a w → ∀ cs, C.T cs (lone (fat C.b a todo) cs w)

def stepC (σ : St) : List Item → Option (List Item)
  | .code .skip :: k => some k
  | .code (.label _) :: k => some k
  | .inBlock _ :: k => some k
  | .inScope _ :: k => some k
  | .code (.seq x y) :: k => some (.code x :: .code y :: k)
  | .code (.cond c x y) :: k => match ev σ c with
    | some (.v (.bool true)) => some (.code x :: k)
    | some (.v (.bool false)) => some (.code y :: k)
    | _ => none
  | .code (.block i c) :: k => some (.code c :: .inBlock i :: k)
  | .code (.scope c) :: k => some (.code c :: .inScope c :: k)
  | .code (.exit i) :: k => exitTo i k
  | .code (.goto i) :: k => gotoIn i k
  | .code (.region _ ops false) :: k => some (.inRegion ops (List.range ops.size) :: k)
  | .inRegion _ [] :: k => some k
  | _ => none

/-- May an operation be done? none: it isn't known. -/
def wantedB (ops : Array Oper) (σ : St) (o : Oper) : Option Bool :=
  match o.guard with
  | none => some true
  | some (j, want) => match (ops[j]?).bind (·.dst) with
    | some d => match lk σ.t d with
      | some (.v (.bool true)) => some want
      | some (.v (.bool false)) => some (!want)
      | some (.v (.tuple _)) => some false
      | _ => none
    | none => none

def run1 (P : Program) (ν : Nat) (todo : List Item) (σ : St) : Option (List Item × St) :=
  match todo with
  | .inRegion ops (i :: rest) :: k => match ops[i]? with
    | some o => match wantedB ops σ o with
      | some true => bif isDefer o.op then none else match stepOp P ν σ o with
        | some (σ', _) => some (.inRegion ops rest :: k, σ')
        | none => none
      | some false => match putT σ o.dst (.v undef) with
        | some σ' => some (.inRegion ops rest :: k, σ')
        | none => none
      | none => none
    | none => none
  | todo => match stepC σ todo with
    | some k => some (k, σ)
    | none => none

def run (P : Program) : Nat → (Nat → Nat) → List Item → St → List Item × St
  | 0, _, k, σ => (k, σ)
  | n + 1, ν, k, σ => match run1 P (ν 0) k σ with
    | some (k', σ') => run P n (fun j => ν (j + 1)) k' σ'
    | none => (k, σ)

section
variable {P : Program} {C : Ctx P} {todo : List Item} {σ : St}

theorem SG.steps {todo' : List Item} {σ' : St} (h : SG P C todo' σ')
    (hs : ∀ a w, Real C.K σ a w → ∃ a' w', Real C.K σ' a' w' ∧ ∀ cs, Steps P (lone (fat C.b a todo) cs w) (lone (fat C.b a' todo') cs w')) : SG P C todo σ := by
  intro a w hR cs
  obtain ⟨a', w', hR', hst⟩ := hs a w hR
  exact C.clos _ _ _ (hst cs) (h a' w' hR' cs)

theorem stepC_sound {K : Kx} {b : FB} {a : Act} {w : World} (h : Real K σ a w) {k' : List Item} (hs : stepC σ todo = some k') (cs : List Frame) :
    step P (lone (fat b a todo) cs w) = .next (lone (fat b a k') cs w) := by
  unfold stepC at hs
  split at hs
  · cases hs; exact m_skip
  · cases hs; exact m_label
  · cases hs; exact m_inBlock
  · cases hs; exact m_inScope
  · cases hs; exact m_seq
  · rename_i c x y k
    split at hs
    · rename_i hc; cases hs; exact m_cond (t := true) (h.ev hc).1
    · rename_i hc; cases hs; exact m_cond (t := false) (h.ev hc).1
    · cases hs
  · cases hs; exact m_block
  · cases hs; exact m_scope
  · exact m_exit hs
  · exact m_goto hs
  · cases hs; exact m_region
  · cases hs; exact m_end
  · cases hs

theorem wantedB_sound {K : Kx} {a : Act} {w : World} {ops : Array Oper} {o : Oper} (h : Real K σ a w) {t : Bool} (hw : wantedB ops σ o = some t) :
    Region.wanted o (yielded ops a.tmps) = t := by
  unfold wantedB at hw
  unfold Region.wanted
  split at hw
  · rename_i hg; cases hw; simp [hg]
  · rename_i j want hg
    split at hw
    · rename_i d hd
      split at hw
      · rename_i hv
        cases hw
        have := (h.slots d _ hv).1
        simp only [hg, yielded, hd, Option.bind_some, this, den]
        cases t <;> rfl
      · rename_i hv
        cases hw
        have := (h.slots d _ hv).1
        simp only [hg, yielded, hd, Option.bind_some, this, den]
        cases want <;> rfl
      · rename_i hv
        cases hw
        have := (h.slots d _ hv).1
        simp only [hg, yielded, hd, Option.bind_some, this, den]
        cases want <;> rfl
      · cases hw
    · cases hw

theorem run1_sound {K : Kx} {b : FB} {a : Act} {w : World} (h : Real K σ a w) {k' : List Item} {σ' : St} (hs : run1 P w.heap.size todo σ = some (k', σ')) :
    ∃ a' w', Real K σ' a' w' ∧ ∀ cs, Steps P (lone (fat b a todo) cs w) (lone (fat b a' k') cs w') := by
  unfold run1 at hs
  split at hs
  · rename_i ops i rest k
    split at hs
    · rename_i o ho
      split at hs
      · rename_i hwt
        have hw := wantedB_sound h hwt
        cases hd : isDefer o.op with
        | true => rw [hd, cond_true] at hs; cases hs
        | false =>
          rw [hd, cond_false] at hs
          split at hs
          · rename_i σ1 used hst
            cases hs
            obtain ⟨v, w', nx, h1, h2, h3⟩ := stepOp_sound h hst (fun _ => rfl)
            exact ⟨_, _, h3, fun cs => .one (m_value ho hw hd h1 h2)⟩
          · cases hs
      · rename_i hwt
        have hw := wantedB_sound h hwt
        split at hs
        · rename_i σ1 hp
          cases hs
          have h1 := putT_sound h hp trivial
          refine ⟨_, w, h1, fun cs => .one ?_⟩
          have := m_opskip (P := P) (b := b) (a := a) (k := k) (cs := cs) (w := w) (ops := ops) (i := i) (rest := rest) (by simp [ho, hw])
          rw [ho] at this
          exact this
        · cases hs
      · cases hs
    · cases hs
  · split at hs
    · rename_i k1 hk
      cases hs
      exact ⟨a, w, h, fun cs => .one (stepC_sound h hk cs)⟩
    · cases hs

/-- Some steps that hang on nothing that isn't known; the blocks that are made meanwhile have whatever numbers. -/
theorem SG.run (n : Nat) (h : ∀ ν : Nat → Nat, SG P C (run P n ν todo σ).1 (run P n ν todo σ).2) : SG P C todo σ := by
  induction n generalizing todo σ with
  | zero => exact h (fun _ => 0)
  | succ n ih =>
    intro a w hR cs
    cases hs : run1 P w.heap.size todo σ with
    | none =>
      have := h (fun _ => w.heap.size)
      simp only [Sx.run, hs] at this
      exact this a w hR cs
    | some p =>
      obtain ⟨k', σ'⟩ := p
      obtain ⟨a', w', hR', hst⟩ := run1_sound (b := C.b) hR hs
      refine C.clos _ _ _ (hst cs) (ih (fun ν => ?_) a' w' hR' cs)
      have := h (fun j => match j with | 0 => w.heap.size | j + 1 => ν j)
      simp only [Sx.run, hs] at this
      exact this

/-- A test parts the ways. -/
theorem SG.split (s : Nat) (b : Bool) (h : lk σ.t s = some (.v (.bool b))) (ht : b = true → SG P C todo { σ with t := (s, .v (.bool true)) :: σ.t })
    (hf : b = false → SG P C todo { σ with t := (s, .v (.bool false)) :: σ.t }) : SG P C todo σ := by
  have key : ∀ a w, Real C.K σ a w → Real C.K { σ with t := (s, .v (.bool b)) :: σ.t } a w := by
    intro a w hR
    refine { hR with slots := ?_ }
    intro i sv hi
    simp only [lk_cons] at hi
    by_cases e : s = i
    · subst e; simp only [if_true, Option.some.injEq] at hi; subst hi; exact hR.slots s _ h
    · simp only [e, if_false] at hi; exact hR.slots i sv hi
  intro a w hR cs
  cases b with
  | true => exact ht rfl a w (key a w hR) cs
  | false => exact hf rfl a w (key a w hR) cs

/-- A slot's value in other words. -/
theorem SG.slot (s : Nat) (sv sv' : SV) (h : lk σ.t s = some sv) (he : den (blkOf σ.h) sv = den (blkOf σ.h) sv') (hok : sv'.ok σ.n) (hg : SG P C todo { σ with t := (s, sv') :: σ.t }) : SG P C todo σ := by
  intro a w hR cs
  refine hg a w { hR with slots := ?_ } cs
  intro i sv1 hi
  simp only [lk_cons] at hi
  by_cases e : s = i
  · subst e; simp only [if_true, Option.some.injEq] at hi; subst hi; exact ⟨he ▸ (hR.slots s _ h).1, hok⟩
  · simp only [e, if_false] at hi; exact hR.slots i sv1 hi

/-! ### forgetting -/
def SV.okB (n : Nat) : SV → Bool
  | .v _ => true
  | .p i _ => Nat.blt i n
def SC.okB (n : Nat) : SC → Bool
  | .cells cs _ => cs.all (·.okB n)
  | _ => true
theorem SV.ok_of {n : Nat} : ∀ {sv : SV}, sv.okB n = true → sv.ok n
  | .v _, _ => trivial
  | .p _ _, h => by simpa [SV.okB, SV.ok, Nat.blt_eq] using h
theorem SC.ok_of {n : Nat} {c : SC} (h : c.okB n = true) : c.ok n := by
  cases c with
  | cells cs T =>
    simp only [SC.okB, List.all_eq_true] at h
    exact fun sv hm => SV.ok_of (h sv hm)
  | ab c => trivial
  | gone => trivial

/-- σ' says less than σ. -/
structure Less (σ' σ : St) : Prop where
  m : σ'.m = σ.m
  n : Nat.ble σ'.n σ.n = true
  t : σ'.t.map (fun p => lk σ.t p.1) = σ'.t.map (fun p => some p.2)
  h : (List.range σ'.n).map (lk σ'.h) = (List.range σ'.n).map (lk σ.h)
  hn : σ'.h.all (fun p => Nat.blt p.1 σ'.n) = true
  tok : σ'.t.all (fun p => p.2.okB σ'.n) = true
  hok : σ'.h.all (fun p => p.2.2.okB σ'.n) = true
  d : σ'.d = σ.d
  dn : σ'.d.all (fun i => Nat.blt i σ'.n) = true

theorem lk_mem {β : Type} : ∀ {l : List (Nat × β)} {i : Nat} {x : β}, lk l i = some x → (i, x) ∈ l
  | [], _, _, h => by simp [lk] at h
  | (j, b) :: l, i, x, h => by
    rw [lk_cons] at h
    by_cases e : j = i
    · subst e; simp only [if_true, Option.some.injEq] at h; subst h; simp
    · simp only [e, if_false] at h; exact List.mem_cons_of_mem _ (lk_mem h)

theorem lk_none {β : Type} {l : List (Nat × β)} {i : Nat} (h : ∀ p ∈ l, p.1 ≠ i) : lk l i = none := by
  cases hx : lk l i with
  | none => rfl
  | some x => exact absurd rfl (h _ (lk_mem hx))

theorem Less.real {σ' : St} {K : Kx} {a : Act} {w : World} (hl : Less σ' σ) (hR : Real K σ a w) : Real K σ' a w := by
  have hn : σ'.n ≤ σ.n := Nat.le_of_ble_eq_true hl.n
  have hlk : ∀ i, i < σ'.n → lk σ'.h i = lk σ.h i := by
    intro i hi
    have := congrArg (fun l => l[i]?) hl.h
    simpa [List.getElem?_map, List.getElem?_range hi] using this
  have hge : ∀ i, σ'.n ≤ i → lk σ'.h i = none := by
    intro i hi
    refine lk_none fun p hp e => ?_
    have := List.all_eq_true.1 hl.hn p hp
    simp only [Nat.blt_eq] at this
    omega
  have hlt : ∀ i x, lk σ'.h i = some x → i < σ'.n := by
    intro i x hx
    rcases Nat.lt_or_ge i σ'.n with h1 | h1
    · exact h1
    · rw [hge i h1] at hx; cases hx
  have hB : Same σ'.n (blkOf σ.h) (blkOf σ'.h) := by
    intro i hi; simp [blkOf, hlk i hi]
  have hcok : ∀ i b c, lk σ'.h i = some (b, c) → c.ok σ'.n := by
    intro i b c hi
    exact SC.ok_of (List.all_eq_true.1 hl.hok _ (lk_mem hi))
  constructor
  · exact hR.ok
  · rw [hR.size, hl.m]
  · intro i sv hi
    have hm := lk_mem hi
    have hs : sv.ok σ'.n := SV.ok_of (List.all_eq_true.1 hl.tok _ hm)
    have hlk' : lk σ.t i = some sv := by
      have := (List.map_inj_left.1 hl.t) _ hm
      exact this
    exact ⟨by rw [hB.den hs]; exact (hR.slots i sv hlk').1, hs⟩
  · intro i b c hi
    have h1 := hlt i _ hi
    rw [hlk i h1] at hi
    have h2 := hcok i b c (by rw [hlk i h1]; exact hi)
    exact ⟨by rw [hB.chunk h2]; exact (hR.holds i b c hi).1, h2⟩
  · intro i j b c b' c' hne hi hj
    have h1 := hcok i b c hi
    have h2 := hcok j b' c' hj
    rw [hB.chunk h1, hB.chunk h2]
    rw [hlk i (hlt i _ hi)] at hi
    rw [hlk j (hlt j _ hj)] at hj
    exact hR.apart i j b c b' c' hne hi hj
  · intro i b c hi
    rw [hB.chunk (hcok i b c hi)]
    rw [hlk i (hlt i _ hi)] at hi
    exact hR.inS i b c hi
  · exact hge
  · exact hR.upd
  · rw [hR.defers, hl.d]
    refine List.map_congr_left fun i hi => ?_
    have := List.all_eq_true.1 hl.dn i (by rw [hl.d]; exact hi)
    rw [hB i (by simpa [Nat.blt_eq] using this)]
  · intro i hi
    have := List.all_eq_true.1 hl.dn i hi
    simpa [Nat.blt_eq] using this

theorem SG.less (σ' : St) (hl : Less σ' σ) (h : SG P C todo σ') : SG P C todo σ := fun a w hR => h a w (hl.real hR)

/-! ### loops -/
def bodyOf : List Item → Code
  | .code (.loop b) :: _ => b
  | .inLoop b :: _ => b
  | _ => .skip
def tailOf : List Item → List Item
  | _ :: k => k
  | [] => []
def isLoop : List Item → Bool
  | .code (.loop _) :: _ => true
  | _ => false

/-- A loop: at the head of each round the state is I x for some x, and μ falls. -/
theorem SG.loop {α : Type} (I : α → St) (μ : α → Nat) (hl : isLoop todo = true) (x : α) (h0 : Less (I x) σ)
    (round : ∀ x, (∀ y, μ y < μ x → SG P C (.inLoop (bodyOf todo) :: tailOf todo) (I y)) → SG P C (.code (bodyOf todo) :: .inLoop (bodyOf todo) :: tailOf todo) (I x)) : SG P C todo σ := by
  have key : ∀ n x, μ x = n → SG P C (.inLoop (bodyOf todo) :: tailOf todo) (I x) := by
    intro n
    induction n using Nat.strongRecOn with
    | _ n ih =>
      intro x hx
      refine (round x fun y hy => ih (μ y) (hx ▸ hy) y rfl).steps fun a w hR => ⟨a, w, hR, fun cs => .one m_inLoop⟩
  have h1 := round x fun y hy => key (μ y) y rfl
  refine SG.less (I x) h0 ?_
  match todo, hl with
  | .code (.loop c) :: k, _ => exact h1.steps fun a w hR => ⟨a, w, hR, fun cs => .one m_loop⟩

/-- A round's end. -/
theorem SG.again {todo' : List Item} {σ' : St} (ih : SG P C todo' σ') (hk : todo = todo') (hl : Less σ' σ) : SG P C todo σ := by
  subst hk; exact SG.less σ' hl ih

end
end Go.Sx
