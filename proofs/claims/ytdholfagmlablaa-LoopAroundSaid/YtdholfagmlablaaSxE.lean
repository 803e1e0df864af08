/- Walking Go's text by symbolic states: what a function does, calls, returns. -/
import Derived.Test.YtdholfagmlablaaSxD
import Derived.Shelf.Abstract
namespace Go.Sx

def Enters (P : Program) (f : FuncId) : Prop := ∀ (args : Array Value) (w : World), (callFunc f args).run P w = .ok (.enter f args) w

/-! ### lists of pieces -/
theorem sepL_mem {w : World} (l : List Chunk) : (sepL l).holds w → ∀ (i : Nat) (c : Chunk), l[i]? = some c → c.holds w ∧ ∀ x, c.fp x → (sepL l).fp x := by
  induction l with
  | nil => intro _ i c hi; simp at hi
  | cons c l ih =>
    rintro ⟨h1, h2, _⟩ i c' hi
    cases i with
    | zero =>
      simp only [List.getElem?_cons_zero, Option.some.injEq] at hi
      subst hi
      exact ⟨h1, fun x hx => .inl hx⟩
    | succ i =>
      obtain ⟨h3, h4⟩ := ih h2 i c' (by simpa using hi)
      exact ⟨h3, fun x hx => .inr (h4 x hx)⟩
theorem sepL_fp (l : List Chunk) (x : Nat) : (sepL l).fp x → ∃ (i : Nat) (c : Chunk), l[i]? = some c ∧ c.fp x := by
  induction l with
  | nil => intro h; exact h.elim
  | cons c l ih =>
    intro h
    rcases h with h | h
    · exact ⟨0, c, rfl, h⟩
    · obtain ⟨i, c', hi, hx⟩ := ih h
      exact ⟨i + 1, c', by simpa using hi, hx⟩
theorem sepL_apart {w : World} (l : List Chunk) : (sepL l).holds w → ∀ (i j : Nat) (c c' : Chunk), i ≠ j → l[i]? = some c → l[j]? = some c' → ∀ x, c.fp x → ¬ c'.fp x := by
  induction l with
  | nil => intro _ i j c c' _ hi; simp at hi
  | cons c l ih =>
    rintro ⟨h1, h2, h3⟩ i j a b hne hi hj x hx hy
    cases i with
    | zero =>
      simp only [List.getElem?_cons_zero, Option.some.injEq] at hi
      subst hi
      cases j with
      | zero => exact hne rfl
      | succ j => exact h3 x hx ((sepL_mem l h2 j b (by simpa using hj)).2 x hy)
    | succ i =>
      cases j with
      | zero =>
        simp only [List.getElem?_cons_zero, Option.some.injEq] at hj
        subst hj
        exact h3 x hy ((sepL_mem l h2 i a (by simpa using hi)).2 x hx)
      | succ j => exact ih h2 i j a b (fun e => hne (by rw [e])) (by simpa using hi) (by simpa using hj) x hx hy

def chunkAt (σ : St) (i : Nat) : Chunk :=
  match lk σ.h i with
  | some (b, c) => c.chunk (blkOf σ.h) b
  | none => noC

/-- Different numbers of pieces that are there. -/
def goodIds (n : Nat) : List Nat → Bool
  | [] => true
  | i :: is => Nat.blt i n && is.all (fun j => !Nat.beq i j) && goodIds n is

section
variable {P : Program} {K : Kx} {σ : St} {a : Act} {w : World}

theorem Real.at_ (h : Real K σ a w) (i : Nat) : (chunkAt σ i).holds w ∧ ∀ x, (chunkAt σ i).fp x → K.S0 x ∨ K.w0.heap.size ≤ x := by
  unfold chunkAt
  cases hi : lk σ.h i with
  | none => exact ⟨trivial, fun x hx => hx.elim⟩
  | some p => exact ⟨(h.holds i p.1 p.2 hi).1, h.inS i p.1 p.2 hi⟩

theorem Real.at_apart (h : Real K σ a w) {i j : Nat} (hne : i ≠ j) : ∀ x, (chunkAt σ i).fp x → ¬ (chunkAt σ j).fp x := by
  unfold chunkAt
  cases hi : lk σ.h i with
  | none => exact fun x hx => hx.elim
  | some p => cases hj : lk σ.h j with
    | none => exact fun x _ hy => hy.elim
    | some q => exact h.apart i j p.1 p.2 q.1 q.2 hne hi hj

theorem Real.sepL (h : Real K σ a w) : ∀ {is : List Nat}, goodIds σ.n is = true → (Sx.sepL (is.map (chunkAt σ))).holds w
  | [], _ => trivial
  | i :: is, hg => by
    simp only [goodIds, Bool.and_eq_true] at hg
    refine ⟨(h.at_ i).1, h.sepL hg.2, fun x hx hy => ?_⟩
    obtain ⟨j, c, hj, hc⟩ := sepL_fp _ _ hy
    simp only [List.getElem?_map, Option.map_eq_some_iff] at hj
    obtain ⟨k, hk, rfl⟩ := hj
    have hm : k ∈ is := List.mem_of_getElem? hk
    have hne : i ≠ k := by
      intro e
      have := List.all_eq_true.1 hg.1.2 k hm
      subst e
      simp at this
    exact h.at_apart hne x hx hc

/-- Some pieces turn, and are forgotten. -/
def goneL (σ : St) (is : List Nat) : St := { σ with h := is.map (fun i => (i, (blkOf σ.h i, SC.gone))) ++ σ.h }

theorem lk_append {β : Type} : ∀ (l l' : List (Nat × β)) (i : Nat), lk (l ++ l') i = match lk l i with | some x => some x | none => lk l' i
  | [], l', i => rfl
  | (j, b) :: l, l', i => by
    rw [List.cons_append, lk_cons, lk_cons]
    by_cases e : j = i
    · simp [e]
    · simp only [e, if_false]; exact lk_append l l' i

theorem lk_gone (f : Nat → Nat × SC) : ∀ (is : List Nat) (i : Nat), lk (is.map (fun i => (i, f i))) i = if i ∈ is then some (f i) else none
  | [], i => rfl
  | j :: is, i => by
    rw [List.map_cons, lk_cons, lk_gone f is i]
    by_cases e : j = i
    · subst e; simp
    · have : ¬ i = j := fun h => e h.symm
      simp [e, this]

theorem lk_goneL (σ : St) (is : List Nat) (i : Nat) : lk (goneL σ is).h i = if i ∈ is then some (blkOf σ.h i, SC.gone) else lk σ.h i := by
  simp only [goneL]
  rw [lk_append, lk_gone (fun i => (blkOf σ.h i, SC.gone))]
  by_cases h : i ∈ is <;> simp [h]

theorem blk_goneL (σ : St) (is : List Nat) (i : Nat) : blkOf (goneL σ is).h i = blkOf σ.h i := by
  have : blkOf (goneL σ is).h i = match lk (goneL σ is).h i with | some (b, _) => b | none => 0 := rfl
  rw [this, lk_goneL]
  by_cases h : i ∈ is
  · simp [h]
  · simp only [h, if_false]; rfl

theorem Real.gone (h : Real K σ a w) {is : List Nat} (hg : goodIds σ.n is = true) {w' : World} (hu : Upd (Sx.sepL (is.map (chunkAt σ))).fp w w') : Real K (goneL σ is) a w' := by
  have hB : ∀ i, blkOf (goneL σ is).h i = blkOf σ.h i := blk_goneL σ is
  have hBf : blkOf (goneL σ is).h = blkOf σ.h := funext hB
  have hlt : ∀ (is : List Nat), goodIds σ.n is = true → ∀ i ∈ is, i < σ.n := by
    intro is
    induction is with
    | nil => intro _ i hi; cases hi
    | cons j is ih =>
      intro hg i hi
      simp only [goodIds, Bool.and_eq_true, Nat.blt_eq] at hg
      rcases List.mem_cons.1 hi with rfl | hi
      · exact hg.1.1
      · exact ih hg.2 i hi
  have key : ∀ i b c, lk (goneL σ is).h i = some (b, c) → (i ∈ is ∧ c = .gone) ∨ (i ∉ is ∧ lk σ.h i = some (b, c)) := by
    intro i b c hi
    rw [lk_goneL] at hi
    by_cases e : i ∈ is
    · simp only [e, if_true, Option.some.injEq, Prod.mk.injEq] at hi; exact .inl ⟨e, hi.2.symm⟩
    · simp only [e, if_false] at hi; exact .inr ⟨e, hi⟩
  have hfp : ∀ x, (Sx.sepL (is.map (chunkAt σ))).fp x → ∃ i ∈ is, (chunkAt σ i).fp x := by
    intro x hx
    obtain ⟨j, c, hj, hc⟩ := sepL_fp _ _ hx
    simp only [List.getElem?_map, Option.map_eq_some_iff] at hj
    obtain ⟨k, hk, rfl⟩ := hj
    exact ⟨k, List.mem_of_getElem? hk, hc⟩
  constructor
  · exact h.ok
  · exact h.size
  · intro i sv hi
    obtain ⟨h1, h2⟩ := h.slots i sv hi
    exact ⟨by rw [hBf]; exact h1, h2⟩
  · intro i b c hi
    rw [hBf]
    rcases key i b c hi with ⟨_, rfl⟩ | ⟨hn, h1⟩
    · exact ⟨trivial, trivial⟩
    · obtain ⟨h2, h3⟩ := h.holds i b c h1
      refine ⟨(c.chunk _ b).loc w _ (fun x hx => hu.block x ((c.chunk _ b).lt w h2 x hx) fun hy => ?_) h2, h3⟩
      obtain ⟨j, hj, hjx⟩ := hfp x hy
      have hne : i ≠ j := fun e => hn (e ▸ hj)
      have := h.at_apart hne x (by simpa [chunkAt, h1] using hx)
      exact this hjx
  · intro i j b c b' c' hne hi hj
    rw [hBf]
    rcases key i b c hi with ⟨_, rfl⟩ | ⟨_, h1⟩
    · exact fun x hx => hx.elim
    · rcases key j b' c' hj with ⟨_, rfl⟩ | ⟨_, h2⟩
      · exact fun x _ hy => hy.elim
      · exact h.apart i j b c b' c' hne h1 h2
  · intro i b c hi
    rw [hBf]
    rcases key i b c hi with ⟨_, rfl⟩ | ⟨_, h1⟩
    · exact fun x hx => hx.elim
    · exact h.inS i b c h1
  · intro i hi
    rw [lk_goneL]
    have hi' : σ.n ≤ i := hi
    have : i ∉ is := fun hm => by have := hlt is hg i hm; omega
    simp only [this, if_false]
    exact h.next i hi
  · refine h.upd.trans hu fun x hx => ?_
    obtain ⟨j, _, hjx⟩ := hfp x hx
    exact (h.at_ j).2 x hjx
  · rw [h.defers]
    show _ = List.map (fun i => mark (blkOf (goneL σ is).h i)) σ.d
    rw [hBf]
  · exact h.dlt

def addL (σ : St) : List Chunk → St
  | [] => σ
  | c :: cs => addL (addC σ 0 (.ab c)) cs

theorem Real.adds (cs : List Chunk) : ∀ (σ : St), Real K σ a w → (Sx.sepL cs).holds w → (∀ x, (Sx.sepL cs).fp x → K.S0 x ∨ K.w0.heap.size ≤ x) →
    (∀ i b c, lk σ.h i = some (b, c) → ∀ x, (c.chunk (blkOf σ.h) b).fp x → ¬ (Sx.sepL cs).fp x) → Real K (addL σ cs) a w := by
  induction cs with
  | nil => intro σ h _ _ _; exact h
  | cons c cs ih =>
    rintro σ h ⟨h1, h2, h3⟩ hin hap
    have hr : Real K (addC σ 0 (.ab c)) a w := Real.add h (c := .ab c) (b := 0) trivial h1 (fun x hx => hin x (.inl hx)) fun i b' c' hi x hx hy => hap i b' c' hi x hx (.inl hy)
    refine ih _ hr h2 (fun x hx => hin x (.inr hx)) ?_
    intro i b' c' hi x hx hy
    simp only [addC, lk_cons] at hi
    by_cases e : σ.n = i
    · simp only [e, if_true, Option.some.injEq, Prod.mk.injEq] at hi
      obtain ⟨_, rfl⟩ := hi
      exact h3 x hx hy
    · simp only [e, if_false] at hi
      have hs := same_new σ.h σ.n (0, .ab c)
      rw [show blkOf (addC σ 0 (.ab c)).h = blkOf ((σ.n, (0, SC.ab c)) :: σ.h) from rfl, hs.chunk (h.holds i b' c' hi).2] at hx
      exact hap i b' c' hi x hx (.inr hy)
end

/-! ### what a function does -/
structure CallSpec (P : Program) (g : FuncId) (args : List Value) (own ro : List Chunk) (post : Value → List Chunk → Prop) : Prop where
  enters : Enters P g
  calls : ∀ w, (sepL own).holds w → (∀ c ∈ ro, c.holds w ∧ ∀ x, c.fp x → ¬ (sepL own).fp x) →
    Calls P g args.toArray w fun e w' => ∃ v cs, e = .returned v ∧ post v cs ∧ (sepL cs).holds w' ∧ Upd (sepL own).fp w w' ∧ ∀ x, (sepL cs).fp x → (sepL own).fp x ∨ w.heap.size ≤ x

theorem CallSpec.mono {P : Program} {g : FuncId} {args : List Value} {own ro : List Chunk} {post post' : Value → List Chunk → Prop} (h : CallSpec P g args own ro post)
    (hp : ∀ v cs, post v cs → post' v cs) : CallSpec P g args own ro post' :=
  ⟨h.enters, fun w h1 h2 => (h.calls w h1 h2).mono fun _ _ ⟨v, cs, h3, h4, h5⟩ => ⟨v, cs, h3, hp v cs h4, h5⟩⟩

/-- The call that stands next. -/
def callOf (σ : St) : List Item → Option (FuncId × List Value)
  | .inRegion ops (i :: _) :: _ => match ops[i]? with
    | some o => match wantedB ops σ o with
      | some true => match o.op with
        | .call c => match c.callee with
          | .value f => match ev σ f with
            | some (.v (.func (.func g) first caps)) => bif c.args.toList.all (fun x => (ev σ x).isSome) then some (g, first.toList ++ c.args.toList.map (rhoOf σ) ++ caps.toList) else none
            | _ => none
          | _ => none
        | _ => none
      | _ => none
    | none => none
  | _ => none
def dstOf : List Item → Option Tmp
  | .inRegion ops (i :: _) :: _ => (ops[i]?).bind (·.dst)
  | _ => none
def nextOf : List Item → List Item
  | .inRegion ops (_ :: rest) :: k => .inRegion ops rest :: k
  | k => k
def dstOk (σ : St) (todo : List Item) : Bool :=
  match dstOf todo with
  | some d => Nat.blt d σ.m
  | none => true
def setD (σ : St) (d : Option Tmp) (sv : SV) : St :=
  match d with
  | some d => { σ with t := (d, sv) :: σ.t }
  | none => σ

def afterCall (σ : St) (is : List Nat) (d : Option Tmp) (v : Value) (cs : List Chunk) : St := addL (goneL (setD σ d (.v v)) is) cs

section
variable {P : Program} {C : Ctx P} {todo : List Item} {σ : St}

theorem Real.setD {K : Kx} {a : Act} {w : World} (h : Real K σ a w) {d : Option Tmp} {v : Value} (hd : ∀ x, d = some x → x < σ.m) : Real K (Sx.setD σ d (.v v)) (a.put d v) w := by
  cases d with
  | none => exact h
  | some d => exact h.put (sv := .v v) (hd d rfl) trivial

theorem callOf_spec {g : FuncId} {args : List Value} (hc : callOf σ todo = some (g, args)) {K : Kx} {a : Act} {w : World} (hR : Real K σ a w) :
    ∃ ops i rest k o, todo = .inRegion ops (i :: rest) :: k ∧ ops[i]? = some o ∧ Region.wanted o (yielded ops a.tmps) = true ∧ isDefer o.op = false ∧ dstOf todo = o.dst ∧
      execOp a.eval o = callFunc g args.toArray := by
  unfold callOf at hc
  split at hc
  · rename_i ops i rest k
    split at hc
    · rename_i o ho
      split at hc
      · rename_i hw
        split at hc
        · rename_i c hop
          split at hc
          · rename_i f hcal
            split at hc
            · rename_i g' first caps hf
              cases hall : c.args.toList.all (fun x => (ev σ x).isSome) with
              | false => rw [hall, cond_false] at hc; cases hc
              | true =>
                rw [hall, cond_true] at hc
                cases hc
                refine ⟨ops, i, rest, k, o, rfl, ho, wantedB_sound hR hw, by simp [hop, isDefer], by simp [dstOf, ho], ?_⟩
                have hev := (hR.ev hf).1
                have hargs : (c.args.map a.eval).toList = c.args.toList.map (rhoOf σ) := by
                  rw [Array.toList_map]
                  exact List.map_congr_left fun x hx => rho_eq hR (List.all_eq_true.1 hall x hx)
                have hargs' : c.args.map a.eval = (c.args.toList.map (rhoOf σ)).toArray := by rw [← hargs]
                simp only [den] at hev
                have e1 : first = first.toList.toArray := by simp
                have e2 : caps = caps.toList.toArray := by simp
                have hfin : first ++ (c.args.toList.map (rhoOf σ)).toArray ++ caps = (first.toList ++ c.args.toList.map (rhoOf σ) ++ caps.toList).toArray := by
                  apply Array.toList_inj.1; simp
                simp only [execOp, hop, resolve, hcal, hev, hargs', Deferred.ofValue, pure_bind, invoke, hfin]
            · cases hc
          · cases hc
        · cases hc
      · cases hc
    · cases hc
  · cases hc

/-- A call. is: the pieces that are handed over; rs, ks: what is read besides, of one's own and of what lay ahead. -/
theorem SG.call {g : FuncId} {args : List Value} {own ro : List Chunk} {post : Value → List Chunk → Prop} (is rs ks : List Nat)
    (hS : CallSpec P g args own ro post) (hc : callOf σ todo = some (g, args)) (hd : dstOk σ todo = true)
    (hown : is.map (chunkAt σ) = own) (hids : goodIds σ.n is = true)
    (hro : rs.map (chunkAt σ) ++ ks.map (fun k => C.K.ro.getD k noC) = ro) (hrs : (rs.all fun r => is.all fun i => !Nat.beq r i) = true) (hks : (ks.all fun k => Nat.blt k C.K.ro.length) = true)
    (h : ∀ v cs, post v cs → SG P C (nextOf todo) (afterCall σ is (dstOf todo) v cs)) : SG P C todo σ := by
  intro a w hR cs
  obtain ⟨ops, i, rest, k, o, rfl, ho, hw, hdef, hdst, hex⟩ := callOf_spec hc hR
  have hsep := hR.sepL hids
  rw [hown] at hsep
  have hin : ∀ x, (sepL own).fp x → C.K.S0 x ∨ C.K.w0.heap.size ≤ x := by
    intro x hx
    rw [← hown] at hx
    obtain ⟨j, c, hj, hcx⟩ := sepL_fp _ _ hx
    simp only [List.getElem?_map, Option.map_eq_some_iff] at hj
    obtain ⟨m, _, rfl⟩ := hj
    exact (hR.at_ m).2 x hcx
  have hro' : ∀ c ∈ ro, c.holds w ∧ ∀ x, c.fp x → ¬ (sepL own).fp x := by
    intro c hcm
    rw [← hro] at hcm
    rcases List.mem_append.1 hcm with hm | hm
    · obtain ⟨r, hr, rfl⟩ := List.mem_map.1 hm
      refine ⟨(hR.at_ r).1, fun x hx hy => ?_⟩
      rw [← hown] at hy
      obtain ⟨j, c, hj, hcx⟩ := sepL_fp _ _ hy
      simp only [List.getElem?_map, Option.map_eq_some_iff] at hj
      obtain ⟨m, hm, rfl⟩ := hj
      have hne : r ≠ m := by
        intro e
        have := List.all_eq_true.1 (List.all_eq_true.1 hrs r hr) m (List.mem_of_getElem? hm)
        subst e; simp at this
      exact hR.at_apart hne x hx hcx
    · obtain ⟨m, hmk, rfl⟩ := List.mem_map.1 hm
      have hlt : m < C.K.ro.length := by have := List.all_eq_true.1 hks m hmk; simpa [Nat.blt_eq] using this
      have hmem : C.K.ro.getD m noC ∈ C.K.ro := by
        rw [List.getD_eq_getElem?_getD, List.getElem?_eq_getElem hlt]; exact List.getElem_mem hlt
      refine ⟨hR.ro hmem, fun x hx hy => ?_⟩
      obtain ⟨h1, h2⟩ := hR.ok.ro _ hmem
      rcases hin x hy with h3 | h3
      · exact h2 x hx h3
      · have := (C.K.ro.getD m noC).lt _ h1 x hx; omega
  have hcall := hS.calls w hsep hro'
  obtain ⟨e, w', fr, ⟨v, cs', rfl, hpost, hcs, hupd, hnew⟩, hcomes, _, hleave⟩ := hcall (fat C.b a (.inRegion ops (i :: rest) :: k) :: cs)
  have hent : (execOp a.eval o).run P w = .ok (.enter g args.toArray) w := by rw [hex]; exact hS.enters _ _
  have h1 := m_enter (P := P) (b := C.b) (k := k) (cs := cs) (w := w) (rest := rest) ho hw hdef hent
  have h2 : step P (lone fr (fat C.b a (.inRegion ops (i :: rest) :: k) :: cs) w') = .next (lone (fat C.b (a.put o.dst v) (.inRegion ops rest :: k)) cs w') := by
    rw [step_leave_returned hleave, finish_fat, ho]; rfl
  refine C.clos _ _ _ (.head h1 (Steps.trans hcomes (.one h2))) ?_
  have hR1 : Real C.K (Sx.setD σ o.dst (.v v)) (a.put o.dst v) w := hR.setD fun x hx => by
    have := hd; unfold dstOk at this; rw [hdst, hx] at this; simpa [Nat.blt_eq] using this
  have hch : ∀ j, chunkAt (Sx.setD σ o.dst (.v v)) j = chunkAt σ j := by intro j; cases o.dst <;> rfl
  have hn : (Sx.setD σ o.dst (.v v)).n = σ.n := by cases o.dst <;> rfl
  have hown' : is.map (chunkAt (Sx.setD σ o.dst (.v v))) = own := by rw [← hown]; exact List.map_congr_left fun j _ => hch j
  have hR2 := hR1.gone (is := is) (by rw [hn]; exact hids) (w' := w') (by rw [hown']; exact hupd)
  have hR3 := Real.adds cs' _ hR2 hcs (fun x hx => by
    rcases hnew x hx with h3 | h3
    · exact hin x h3
    · exact .inr (Nat.le_trans hR.upd.size h3)) (by
    intro j b c hj x hx hy
    rw [funext (blk_goneL (Sx.setD σ o.dst (.v v)) is)] at hx
    rw [lk_goneL] at hj
    by_cases e : j ∈ is
    · simp only [e, if_true, Option.some.injEq, Prod.mk.injEq] at hj
      obtain ⟨_, rfl⟩ := hj
      exact hx.elim
    · simp only [e, if_false] at hj
      have hcx : (chunkAt σ j).fp x := by rw [← hch j]; simpa [chunkAt, hj] using hx
      rcases hnew x hy with h3 | h3
      · rw [← hown] at h3
        obtain ⟨q, c', hq, hcq⟩ := sepL_fp _ _ h3
        simp only [List.getElem?_map, Option.map_eq_some_iff] at hq
        obtain ⟨m, hm, rfl⟩ := hq
        have hne : j ≠ m := fun ee => e (ee ▸ List.mem_of_getElem? hm)
        exact hR.at_apart hne x hcx hcq
      · have := (chunkAt σ j).lt w (hR.at_ j).1 x hcx; omega)
  have := h v cs' hpost _ w' (by
    unfold afterCall; rw [hdst]; exact hR3) cs
  exact this

end
end Go.Sx
