/- The steps of operations on symbolic states that touch memory, and that they are Go's. -/
import Derived.Test.YtdholfagmlablaaSxB
namespace Go.Sx

def splice : List SV → Nat → List SV → List SV
  | cs, _, [] => cs
  | cs, o, v :: vs => splice (cs.set o v) (o + 1) vs

def aggT (P : Program) (T : TypeId) : Option (Bool × Nat) :=
  match P.info? T with
  | some i => match P.underlying T with
    | some (.struct _) => some (true, i.size)
    | some (.array _ _) => some (true, i.size)
    | some _ => some (false, i.size)
    | none => none
  | none => none

def loadSV (P : Program) (B : Nat → Nat) (T : TypeId) (cs : List SV) (o : Nat) : Option SV :=
  match aggT P T with
  | some (true, n) => bif Nat.ble (o + n) cs.length then some (.v (.agg (((cs.drop o).take n).map (den B)).toArray)) else none
  | some (false, _) => cs[o]?
  | none => none

/-- The cells of a value that is stored. -/
def cellsSV : SV → Option (List SV)
  | .p i o => some [.p i o]
  | .v (.agg cs) => bif cs.toList.all (·.oneCell') then some (cs.toList.map .v) else none
  | .v (.tuple _) => none
  | .v x => some [.v x]

def boxSV : SV → List SV
  | .p i o => [.p i o]
  | .v x => x.cells.toList.map .v

/-- The first block that a part of the model makes, and what comes then. -/
def peelNew {α : Type} (P : Program) : Nat → Sem α → Option (Obj × (Nat → Sem α))
  | 0, _ => none
  | n + 1, s => match s with
    | .new o k => some (o, k)
    | .program k => peelNew P n (k P)
    | .mark _ k => peelNew P n k
    | _ => none

def scOf (ν : Nat) : Obj → SC
  | .cells cs T (0, 0) => .cells (cs.toList.map .v) T
  | o => .ab (objC ν o)

def genNew (P : Program) (ν : Nat) (σ : St) (o : Oper) : Option (SC × SV) :=
  bif !isSel o.op && o.op.operands.toList.all fun x => (ev σ x).isSome then
    match peelNew P 200 (execOp (rhoOf σ) o) with
    | some (obj, k) => match peel P 200 (k ν) with
      | some (.value v) => some (scOf ν obj, .v v)
      | _ => none
    | none => none
  else none

def addC (σ : St) (ν : Nat) (c : SC) : St := { σ with h := (σ.n, (ν, c)) :: σ.h, n := σ.n + 1 }

def putT (σ : St) (d : Option Tmp) (sv : SV) : Option St :=
  match d with
  | some d => bif Nat.blt d σ.m then some { σ with t := (d, sv) :: σ.t } else none
  | none => some σ

/-- One operation; true: it made a block, of the number ν. -/
def stepOp (P : Program) (ν : Nat) (σ : St) (o : Oper) : Option (St × Bool) :=
  match o.op with
  | .load T x => match ev σ x with
    | some (.p i k) => match lk σ.h i with
      | some (_, .cells cs _) => match loadSV P (blkOf σ.h) T cs k with
        | some sv => (putT σ o.dst sv).map (·, false)
        | none => none
      | _ => none
    | _ => none
  | .store T x y => match ev σ x with
    | some (.p i k) => match lk σ.h i with
      | some (b, .cells cs U) => match ev σ y with
        | some sv => match cellsSV sv, aggT P T with
          | some vs, some (_, n) => bif Nat.beq vs.length n && Nat.ble (k + n) cs.length && o.dst.isNone then some ({ σ with h := (i, (b, .cells (splice cs k vs) U)) :: σ.h }, false) else none
          | _, _ => none
        | none => none
      | _ => none
    | _ => none
  | .alloc T => match P.info? T with
    | some ti => match ti.zero with
      | some z => (putT (addC σ ν (.cells (z.cells.toList.map .v) T)) o.dst (.p σ.n 0)).map (·, true)
      | none => none
    | none => none
  | .box T x => match ev σ x with
    | some sv => (putT (addC σ ν (.cells (boxSV sv) T)) o.dst (.p σ.n 0)).map (·, true)
    | none => none
  | .buildSlice .. | .makeMap .. | .makeSlice .. => match genNew P ν σ o with
    | some (c, sv) => (putT (addC σ ν c) o.dst sv).map (·, true)
    | none => none
  | _ => match stepV P σ o with
    | some sv => (putT σ o.dst sv).map (·, false)
    | none => none

/-! ### memory -/
section
variable {P : Program} {K : Kx} {σ : St} {a : Act} {w : World} {o : Oper}

theorem addr_add (b k d : Nat) : (⟨b, k, none⟩ : Addr).add d = ⟨b, k + d, none⟩ := by
  unfold Addr.add; split <;> simp_all

theorem cell_of {b : Nat} {cs : Array Value} {T : TypeId} {fr : Nat × Nat} (h : w.heap[b]? = some (.cells cs T fr)) (k : Nat) : w.cell? ⟨b, k, none⟩ = cs[k]? := by
  simp [World.cell?, h]

theorem run_loads {b : Nat} {cs : List Value} {T : TypeId} {fr : Nat × Nat} (h : w.heap[b]? = some (.cells cs.toArray T fr)) (k : Nat) :
    ∀ (n i : Nat) (acc : Array Value), k + i + n ≤ cs.length → (loadCellsFrom ⟨b, k, none⟩ i n acc).run P w = .ok (acc ++ ((cs.drop (k + i)).take n).toArray) w
  | 0, i, acc, _ => by simp [loadCellsFrom]
  | n + 1, i, acc, hn => by
    have hlt : k + i < cs.length := by omega
    have hc : w.cell? ⟨b, k + i, none⟩ = some cs[k + i] := by rw [cell_of h]; simp [List.getElem?_eq_getElem hlt]
    have ih := run_loads h k n (i + 1) (acc.push cs[k + i]) (by omega)
    simp only [loadCellsFrom, Sem.run_bind, run_load, addr_add, hc, Result.andThen_ok, ih]
    rw [List.drop_eq_getElem_cons hlt, List.take_succ_cons]
    simp [Nat.add_assoc]

def writeL (w : World) (b : Nat) : Nat → List Value → World
  | _, [] => w
  | o, v :: vs => writeL (w.setCell ⟨b, o, none⟩ v) b (o + 1) vs

def spliceV : List Value → Nat → List Value → List Value
  | cs, _, [] => cs
  | cs, o, v :: vs => spliceV (cs.set o v) (o + 1) vs

theorem heap_setCell {b : Nat} {cs : List Value} {T : TypeId} (h : w.heap[b]? = some (.cells cs.toArray T (0, 0))) (o : Nat) (v : Value) :
    (w.setCell ⟨b, o, none⟩ v).heap[b]? = some (.cells (cs.set o v).toArray T (0, 0)) := by
  simp [World.setCell, Array.getElem?_modify, h]

theorem writeL_spec {b : Nat} {T : TypeId} : ∀ (vs : List Value) (w : World) (cs : List Value) (o : Nat), w.heap[b]? = some (.cells cs.toArray T (0, 0)) →
    (writeL w b o vs).heap[b]? = some (.cells (spliceV cs o vs).toArray T (0, 0)) ∧ Upd (· = b) w (writeL w b o vs)
  | [], w, cs, o, h => ⟨h, Upd.refl _ _⟩
  | v :: vs, w, cs, o, h => by
    obtain ⟨h1, h2⟩ := writeL_spec vs (w.setCell ⟨b, o, none⟩ v) (cs.set o v) (o + 1) (heap_setCell h o v)
    exact ⟨h1, (Upd.setCell (S := (· = b)) w ⟨b, o, none⟩ v rfl).trans h2 fun _ hh => .inl hh⟩

theorem run_stores {b : Nat} {T : TypeId} (k : Nat) : ∀ (vs : List Value) (w : World) (cs : List Value) (i : Nat), w.heap[b]? = some (.cells cs.toArray T (0, 0)) →
    k + i + vs.length ≤ cs.length → (∀ v ∈ vs, v.oneCell' = true) → (storeCells ⟨b, k, none⟩ vs i).run P w = .ok () (writeL w b (k + i) vs)
  | [], w, cs, i, _, _, _ => rfl
  | v :: vs, w, cs, i, h, hl, h1 => by
    simp only [List.length_cons] at hl
    have hlt : k + i < cs.length := by omega
    have hc : w.cell? ⟨b, k + i, none⟩ = some cs[k + i] := by rw [cell_of h]; simp [List.getElem?_eq_getElem hlt]
    have hf : w.frozen? ⟨b, k + i, none⟩ = false := by simp [World.frozen?, h]
    have ih := run_stores k vs (w.setCell ⟨b, k + i, none⟩ v) (cs.set (k + i) v) (i + 1) (heap_setCell h _ v) (by simp; omega) fun u hu => h1 u (by simp [hu])
    simp only [storeCells, Sem.run_bind, addr_add, run_store P w ⟨b, k + i, none⟩ v .plain (h1 v (by simp)), hc, hf, Bool.false_eq_true, if_false, Result.andThen_ok, ih]
    rfl

theorem map_splice (B : Nat → Nat) : ∀ (vs cs : List SV) (o : Nat), (splice cs o vs).map (den B) = spliceV (cs.map (den B)) o (vs.map (den B))
  | [], cs, o => rfl
  | v :: vs, cs, o => by
    simp only [splice, List.map_cons, spliceV]
    rw [map_splice B vs, List.map_set]

theorem ok_splice {n : Nat} : ∀ (vs cs : List SV) (o : Nat), (∀ sv ∈ cs, sv.ok n) → (∀ sv ∈ vs, sv.ok n) → ∀ sv ∈ splice cs o vs, sv.ok n
  | [], cs, o, hc, _ => hc
  | v :: vs, cs, o, hc, hv => by
    refine ok_splice vs (cs.set o v) (o + 1) (fun sv hm => ?_) fun sv hm => hv sv (by simp [hm])
    rcases List.mem_or_eq_of_mem_set hm with h | h
    · exact hc sv h
    · subst h; exact hv _ (by simp)

theorem peelNew_run {α : Type} {P : Program} : ∀ (n : Nat) (s : Sem α) (obj : Obj) (k : Nat → Sem α), peelNew P n s = some (obj, k) →
    ∀ w, s.run P w = (k w.heap.size).run P { w with heap := w.heap.push obj }
  | 0, _, _, _, h, _ => by simp [peelNew] at h
  | n + 1, s, obj, k, h, w => by
    cases s <;> simp only [peelNew] at h <;> first
      | (cases h; rfl)
      | exact peelNew_run n _ obj k h w
      | cases h

theorem aggT_spec {T : TypeId} {ag : Bool} {n : Nat} (h : aggT P T = some (ag, n)) : (∀ w, (isAgg T).run P w = .ok ag w) ∧ ∀ w, (sizeOf T).run P w = .ok n w := by
  unfold aggT at h
  cases hi : P.info? T with
  | none => simp [hi] at h
  | some ti =>
    cases hu : P.underlying T with
    | none => simp [hi, hu] at h
    | some d =>
      simp only [hi, hu] at h
      refine ⟨fun w => ?_, fun w => ?_⟩
      · cases d <;> simp only [Option.some.injEq, Prod.mk.injEq] at h <;> obtain ⟨rfl, rfl⟩ := h <;> simp [isAgg, run_underlying hu]
      · have hn : ti.size = n := by cases d <;> simp only [Option.some.injEq, Prod.mk.injEq] at h <;> exact h.2
        simp [sizeOf, typeInfo, hi, hn]

theorem Real.cells (h : Real K σ a w) {i b : Nat} {cs : List SV} {T : TypeId} (hi : lk σ.h i = some (b, .cells cs T)) :
    w.heap[b]? = some (.cells (cs.map (den (blkOf σ.h))).toArray T (0, 0)) ∧ (∀ sv ∈ cs, sv.ok σ.n) ∧ blkOf σ.h i = b :=
  ⟨(h.holds i b _ hi).1, (h.holds i b _ hi).2, by simp [blkOf, hi]⟩

theorem loadSV_sound (h : Real K σ a w) {T : TypeId} {i k b : Nat} {cs : List SV} {U : TypeId} (hi : lk σ.h i = some (b, .cells cs U)) {sv : SV}
    (hl : loadSV P (blkOf σ.h) T cs k = some sv) : (Instr.loadAt T (den (blkOf σ.h) (.p i k))).run P w = .ok (den (blkOf σ.h) sv) w ∧ sv.ok σ.n := by
  obtain ⟨hb, hok, hB⟩ := h.cells hi
  unfold loadSV at hl
  cases hg : aggT P T with
  | none => simp [hg] at hl
  | some p =>
    obtain ⟨ag, n⟩ := p
    obtain ⟨ha, hs⟩ := aggT_spec hg
    cases ag with
    | true =>
      simp only [hg] at hl
      cases hle : Nat.ble (k + n) cs.length with
      | false => simp [hle] at hl
      | true =>
        simp only [hle, cond_true, Option.some.injEq] at hl
        subst hl
        have hle' : k + n ≤ cs.length := by simpa using Nat.le_of_ble_eq_true hle
        have hr := run_loads (P := P) hb k n 0 #[] (by simpa using hle')
        refine ⟨?_, trivial⟩
        simp [Instr.loadAt, Instr.sureAddr, den, hB, loadVar, ha, hs, loadCells, hr, List.map_take, List.map_drop]
    | false =>
      simp only [hg] at hl
      have hc : w.cell? ⟨b, k, none⟩ = some (den (blkOf σ.h) sv) := by rw [cell_of hb]; simp [hl]
      refine ⟨?_, hok sv (List.mem_of_getElem? hl)⟩
      simp [Instr.loadAt, Instr.sureAddr, den, hB, loadVar, ha, hc]

theorem cellsSV_sound {B : Nat → Nat} {sv : SV} {vs : List SV} {n : Nat} (h : cellsSV sv = some vs) (hok : sv.ok n) :
    (den B sv).cells.toList = vs.map (den B) ∧ (∀ u ∈ vs.map (den B), u.oneCell' = true) ∧ ∀ s ∈ vs, s.ok n := by
  unfold cellsSV at h
  split at h
  · cases h; exact ⟨rfl, by simp [den, Value.oneCell'], by simpa using hok⟩
  · rename_i cs
    cases hb : cs.toList.all (·.oneCell') with
    | false => rw [hb, cond_false] at h; cases h
    | true =>
      rw [hb, cond_true] at h
      cases h
      simp only [List.all_eq_true] at hb
      refine ⟨by simp [den, Value.cells, Function.comp_def], fun u hu => ?_, fun s hs => ?_⟩
      · simp only [List.map_map, List.mem_map] at hu
        obtain ⟨x, hx, rfl⟩ := hu
        exact hb x hx
      · simp only [List.mem_map] at hs
        obtain ⟨x, _, rfl⟩ := hs
        trivial
  · cases h
  · rename_i x hx1 hx2
    cases h
    cases x <;> first
      | exact absurd rfl (hx1 _)
      | exact absurd rfl (hx2 _)
      | exact ⟨rfl, by simp [den, Value.oneCell'], by simp [SV.ok]⟩

/-- What an operation comes to. -/
def Comes1 (P : Program) (K : Kx) (σ' : St) (a : Act) (w : World) (o : Oper) : Prop :=
  ∃ v w' nx, (execOp a.eval o).run P w = .ok nx w' ∧ (nx = .value v ∨ (nx = .skip ∧ v = undef)) ∧ Real K σ' (a.put o.dst v) w'

theorem putT_sound {σ' : St} {sv : SV} {d : Option Tmp} (h : Real K σ a w) (hp : putT σ d sv = some σ') (hs : sv.ok σ.n) : Real K σ' (a.put d (den (blkOf σ.h) sv)) w := by
  cases d with
  | none => cases hp; exact h
  | some d =>
    simp only [putT] at hp
    cases hb : Nat.blt d σ.m with
    | false => simp [hb] at hp
    | true =>
      simp only [hb, cond_true, Option.some.injEq] at hp
      subst hp
      exact h.put (by simpa [Nat.blt_eq] using hb) hs

theorem heap_push (w : World) (o : Obj) : ({ w with heap := w.heap.push o } : World).heap[w.heap.size]? = some o := by simp

/-- A block is made. -/
theorem Real.newB (h : Real K σ a w) (obj : Obj) (c : SC) (hok : c.ok σ.n) (hfp : (c.chunk (blkOf σ.h) w.heap.size).fp = (· = w.heap.size))
    (hc : ∀ w' : World, w'.heap[w.heap.size]? = some obj → (c.chunk (blkOf σ.h) w.heap.size).holds w') :
    Real K (addC σ w.heap.size c) a { w with heap := w.heap.push obj } := by
  have h1 := h.more (Upd.alloc (fun _ => False) w obj)
  refine Real.add h1 hok (hc _ (heap_push w obj)) (fun x hx => ?_) (fun i b' c' hi x hx => ?_)
  · rw [hfp] at hx; subst hx; exact .inr h.upd.size
  · rw [hfp]
    have := (c'.chunk (blkOf σ.h) b').lt w (h.holds i b' c' hi).1 x hx
    omega

theorem blk_addC (σ : St) (ν : Nat) (c : SC) : blkOf (addC σ ν c).h σ.n = ν := by simp [addC, blkOf, lk_cons]

theorem chunk_scOf (B : Nat → Nat) (ν : Nat) (obj : Obj) : ((scOf ν obj).chunk B ν) = objC ν obj := by
  unfold scOf
  split
  · simp [SC.chunk, cellsC, den, Function.comp_def]
  · rfl
theorem ok_scOf (n ν : Nat) (obj : Obj) : (scOf ν obj).ok n := by
  unfold scOf
  split
  · intro sv hm
    simp only [List.mem_map] at hm
    obtain ⟨x, _, rfl⟩ := hm
    trivial
  · trivial

theorem genNew_sound (h : Real K σ a w) {c : SC} {sv : SV} (hg : genNew P w.heap.size σ o = some (c, sv)) :
    ∃ obj, (execOp a.eval o).run P w = .ok (.value (den (blkOf σ.h) sv)) { w with heap := w.heap.push obj } ∧ c = scOf w.heap.size obj ∧ ∃ x, sv = .v x := by
  unfold genNew at hg
  cases hb : (!isSel o.op && o.op.operands.toList.all fun x => (ev σ x).isSome) with
  | false => rw [hb, cond_false] at hg; cases hg
  | true =>
    rw [hb, cond_true] at hg
    simp only [Bool.and_eq_true, Bool.not_eq_true', List.all_eq_true] at hb
    obtain ⟨hsel, hall⟩ := hb
    have he : execOp a.eval o = execOp (rhoOf σ) o := by
      refine execOp_congr o (fun cs b e => by simp [isSel, e] at hsel) fun x hx => rho_eq h (hall x (by simpa using hx))
    rw [he]
    cases hp : peelNew P 200 (execOp (rhoOf σ) o) with
    | none => simp [hp] at hg
    | some p =>
      obtain ⟨obj, k⟩ := p
      simp only [hp] at hg
      rw [peelNew_run 200 _ obj k hp w]
      split at hg
      · rename_i v hv
        cases hg
        exact ⟨obj, peel_run 200 _ _ hv _, rfl, v, rfl⟩
      · cases hg

theorem stepOp_sound (h : Real K σ a w) {σ' : St} {used : Bool} {ν : Nat} (hs : stepOp P ν σ o = some (σ', used)) (hν : used = true → ν = w.heap.size) : Comes1 P K σ' a w o := by
  unfold stepOp at hs
  split at hs
  · -- load
    rename_i T x ho
    split at hs
    · rename_i i k hx
      split at hs
      · rename_i b cs U hi
        split at hs
        · rename_i sv hl
          obtain ⟨h1, h2⟩ := loadSV_sound (P := P) h hi hl
          obtain ⟨σ1, hp, hq⟩ := Option.map_eq_some_iff.1 hs
          cases hq
          exact ⟨_, w, .value (den (blkOf σ.h) sv), by simp [execOp, ho, (h.ev hx).1, h1], .inl rfl, putT_sound h hp h2⟩
        · cases hs
      · cases hs
    · cases hs
  · -- store
    rename_i T x y ho
    split at hs
    · rename_i i k hx
      split at hs
      · rename_i b cs U hi
        split at hs
        · rename_i sv hy
          split at hs
          · rename_i vs ag n hcs hag
            cases hb : (Nat.beq vs.length n && Nat.ble (k + n) cs.length && o.dst.isNone) with
            | false => rw [hb, cond_false] at hs; cases hs
            | true =>
              rw [hb, cond_true] at hs
              cases hs
              simp only [Bool.and_eq_true, Option.isNone_iff_eq_none] at hb
              obtain ⟨⟨hn, hle⟩, hd⟩ := hb
              have hn' : vs.length = n := Nat.eq_of_beq_eq_true hn
              have hle' : k + n ≤ cs.length := Nat.le_of_ble_eq_true hle
              obtain ⟨hbk, hok, hB⟩ := h.cells hi
              obtain ⟨_, hsz⟩ := aggT_spec hag
              obtain ⟨hc1, hc2, hc3⟩ := cellsSV_sound (B := blkOf σ.h) hcs (h.ev hy).2
              have hst := run_stores (P := P) (b := b) k (vs.map (den (blkOf σ.h))) w _ 0 hbk (by simp; omega) hc2
              obtain ⟨hw1, hw2⟩ := writeL_spec (b := b) (vs.map (den (blkOf σ.h))) w _ k hbk
              refine ⟨undef, writeL w b k (vs.map (den (blkOf σ.h))), .skip, ?_, .inr ⟨rfl, rfl⟩, ?_⟩
              · have hcz : (den (blkOf σ.h) sv).cells.size = n := by
                  have := congrArg List.length hc1
                  simp only [Array.length_toList, List.length_map] at this
                  omega
                have ha : a.eval x = .pointer (some ⟨b, k, none⟩) := by rw [(h.ev hx).1]; simp [den, hB]
                have hy' := (h.ev hy).1
                generalize den (blkOf σ.h) sv = vv at hcz hc1 hy'
                simp [execOp, ho, ha, hy', Instr.storeAt, Instr.sureAddr, storeVar, hsz, hcz, hc1, hst]
              · rw [hd]
                refine Real.turn h hi (c' := .cells (splice cs k vs) U) (ok_splice vs cs k hok hc3) hw2 ?_ (fun x hx => .inl hx)
                show _ = _
                rw [hw1, map_splice]
          · cases hs
        · cases hs
      · cases hs
    · cases hs
  · -- alloc
    rename_i T ho
    split at hs
    · rename_i ti hi
      split at hs
      · rename_i z hz
        obtain ⟨σ1, hp, hq⟩ := Option.map_eq_some_iff.1 hs
        cases hq
        obtain rfl := hν rfl
        have hr := Real.newB h (.cells z.cells T (0, 0)) (.cells (z.cells.toList.map .v) T) (ok_scOf σ.n 0 (.cells z.cells T (0, 0))) rfl (by
          intro w' hw'
          have := chunk_scOf (blkOf σ.h) w.heap.size (.cells z.cells T (0, 0))
          simp only [scOf] at this
          rw [this]; exact hw')
        have hp1 := putT_sound hr hp (show σ.n < σ.n + 1 from Nat.lt_succ_self _)
        refine ⟨_, _, .value (.pointer (some ⟨w.heap.size, 0, none⟩)), by simp [execOp, ho, Instr.alloc, zeroValue, typeInfo, hi, hz, newVar, newRow]; rfl, .inl rfl, ?_⟩
        simpa [den, blk_addC] using hp1
      · cases hs
    · cases hs
  · -- box
    rename_i T x ho
    split at hs
    · rename_i sv hx
      obtain ⟨σ1, hp, hq⟩ := Option.map_eq_some_iff.1 hs
      cases hq
      obtain rfl := hν rfl
      have hmap : (boxSV sv).map (den (blkOf σ.h)) = (den (blkOf σ.h) sv).cells.toList := by
        cases sv with
        | v x => simp [boxSV, den, Function.comp_def]
        | p i k => rfl
      have hok : ∀ s ∈ boxSV sv, s.ok σ.n := by
        cases sv with
        | v x =>
          intro s hm
          simp only [boxSV, List.mem_map] at hm
          obtain ⟨y, _, rfl⟩ := hm
          trivial
        | p i k =>
          intro s hm
          simp only [boxSV, List.mem_singleton] at hm
          subst hm
          exact (h.ev hx).2
      have hr := Real.newB h (.cells (den (blkOf σ.h) sv).cells T (0, 0)) (.cells (boxSV sv) T) hok rfl (by
        intro w' hw'
        show _ = _
        rw [hw', hmap])
      have hp1 := putT_sound hr hp (show σ.n < σ.n + 1 from Nat.lt_succ_self _)
      refine ⟨_, _, .value (.pointer (some ⟨w.heap.size, 0, none⟩)), by simp [execOp, ho, Instr.box, (h.ev hx).1, newVar, newRow]; rfl, .inl rfl, ?_⟩
      simpa [den, blk_addC] using hp1
    · cases hs
  iterate 3
    · -- new blocks
      rename_i ho
      split at hs
      · rename_i c sv hg
        obtain ⟨σ1, hp, hq⟩ := Option.map_eq_some_iff.1 hs
        cases hq
        obtain rfl := hν rfl
        obtain ⟨obj, h1, rfl, x, rfl⟩ := genNew_sound (P := P) h hg
        have hr := Real.newB h obj (scOf w.heap.size obj) (ok_scOf _ _ _) (by rw [chunk_scOf]; rfl) (by intro w' hw'; rw [chunk_scOf]; exact hw')
        have hp1 := putT_sound hr hp (show SV.ok (σ.n + 1) (.v x) from trivial)
        exact ⟨_, _, .value x, h1, .inl rfl, hp1⟩
      · cases hs
  · split at hs
    · rename_i sv hg
      obtain ⟨h1, h2⟩ := stepV_sound h hg
      obtain ⟨σ1, hp, hq⟩ := Option.map_eq_some_iff.1 hs
      cases hq
      exact ⟨_, w, _, h1, .inl rfl, putT_sound h hp h2⟩
    · cases hs

end
end Go.Sx
