/- Walking Go's text by symbolic states: a function's beginning and its end; pieces in other words. -/
import Derived.Test.YtdholfagmlablaaSxE
namespace Go.Sx

/-! ### the end -/
def retT (P : Program) (g : FuncId) (R : Ending → World → Prop) (cs : List Frame) (m : Machine) : Prop :=
  ∃ e w' fr, R e w' ∧ Comes P m (lone fr cs w') e ∧ fr.fn = g ∧ fr.leaving P w' e

def PostW (own : List Chunk) (post : Value → List Chunk → Prop) (w : World) (e : Ending) (w' : World) : Prop :=
  ∃ v cs, e = .returned v ∧ post v cs ∧ (sepL cs).holds w' ∧ Upd (sepL own).fp w w' ∧ ∀ x, (sepL cs).fp x → (sepL own).fp x ∨ w.heap.size ≤ x

def fnCtx (P : Program) (g : FuncId) (w : World) (own ro : List Chunk) (post : Value → List Chunk → Prop) : Ctx P where
  K := { w0 := w, S0 := (sepL own).fp, ro := ro }
  b := { fn := g, kind := .normal, round := none }
  T := retT P g (PostW own post w)
  clos := fun _ _ _ hs ⟨e, w', fr, h1, h2, h3⟩ => ⟨e, w', fr, h1, Comes.of_steps hs h2, h3⟩

def atEnd : List Item → Bool
  | [] => true
  | .code .ret :: _ => true
  | _ => false

def resV (P : Program) (fn : Func) (σ : St) : Option Value :=
  let l := fn.results.toList.map fun r => match r with
    | .tmp t => match lk σ.t t with
      | some sv => some (den (blkOf σ.h) sv)
      | none => none
    | .cell a T => match lk σ.t a with
      | some (.p i k) => match lk σ.h i with
        | some (_, .cells cs _) => match loadSV P (blkOf σ.h) T cs k with
          | some sv => some (den (blkOf σ.h) sv)
          | none => none
        | _ => none
      | _ => none
  match l with
  | [some v] => some v
  | l => bif l.all (·.isSome) then some (.tuple (l.map (·.getD undef)).toArray) else none

def fnOf (P : Program) (g : FuncId) : Func := (P.funcs[g]?).getD default
def codeOf (P : Program) (g : FuncId) : Code := ((fnOf P g).body).getD .skip
def fnOk (P : Program) (g : FuncId) : Bool :=
  match P.funcs[g]? with
  | some fn => !(fn.name == "runtime.NumGoroutine") && fn.body.isSome
  | none => false

theorem fnOk_spec {P : Program} {g : FuncId} (h : fnOk P g = true) : P.funcs[g]? = some (fnOf P g) ∧ (fnOf P g).body = some (codeOf P g) ∧ Enters P g := by
  unfold fnOk at h
  cases hf : P.funcs[g]? with
  | none => simp [hf] at h
  | some fn =>
    simp only [hf, Bool.and_eq_true, Bool.not_eq_true'] at h
    obtain ⟨c, hc⟩ := Option.isSome_iff_exists.1 h.2
    have h0 : fnOf P g = fn := by simp [fnOf, hf]
    refine ⟨by rw [h0], by simp [codeOf, h0, hc], ?_⟩
    exact Go.Proofs.enters_of hf h.1 hc

section
variable {P : Program} {g : FuncId} {w0 : World} {own ro : List Chunk} {post : Value → List Chunk → Prop} {todo : List Item} {σ : St}

theorem mapM_some {α β : Type} (f : α → Sem β) (r : α → Option β) (w : World) : ∀ (l : List α), (∀ x ∈ l, ∃ y, r x = some y ∧ (f x).run P w = .ok y w) →
    ∃ ys, l.map r = ys.map some ∧ (l.mapM f).run P w = .ok ys w
  | [], _ => ⟨[], rfl, by simp⟩
  | x :: l, h => by
    obtain ⟨y, h1, h2⟩ := h x (by simp)
    obtain ⟨ys, h3, h4⟩ := mapM_some f r w l fun z hz => h z (by simp [hz])
    exact ⟨y :: ys, by simp [h1, h3], by simp [List.mapM_cons, h2, h4]⟩

def resM (tmps : Array Value) : ResultVar → Sem Value
  | .tmp t => pure (tmps.getD t undef)
  | .cell a t => do loadVar t (← asAddr (tmps.getD a undef))
theorem results_eq (fn : Func) (tmps : Array Value) : results fn tmps = (do
    let vs ← fn.results.mapM (resM tmps)
    pure (if h : vs.size = 1 then vs[0] else .tuple vs)) := rfl

theorem results_run {fn : Func} {K : Kx} {a : Act} {w : World} (hR : Real K σ a w) {v : Value} (hv : resV P fn σ = some v) : (results fn a.tmps).run P w = .ok v w := by
  let r : ResultVar → Option Value := fun r => match r with
    | .tmp t => match lk σ.t t with
      | some sv => some (den (blkOf σ.h) sv)
      | none => none
    | .cell a T => match lk σ.t a with
      | some (.p i k) => match lk σ.h i with
        | some (_, .cells cs _) => match loadSV P (blkOf σ.h) T cs k with
          | some sv => some (den (blkOf σ.h) sv)
          | none => none
        | _ => none
      | _ => none
  have hone : ∀ x v, r x = some v → (resM a.tmps x).run P w = .ok v w := by
    intro x v hx
    cases x with
    | tmp t =>
      simp only [r] at hx
      cases ht : lk σ.t t with
      | none => simp [ht] at hx
      | some sv =>
        simp only [ht, Option.some.injEq] at hx
        have := (hR.slots t sv ht).1
        simp [resM, Array.getD_eq_getD_getElem?, this, hx]
    | cell b T =>
      simp only [r] at hx
      split at hx
      · rename_i i k hb
        split at hx
        · rename_i b' cs U hi
          split at hx
          · rename_i sv hl
            cases hx
            have h1 := (hR.slots b _ hb).1
            have h2 := (loadSV_sound (P := P) hR hi hl).1
            simp only [Instr.loadAt, den, Instr.sureAddr, pure_bind] at h2
            simp [resM, Array.getD_eq_getD_getElem?, h1, den, asAddr, h2]
          · cases hx
        · cases hx
      · cases hx
  have hl : resV P fn σ = (match fn.results.toList.map r with
      | [some v] => some v
      | l => bif l.all (·.isSome) then some (.tuple (l.map (·.getD undef)).toArray) else none) := rfl
  rw [hl] at hv
  have hall : ∀ x ∈ fn.results.toList, ∃ y, r x = some y := by
    split at hv
    · rename_i v' he
      intro x hx
      have : r x ∈ fn.results.toList.map r := List.mem_map_of_mem hx
      rw [he] at this
      exact ⟨v', by simpa using this⟩
    · cases hb : (fn.results.toList.map r).all (·.isSome) with
      | false => simp [hb] at hv
      | true =>
        intro x hx
        have := List.all_eq_true.1 hb (r x) (List.mem_map_of_mem hx)
        exact Option.isSome_iff_exists.1 this
  obtain ⟨ys, h3, h4⟩ := mapM_some (P := P) (resM a.tmps) r w fn.results.toList fun x hx => by
    obtain ⟨y, hy⟩ := hall x hx
    exact ⟨y, hy, hone x y hy⟩
  rw [h3] at hv
  have hm : (fn.results.mapM (resM a.tmps)).run P w = .ok ys.toArray w := by
    rw [Array.mapM_eq_mapM_toList]
    simp [h4]
  rw [results_eq]
  simp only [Sem.run_bind]
  rw [hm]
  simp only [Result.andThen_ok]
  match ys, hv with
  | [], hv => simp at hv; simp [← hv]
  | [y], hv => simp at hv; simp [hv]
  | y :: z :: l, hv =>
    have hall' : ((y :: z :: l).map some).all (·.isSome) = true := by simp
    have hget : ((y :: z :: l).map some).map (·.getD undef) = y :: z :: l := by simp [Function.comp_def]
    simp only [List.map_cons] at hv hall' hget
    rw [hall', hget] at hv
    simpa using hv

/-- All marks of deferred calls are struck. -/
def dGood (σ : St) : Bool := σ.d.all fun i => Nat.blt i σ.n
def dChunks (σ : St) : Prop := ∀ i ∈ σ.d, ∃ b, lk σ.h i = some (b, .ab (objC b (.deferred (some []))))

theorem unwind_d {K : Kx} {b : FB} (todo : List Item) : ∀ (ds : List Nat) (σ : St) (a : Act) (w : World), σ.d = ds → Real K σ a w → (∀ i ∈ ds, ∃ b, lk σ.h i = some (b, .ab (objC b (.deferred (some []))))) → ds.Nodup →
    ∃ w', Real K { σ with d := [], h := ds.reverse.map (fun i => (i, (blkOf σ.h i, SC.ab (objC (blkOf σ.h i) (.deferred none))))) ++ σ.h } { a with defers := [] } w' ∧
      ∀ cs, Steps P (lone { fat b a todo with mode := .returning } cs w) (lone { fat b { a with defers := [] } todo with mode := .returning } cs w') := by
  intro ds
  induction ds with
  | nil =>
    intro σ a w hd hR _ _
    have : a.defers = [] := by rw [hR.defers, hd]; rfl
    have ha : ({ a with defers := [] } : Act) = a := by cases a; simp_all
    rw [ha]
    refine ⟨w, ?_, fun cs => Steps.refl _ _⟩
    have : ({ σ with d := [] } : St) = σ := by cases σ; simp_all
    simp only [List.reverse_nil, List.map_nil, List.nil_append]
    rw [this]
    exact hR
  | cons i ds ih =>
    intro σ a w hd hR hall hnd
    obtain ⟨b0, hb0⟩ := hall i (by simp)
    have hblk : blkOf σ.h i = b0 := by simp [blkOf, hb0]
    have hhold : w.heap[b0]? = some (.deferred (some [])) := (hR.holds i b0 _ hb0).1
    let w1 : World := { w with heap := w.heap.setIfInBounds b0 (.deferred none) }
    have hlt : b0 < w.heap.size := lt_of_heap hhold
    have hnew : w1.heap[b0]? = some (.deferred none) := by simp [w1, hlt]
    have hR1 : Real K { σ with h := (i, (b0, .ab (objC b0 (.deferred none)))) :: σ.h } a w1 :=
      Real.turn hR hb0 (c' := .ab (objC b0 (.deferred none))) trivial (Upd.setObj w b0 _ rfl) hnew (fun x hx => .inl hx)
    have hdef : a.defers = mark b0 :: ds.map (fun j => mark (blkOf σ.h j)) := by rw [hR.defers, hd]; simp [hblk]
    let a1 : Act := { a with defers := ds.map (fun j => mark (blkOf σ.h j)) }
    have hi : i ∉ ds := (List.nodup_cons.1 hnd).1
    have hB1 : ∀ j, blkOf ((i, (b0, SC.ab (objC b0 (.deferred none)))) :: σ.h) j = blkOf σ.h j := by
      intro j
      by_cases e : i = j
      · subst e; simp [blkOf, lk_cons, hb0]
      · simp [blkOf, lk_cons, e]
    have hR2 : Real K { σ with h := (i, (b0, .ab (objC b0 (.deferred none)))) :: σ.h, d := ds } a1 w1 :=
      { hR1 with
        size := hR1.size
        slots := hR1.slots
        defers := by
          show ds.map _ = ds.map _
          exact List.map_congr_left fun j _ => by rw [hB1 j]
        dlt := fun j hj => hR.dlt j (by rw [hd]; simp [hj]) }
    obtain ⟨w2, h2, hst⟩ := ih { σ with h := (i, (b0, .ab (objC b0 (.deferred none)))) :: σ.h, d := ds } a1 w1 rfl hR2 (fun j hj => by
      obtain ⟨b1, hb1⟩ := hall j (by simp [hj])
      have : ¬ i = j := fun e => hi (e ▸ hj)
      exact ⟨b1, by simp [lk_cons, this, hb1]⟩) (List.nodup_cons.1 hnd).2
    refine ⟨w2, ?_, fun cs => .head ?_ (hst cs)⟩
    · have e1 : ({ a1 with defers := [] } : Act) = { a with defers := [] } := rfl
      rw [e1] at h2
      have e2 : ds.reverse.map (fun j => (j, (blkOf ((i, (b0, SC.ab (objC b0 (.deferred none)))) :: σ.h) j, SC.ab (objC (blkOf ((i, (b0, SC.ab (objC b0 (.deferred none)))) :: σ.h) j) (.deferred none))))) ++ ((i, (b0, SC.ab (objC b0 (.deferred none)))) :: σ.h)
          = (i :: ds).reverse.map (fun j => (j, (blkOf σ.h j, SC.ab (objC (blkOf σ.h j) (.deferred none))))) ++ σ.h := by
        simp only [List.reverse_cons, List.map_append, List.map_cons, List.map_nil, List.append_assoc, List.singleton_append, hblk]
        congr 1
        exact List.map_congr_left fun j _ => by rw [hB1 j]
      rw [← e2]
      exact h2
    · refine step_lone_go ?_
      simp only [stepG, fat, unwind, hdef, mark, Sem.runT_eq, GStep.bare_after]
      have htake : (Instr.takeDeferred b0).run P w = .ok [] w1 := by
        simp [Instr.takeDeferred, getObj, setObj, Sem.run, hhold, w1]
      rw [htake]
      rfl

theorem m_ret {b : FB} {a : Act} {cs : List Frame} {w : World} (hb : b.round = none) (he : atEnd todo = true) :
    step P (lone (fat b a todo) cs w) = .next (lone { fat b a todo with mode := .returning } cs w) := by
  match todo, he with
  | [], _ => exact step_lone_go (by simp [stepG, stepG.exec, fat, hb])
  | .code .ret :: k, _ => exact step_lone_go (by simp [stepG, stepG.exec, fat, hb])

/-- The function returns. is: the pieces that are handed back. -/
theorem SG.ret (is : List Nat) (v : Value) (he : atEnd todo = true) (hfn : fnOk P g = true) (hv : resV P (fnOf P g) σ = some v) (hids : goodIds σ.n is = true)
    (hd : σ.d = []) (hpost : post v (is.map (chunkAt σ))) : SG P (fnCtx P g w0 own ro post) todo σ := by
  intro a w hR cs
  have hfs := (fnOk_spec hfn).1
  have hdef : a.defers = [] := by rw [hR.defers, hd]; rfl
  refine ⟨.returned v, w, { fat ⟨g, .normal, none⟩ a todo with mode := .returning }, ⟨v, _, rfl, hpost, hR.sepL hids, hR.upd, fun x hx => ?_⟩, .one (m_ret rfl he), rfl, ?_⟩
  · obtain ⟨j, c, hj, hcx⟩ := sepL_fp _ _ hx
    simp only [List.getElem?_map, Option.map_eq_some_iff] at hj
    obtain ⟨m, _, rfl⟩ := hj
    exact (hR.at_ m).2 x hcx
  · exact ⟨rfl, hdef, rfl, _, hfs, results_run hR hv⟩

/-- The same where loops over functions have left marks. -/
theorem SG.retD (is : List Nat) (v : Value) (he : atEnd todo = true) (hfn : fnOk P g = true)
    (hdc : ∀ i ∈ σ.d, ∃ b, lk σ.h i = some (b, .ab (objC b (.deferred (some []))))) (hnd : σ.d.Nodup)
    (hv : resV P (fnOf P g) { σ with d := [], h := σ.d.reverse.map (fun i => (i, (blkOf σ.h i, SC.ab (objC (blkOf σ.h i) (.deferred none))))) ++ σ.h } = some v)
    (hids : goodIds σ.n is = true)
    (hpost : post v (is.map (chunkAt { σ with d := [], h := σ.d.reverse.map (fun i => (i, (blkOf σ.h i, SC.ab (objC (blkOf σ.h i) (.deferred none))))) ++ σ.h }))) :
    SG P (fnCtx P g w0 own ro post) todo σ := by
  intro a w hR cs
  have hfs := (fnOk_spec hfn).1
  obtain ⟨w', hR', hst⟩ := unwind_d (P := P) (b := ⟨g, .normal, none⟩) todo σ.d σ a w rfl hR hdc hnd
  refine ⟨.returned v, w', { fat ⟨g, .normal, none⟩ { a with defers := [] } todo with mode := .returning }, ⟨v, _, rfl, hpost, hR'.sepL hids, hR'.upd, fun x hx => ?_⟩, Steps.head (m_ret rfl he) (hst cs), rfl, ?_⟩
  · obtain ⟨j, c, hj, hcx⟩ := sepL_fp _ _ hx
    simp only [List.getElem?_map, Option.map_eq_some_iff] at hj
    obtain ⟨m, _, rfl⟩ := hj
    exact (hR'.at_ m).2 x hcx
  · exact ⟨rfl, rfl, rfl, _, hfs, results_run hR' hv⟩

/-! ### the beginning -/
def enum {β : Type} : Nat → List β → List (Nat × β)
  | _, [] => []
  | n, x :: l => (n, x) :: enum (n + 1) l

theorem lk_enum {β : Type} : ∀ (l : List β) (n i : Nat), lk (enum n l) i = if n ≤ i then l[i - n]? else none
  | [], n, i => by simp [enum, lk]
  | x :: l, n, i => by
    rw [enum, lk_cons, lk_enum l]
    by_cases e : n = i
    · subst e; simp
    · by_cases h : n ≤ i
      · have h1 : n + 1 ≤ i := by omega
        have h2 : i - n = (i - (n + 1)) + 1 := by omega
        simp [e, h, h1, h2]
      · have h1 : ¬ n + 1 ≤ i := by omega
        simp [e, h, h1]

def st0 (P : Program) (g : FuncId) (svs : List SV) (hs : List (Nat × SC)) : St :=
  { t := enum 0 svs, m := svs.length + ((fnOf P g).ntmps - svs.length), h := enum 0 hs, n := hs.length, d := [] }

theorem CallSpec.of (svs : List SV) (hs : List (Nat × SC)) {args : List Value} (hfn : fnOk P g = true)
    (hargs : svs.map (den (blkOf (enum 0 hs))) = args) (hown : hs.map (fun p => p.2.chunk (blkOf (enum 0 hs)) p.1) = own)
    (hok : (svs.all (·.okB hs.length) && hs.all (fun p => p.2.okB hs.length)) = true)
    (h : ∀ w0, SG P (fnCtx P g w0 own ro post) [.code (codeOf P g)] (st0 P g svs hs)) : CallSpec P g args own ro post := by
  obtain ⟨hf, hb, hen⟩ := fnOk_spec hfn
  refine ⟨hen, fun w hw hro => ?_⟩
  simp only [Bool.and_eq_true, List.all_eq_true] at hok
  have hlk : ∀ i b c, lk (enum 0 hs) i = some (b, c) → (List.map (fun p => p.2.chunk (blkOf (enum 0 hs)) p.1) hs)[i]? = some (c.chunk (blkOf (enum 0 hs)) b) ∧ (b, c) ∈ hs := by
    intro i b c hi
    rw [lk_enum] at hi
    simp only [Nat.zero_le, if_true, Nat.sub_zero] at hi
    exact ⟨by simp [hi], List.mem_of_getElem? hi⟩
  rw [← hown] at hw
  have hR : Real (fnCtx P g w own ro post).K (st0 P g svs hs) { tmps := args.toArray ++ Array.replicate ((fnOf P g).ntmps - args.toArray.size) undef, defers := [] } w := by
    constructor
    · exact ⟨fun c hc => hro c hc⟩
    · simp [st0, ← hargs]
    · intro i sv hi
      simp only [st0] at hi
      rw [lk_enum] at hi
      simp only [Nat.zero_le, if_true, Nat.sub_zero] at hi
      refine ⟨?_, SV.ok_of (hok.1 sv (List.mem_of_getElem? hi))⟩
      have hlt : i < svs.length := by
        rcases Nat.lt_or_ge i svs.length with h1 | h1
        · exact h1
        · rw [List.getElem?_eq_none h1] at hi; cases hi
      have hsz : i < args.toArray.size := by rw [← hargs]; simpa using hlt
      rw [Array.getElem?_append_left hsz]
      simp [← hargs, hi, st0]
    · intro i b c hi
      obtain ⟨h1, h2⟩ := hlk i b c hi
      exact ⟨(sepL_mem _ hw i _ h1).1, SC.ok_of (hok.2 _ h2)⟩
    · intro i j b c b' c' hne hi hj
      exact sepL_apart _ hw i j _ _ hne (hlk i b c hi).1 (hlk j b' c' hj).1
    · intro i b c hi x hx
      refine .inl ?_
      show (sepL own).fp x
      rw [← hown]
      exact (sepL_mem _ hw i _ (hlk i b c hi).1).2 x hx
    · intro i hi
      simp only [st0] at hi ⊢
      rw [lk_enum]
      simp only [Nat.zero_le, if_true, Nat.sub_zero]
      exact List.getElem?_eq_none hi
    · exact Upd.refl _ _
    · rfl
    · intro i hi; simp [st0] at hi
  intro cs
  have hT := h w _ w hR cs
  have hfr : fat (fnCtx P g w own ro post).b { tmps := args.toArray ++ Array.replicate ((fnOf P g).ntmps - args.toArray.size) undef, defers := [] } [.code (codeOf P g)] = Frame.enter P g args.toArray .normal := by
    simp [fat, fnCtx, Frame.enter, hf, hb]
  rw [hfr] at hT
  exact hT

end
end Go.Sx
