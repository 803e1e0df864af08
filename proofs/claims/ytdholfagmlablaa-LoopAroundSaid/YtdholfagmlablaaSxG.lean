/- Walking Go's text by symbolic states: statements whose order Go leaves open. -/
import Derived.Test.YtdholfagmlablaaSxF
namespace Go.Sx

def dep (o : Oper) : List Nat := (o.after.toList.filter (Region.binds .any)).map (·.on)
def depAt (ops : Array Oper) (i : Nat) : List Nat :=
  match ops[i]? with
  | some o => dep o
  | none => []

/-- The slots at which an operation looks. -/
def keysAt (ops : Array Oper) (i : Nat) : List Nat :=
  match ops[i]? with
  | some o => (o.op.operands.toList.filterMap fun x => match x with | .tmp t => some t | _ => none) ++
    (match o.guard with
     | some (j, _) => match (ops[j]?).bind (·.dst) with
       | some d => [d]
       | none => []
     | none => [])
  | none => []

def dstAt (ops : Array Oper) (i : Nat) : Option Nat := (ops[i]?).bind (·.dst)

/-- May the first t operations be done in any order, and the others behind them, one by one? -/
def freeB (ops : Array Oper) (t : Nat) : Bool :=
  Nat.ble t ops.size &&
  -- what an operation waits for stands ahead of it
  (List.range ops.size).all (fun i => (depAt ops i).all fun j => Nat.blt j i) &&
  -- the first ones write slots of their own, at which only those look that wait for them
  (List.range t).all (fun i => (dstAt ops i).isSome && (List.range t).all fun j => Nat.beq i j || !(match dstAt ops i, dstAt ops j with | some a, some b => Nat.beq a b | _, _ => true)) &&
  (List.range t).all (fun i => (keysAt ops i).all fun s => (List.range t).all fun j => match dstAt ops j with
    | some d => !(Nat.beq d s) || (depAt ops i).any (Nat.beq j)
    | none => false) &&
  -- the others come behind
  (Nat.beq t ops.size ||
    ((List.range t).all (fun i => (List.range (t + 1)).any fun s => Nat.blt i s && (depAt ops s).any (Nat.beq i)) &&
     (List.range ops.size).all fun i => Nat.blt i t || Nat.ble ops.size (i + 1) || (depAt ops (i + 1)).any (Nat.beq i)))

def restr (σ : St) (keys : List Nat) : St :=
  { σ with t := keys.filterMap fun s => match lk σ.t s with | some v => some (s, v) | none => none }

def stepQ (P : Program) (σ : St) (o : Oper) : Option SV :=
  match o.op with
  | .load T x => match ev σ x with
    | some (.p i k) => match lk σ.h i with
      | some (_, .cells cs _) => loadSV P (blkOf σ.h) T cs k
      | _ => none
    | _ => none
  | _ => stepV P σ o

theorem stepQ_sound {P : Program} {K : Kx} {σ : St} {a : Act} {w : World} {o : Oper} (h : Real K σ a w) {sv : SV} (hq : stepQ P σ o = some sv) :
    (execOp a.eval o).run P w = .ok (.value (den (blkOf σ.h) sv)) w ∧ sv.ok σ.n := by
  unfold stepQ at hq
  split at hq
  · rename_i T x ho
    split at hq
    · rename_i i k hx
      split at hq
      · rename_i b cs U hi
        obtain ⟨h1, h2⟩ := loadSV_sound (P := P) h hi hq
        exact ⟨by simp [execOp, ho, (h.ev hx).1, h1], h2⟩
      · cases hq
    · cases hq
  · exact stepV_sound h hq

/-- What an operation of a region gives, in the state that holds behind all of them. -/
def qval (P : Program) (ops : Array Oper) (σ : St) (i : Nat) : Option SV :=
  match ops[i]? with
  | some o => match wantedB ops (restr σ (keysAt ops i)) o with
    | some true => bif isDefer o.op then none else stepQ P (restr σ (keysAt ops i)) o
    | some false => some (.v undef)
    | none => none
  | none => none

/-- Operation i gives sv, the world grows at the most. -/
def OpTo (P : Program) (C : Ctx P) (ops : Array Oper) (σ : St) (i : Nat) (sv : SV) : Prop :=
  ∀ a w, Real C.K (restr σ (keysAt ops i)) a w → ∀ (b : FB) (rest : List Nat) (k : List Item) (cs : List Frame), ∃ w', Upd (fun _ => False) w w' ∧ sv.ok σ.n ∧
    Steps P (lone (fat b a (.inRegion ops (i :: rest) :: k)) cs w) (lone (fat b (a.put (dstAt ops i) (den (blkOf σ.h) sv)) (.inRegion ops rest :: k)) cs w')

section
variable {P : Program} {C : Ctx P} {ops : Array Oper} {σ : St} {i : Nat} {todo : List Item}

theorem OpTo.of_qval {sv : SV} (h : qval P ops σ i = some sv) : OpTo P C ops σ i sv := by
  intro a w hR b rest k cs
  refine ⟨w, Upd.refl _ _, ?_⟩
  unfold qval at h
  split at h
  · rename_i o ho
    split at h
    · rename_i hw
      cases hd : isDefer o.op with
      | true => rw [hd, cond_true] at h; cases h
      | false =>
        rw [hd, cond_false] at h
        obtain ⟨h1, h2⟩ := stepQ_sound (P := P) hR h
        refine ⟨h2, ?_⟩
        have := m_value (P := P) (b := b) (k := k) (cs := cs) (rest := rest) ho (wantedB_sound hR hw) hd h1 (.inl rfl)
        have hd' : dstAt ops i = o.dst := by simp [dstAt, ho]
        rw [hd']
        exact .one this
    · rename_i hw
      cases h
      refine ⟨trivial, ?_⟩
      have := m_opskip (P := P) (b := b) (a := a) (k := k) (cs := cs) (w := w) (ops := ops) (i := i) (rest := rest) (by simp [ho, wantedB_sound hR hw])
      exact .one this
    · cases h
  · cases h

/-- The same, the value in other words. -/
theorem OpTo.of_eq {sv : SV} {v : Value} (h : qval P ops σ i = some sv) (he : den (blkOf σ.h) sv = v) : OpTo P C ops σ i (.v v) := by
  have := OpTo.of_qval (P := P) (C := C) h
  intro a w hR b rest k cs
  obtain ⟨w', h1, _, h3⟩ := this a w hR b rest k cs
  rw [he] at h3
  exact ⟨w', h1, trivial, h3⟩

/-- A test of which the answer is known. -/
theorem OpTo.test {c : Bool} (t : Bool) (h : qval P ops σ i = some (.v (.bool c))) (hc : c = t) : OpTo P C ops σ i (.v (.bool t)) := by
  subst hc; exact OpTo.of_qval h

/-- A call of a function that turns nothing that was there. rs, ks: what it reads. -/
theorem OpTo.call {g : FuncId} {args : List Value} {ro : List Chunk} {v : Value} (rs ks : List Nat) (hS : CallSpec P g args [] ro (fun v' _ => v' = v))
    (hc : callOf (restr σ (keysAt ops i)) [.inRegion ops [i]] = some (g, args))
    (hro : rs.map (chunkAt σ) ++ ks.map (fun k => C.K.ro.getD k noC) = ro) (hks : (ks.all fun k => Nat.blt k C.K.ro.length) = true) : OpTo P C ops σ i (.v v) := by
  intro a w hR b rest k cs
  obtain ⟨ops', i', rest', k', o, he, ho, hw, hdef, hdst, hex⟩ := callOf_spec hc hR
  cases he
  have hro' : ∀ c ∈ ro, c.holds w ∧ ∀ x, c.fp x → ¬ (sepL []).fp x := by
    intro c hcm
    refine ⟨?_, fun x _ hy => hy⟩
    rw [← hro] at hcm
    rcases List.mem_append.1 hcm with hm | hm
    · obtain ⟨r, _, rfl⟩ := List.mem_map.1 hm
      exact (hR.at_ r).1
    · obtain ⟨m, hmk, rfl⟩ := List.mem_map.1 hm
      have hlt : m < C.K.ro.length := by have := List.all_eq_true.1 hks m hmk; simpa [Nat.blt_eq] using this
      have hmem : C.K.ro.getD m noC ∈ C.K.ro := by
        rw [List.getD_eq_getElem?_getD, List.getElem?_eq_getElem hlt]; exact List.getElem_mem hlt
      exact hR.ro hmem
  have hcall := hS.calls w trivial hro'
  have hent : (execOp a.eval o).run P w = .ok (.enter g args.toArray) w := by rw [hex]; exact hS.enters _ _
  obtain ⟨e, w', fr, ⟨v', cs', rfl, rfl, _, hupd, _⟩, hcomes, _, hleave⟩ := hcall (fat b a (.inRegion ops (i :: rest) :: k) :: cs)
  refine ⟨w', hupd.mono fun x _ hx => hx, trivial, .head (m_enter (P := P) (b := b) (k := k) (cs := cs) (w := w) (rest := rest) ho hw hdef hent) (Steps.trans hcomes (.one ?_))⟩
  rw [step_leave_returned hleave, finish_fat]; rfl

/-- What is to be shown of each of the first operations. -/
def OrcAll (P : Program) (C : Ctx P) (ops : Array Oper) (σ : St) : List (Nat × SV) → Prop
  | [] => True
  | (i, sv) :: l => OpTo P C ops σ i sv ∧ OrcAll P C ops σ l

def runQ (P : Program) (ops : Array Oper) (orc : List (Nat × SV)) : Nat → Nat → St → St
  | 0, _, σ => σ
  | n + 1, i, σ => match dstAt ops i with
    | some d => match lk orc i with
      | some sv => runQ P ops orc n (i + 1) { σ with t := (d, sv) :: σ.t }
      | none => match qval P ops σ i with
        | some sv => runQ P ops orc n (i + 1) { σ with t := (d, sv) :: σ.t }
        | none => σ
    | none => σ

def drawOps : List Item → Array Oper
  | .code (.region _ ops true) :: _ => ops
  | _ => #[]
def isDraw : List Item → Bool
  | .code (.region _ _ true) :: _ => true
  | _ => false

def qall (P : Program) (ops : Array Oper) (orc : List (Nat × SV)) (σ : St) (t : Nat) : List (Option SV) :=
  (List.range t).map fun i => match lk orc i with
    | some sv => some sv
    | none => qval P ops σ i
def dall (ops : Array Oper) (σ : St) (t : Nat) : List (Option SV) :=
  (List.range t).map fun i => match dstAt ops i with
    | some d => lk σ.t d
    | none => none

theorem lk_restr (σ : St) : ∀ (keys : List Nat) (s : Nat) (sv : SV), lk (restr σ keys).t s = some sv → lk σ.t s = some sv ∧ s ∈ keys
  | [], s, sv, h => by simp [restr, lk] at h
  | k :: keys, s, sv, h => by
    have ih := lk_restr σ keys s sv
    simp only [restr, List.filterMap_cons] at h ih
    cases hk : lk σ.t k with
    | none =>
      simp only [hk] at h
      exact ⟨(ih h).1, List.mem_cons_of_mem _ (ih h).2⟩
    | some v =>
      simp only [hk, lk_cons] at h
      by_cases e : k = s
      · subst e
        simp only [if_true, Option.some.injEq] at h
        subst h
        exact ⟨hk, by simp⟩
      · simp only [e, if_false] at h
        exact ⟨(ih h).1, List.mem_cons_of_mem _ (ih h).2⟩

/-- Some of the first t operations have been done. -/
structure Part (K : Kx) (ops : Array Oper) (t : Nat) (σ : St) (listed : Array Bool) (a : Act) (w : World) : Prop where
  real : Real K { σ with t := [] } a w
  slots : ∀ s sv, lk σ.t s = some sv → (∀ j, j < t → dstAt ops j = some s → listed.getD j false = true) → a.tmps[s]? = some (den (blkOf σ.h) sv) ∧ sv.ok σ.n

theorem Part.restr {K : Kx} {t : Nat} {listed : Array Bool} {a : Act} {w : World} (h : Part K ops t σ listed a w) (keys : List Nat)
    (hk : ∀ s ∈ keys, ∀ j, j < t → dstAt ops j = some s → listed.getD j false = true) : Real K (Sx.restr σ keys) a w :=
  { h.real with
    slots := fun s sv hs => by
      obtain ⟨h1, h2⟩ := lk_restr σ keys s sv hs
      exact h.slots s sv h1 (hk s h2) }

theorem mem_dep {o : Oper} (ho : ops[i]? = some o) {listed : Array Bool} :
    (o.after.all fun e => !Region.binds .any e || listed.getD e.on false) = true ↔ ∀ j ∈ depAt ops i, listed.getD j false = true := by
  simp only [depAt, ho, dep, List.mem_map, List.mem_filter, Array.mem_toList_iff, Array.all_eq_true_iff_forall_mem, Bool.or_eq_true, Bool.not_eq_true']
  constructor
  · rintro h j ⟨e, ⟨he, hb⟩, rfl⟩
    rcases h e he with h1 | h1
    · rw [hb] at h1; cases h1
    · exact h1
  · intro h e he
    cases hb : Region.binds .any e with
    | false => exact .inl rfl
    | true => exact .inr (h e.on ⟨e, ⟨he, hb⟩, rfl⟩)

theorem ready_iff {listed : Array Bool} {j : Nat} : j ∈ Region.ready .any ops listed ↔ j < ops.size ∧ listed.getD j true = false ∧ ∀ d ∈ depAt ops j, listed.getD d false = true := by
  simp only [Region.ready, List.mem_filter, List.mem_range, Bool.and_eq_true, Bool.not_eq_true']
  constructor
  · rintro ⟨h1, h2, h3⟩
    refine ⟨h1, h2, ?_⟩
    have ho : ops[j]? = some ops[j] := Array.getElem?_eq_getElem h1
    rw [ho] at h3
    exact (mem_dep ho).1 (by simpa using h3)
  · rintro ⟨h1, h2, h3⟩
    have ho : ops[j]? = some ops[j] := Array.getElem?_eq_getElem h1
    refine ⟨h1, h2, ?_⟩
    rw [ho]
    simpa using (mem_dep ho).2 h3

theorem runQ_spec (orc : List (Nat × SV)) : ∀ (n i : Nat) (σ : St), (runQ P ops orc n i σ).h = σ.h ∧ (runQ P ops orc n i σ).m = σ.m ∧ (runQ P ops orc n i σ).n = σ.n ∧ (runQ P ops orc n i σ).d = σ.d ∧
    ∀ s, (∀ j, i ≤ j → j < i + n → dstAt ops j ≠ some s) → lk (runQ P ops orc n i σ).t s = lk σ.t s
  | 0, i, σ => ⟨rfl, rfl, rfl, rfl, fun _ _ => rfl⟩
  | n + 1, i, σ => by
    have step : ∀ (d : Nat) (sv : SV), dstAt ops i = some d → (runQ P ops orc n (i + 1) { σ with t := (d, sv) :: σ.t }).h = σ.h ∧ (runQ P ops orc n (i + 1) { σ with t := (d, sv) :: σ.t }).m = σ.m ∧
        (runQ P ops orc n (i + 1) { σ with t := (d, sv) :: σ.t }).n = σ.n ∧ (runQ P ops orc n (i + 1) { σ with t := (d, sv) :: σ.t }).d = σ.d ∧
        ∀ s, (∀ j, i ≤ j → j < i + (n + 1) → dstAt ops j ≠ some s) → lk (runQ P ops orc n (i + 1) { σ with t := (d, sv) :: σ.t }).t s = lk σ.t s := by
      intro d sv hd
      obtain ⟨h1, h2, h3, h4, h5⟩ := runQ_spec orc n (i + 1) { σ with t := (d, sv) :: σ.t }
      refine ⟨h1, h2, h3, h4, fun s hs => ?_⟩
      rw [h5 s fun j hj hj' => hs j (by omega) (by omega)]
      have : d ≠ s := fun e => hs i (Nat.le_refl _) (by omega) (by rw [hd, e])
      simp [lk_cons, this]
    unfold runQ
    split
    · rename_i d hd
      split
      · exact step d _ hd
      · split
        · exact step d _ hd
        · exact ⟨rfl, rfl, rfl, rfl, fun _ _ => rfl⟩
    · exact ⟨rfl, rfl, rfl, rfl, fun _ _ => rfl⟩

def cnt (n : Nat) (listed : Array Bool) : Nat := (List.range n).countP fun i => listed.getD i false

theorem getD_set {listed : Array Bool} {i : Nat} (hi : i < listed.size) (j : Nat) (d : Bool) : (listed.setIfInBounds i true).getD j d = if i = j then true else listed.getD j d := by
  simp only [Array.getD_eq_getD_getElem?, Array.getElem?_setIfInBounds]
  by_cases e : i = j
  · subst e; simp [hi]
  · simp [e]

theorem cnt_set {listed : Array Bool} {i : Nat} (hi : i < listed.size) (hf : listed.getD i false = false) : ∀ n, cnt n (listed.setIfInBounds i true) = cnt n listed + if i < n then 1 else 0
  | 0 => by simp [cnt]
  | n + 1 => by
    have ih := cnt_set hi hf n
    simp only [cnt] at ih ⊢
    rw [List.range_succ, List.countP_append, List.countP_append, ih]
    simp only [List.countP_singleton, getD_set hi]
    by_cases e : i = n
    · subst e; simp [hf]
    · by_cases h : i < n
      · have h' : i < n + 1 := by omega
        simp [e, h, h']
        omega
      · have h' : ¬ i < n + 1 := by omega
        simp [e, h, h']

theorem cnt_le : ∀ (n : Nat) (listed : Array Bool), cnt n listed ≤ n := fun n listed => by
  have := List.countP_le_length (p := fun i => listed.getD i false) (l := List.range n)
  simpa [cnt] using this

theorem cnt_full {listed : Array Bool} : ∀ n, cnt n listed = n → ∀ i, i < n → listed.getD i false = true
  | 0, _, i, hi => by omega
  | n + 1, h, i, hi => by
    simp only [cnt, List.range_succ, List.countP_append, List.countP_singleton] at h
    have h1 := cnt_le n listed
    simp only [cnt] at h1
    by_cases hn : listed.getD n false = true
    · rw [hn] at h
      simp only [if_true] at h
      have := cnt_full n (listed := listed) (by simp only [cnt]; omega)
      by_cases e : i = n
      · subst e; exact hn
      · exact this i (by omega)
    · rw [Bool.eq_false_iff.2 hn] at h
      simp only [Bool.false_eq_true, if_false] at h
      omega

theorem getD_tf {listed : Array Bool} {n i : Nat} (hs : listed.size = n) (hi : i < n) : listed.getD i true = listed.getD i false := by
  simp [Array.getD_eq_getD_getElem?, Array.getElem?_eq_getElem (hs ▸ hi)]

structure FreeF (ops : Array Oper) (t : Nat) : Prop where
  le : t ≤ ops.size
  lt : ∀ i, i < ops.size → ∀ j ∈ depAt ops i, j < i
  dst : ∀ i, i < t → ∃ d, dstAt ops i = some d
  ne : ∀ i j, i < t → j < t → i ≠ j → dstAt ops i ≠ dstAt ops j
  keys : ∀ i, i < t → ∀ s ∈ keysAt ops i, ∀ j, j < t → dstAt ops j = some s → j ∈ depAt ops i
  tail : t = ops.size ∨ ((∀ i, i < t → ∃ s, i < s ∧ s ≤ t ∧ i ∈ depAt ops s) ∧ ∀ i, t ≤ i → i + 1 < ops.size → i ∈ depAt ops (i + 1))

theorem any_mem {l : List Nat} {i : Nat} (h : l.any (Nat.beq i) = true) : i ∈ l := by
  obtain ⟨x, hx, he⟩ := List.any_eq_true.1 h
  rw [Nat.eq_of_beq_eq_true he]; exact hx

theorem freeF {t : Nat} (h : freeB ops t = true) : FreeF ops t := by
  unfold freeB at h
  simp only [Bool.and_eq_true, List.all_eq_true, List.mem_range, Bool.or_eq_true] at h
  obtain ⟨⟨⟨⟨h1, h2⟩, h3⟩, h4⟩, h5⟩ := h
  refine ⟨Nat.le_of_ble_eq_true h1, fun i hi j hj => by simpa [Nat.blt_eq] using h2 i hi j hj, fun i hi => Option.isSome_iff_exists.1 (h3 i hi).1, ?_, ?_, ?_⟩
  · intro i j hi hj hne he
    have := (h3 i hi).2 j hj
    obtain ⟨d, hd⟩ := Option.isSome_iff_exists.1 (h3 i hi).1
    rw [← he, hd] at this
    rcases this with h6 | h6
    · exact hne (Nat.eq_of_beq_eq_true h6)
    · simp at h6
  · intro i hi s hs j hj hd
    have := h4 i hi s hs j hj
    rw [hd] at this
    simp only [Bool.or_eq_true] at this
    rcases this with h6 | h6
    · simp at h6
    · exact any_mem h6
  · rcases h5 with h6 | ⟨h6, h7⟩
    · exact .inl (Nat.eq_of_beq_eq_true h6)
    · refine .inr ⟨fun i hi => ?_, fun i hi hi' => ?_⟩
      · obtain ⟨s, hs, hss⟩ := List.any_eq_true.1 (h6 i hi)
        simp only [Bool.and_eq_true, Nat.blt_eq] at hss
        simp only [List.mem_range] at hs
        exact ⟨s, hss.1, by omega, any_mem hss.2⟩
      · rcases h7 i (by omega) with (h8 | h8) | h8
        · simp only [Nat.blt_eq] at h8; omega
        · have := Nat.le_of_ble_eq_true h8; omega
        · exact any_mem h8

theorem rs_some {rs : List Nat} {i T : Nat} (hne : rs ≠ []) (hall : ∀ j ∈ rs, j = i) : rs[T % rs.length]? = some i := by
  have hl : 0 < rs.length := by cases rs with | nil => exact absurd rfl hne | cons => simp
  have hlt : T % rs.length < rs.length := Nat.mod_lt _ hl
  rw [List.getElem?_eq_getElem hlt, hall _ (List.getElem_mem hlt)]

theorem lin_tail {t : Nat} (hF : FreeF ops t) (htail : ∀ i, t ≤ i → i + 1 < ops.size → i ∈ depAt ops (i + 1)) : ∀ (fuel i T : Nat) (listed : Array Bool), listed.size = ops.size → t ≤ i → i ≤ ops.size → ops.size ≤ fuel + i →
    (∀ j, j < ops.size → listed.getD j false = decide (j < i)) → Region.linearise.go .any ops fuel T listed [] = List.range' i (ops.size - i) := by
  intro fuel
  induction fuel with
  | zero =>
    intro i T listed _ _ hi hf _
    have : ops.size - i = 0 := by omega
    simp [Region.linearise.go, this]
  | succ fuel ih =>
    intro i T listed hsz hti hi hf hl
    simp only [Region.linearise.go]
    change (match (Region.ready .any ops listed)[T % (Region.ready .any ops listed).length]? with
      | some i => Region.linearise.go .any ops fuel (T / (Region.ready .any ops listed).length) (listed.setIfInBounds i true) [i]
      | none => [].reverse) = _
    have hone : ∀ j ∈ Region.ready .any ops listed, j = i := by
      intro j hj
      obtain ⟨h1, h2, h3⟩ := ready_iff.1 hj
      rw [getD_tf hsz h1, hl j h1] at h2
      have h2' : ¬ j < i := by simpa using h2
      by_cases e : j = i
      · exact e
      · obtain ⟨k, rfl⟩ : ∃ k, j = k + 1 := ⟨j - 1, by omega⟩
        have := h3 k (htail k (by omega) h1)
        rw [hl k (by omega)] at this
        have : k < i := by simpa using this
        omega
    by_cases e : i = ops.size
    · have hnil : Region.ready .any ops listed = [] := by
        cases hr : Region.ready .any ops listed with
        | nil => rfl
        | cons x xs =>
          have hx : x ∈ Region.ready .any ops listed := by rw [hr]; simp
          have h1 := hone x hx
          have h2 := (ready_iff.1 hx).1
          omega
      have h0 : ops.size - i = 0 := by omega
      simp [hnil, h0]
    · have hlt : i < ops.size := by omega
      have hmem : i ∈ Region.ready .any ops listed := by
        refine ready_iff.2 ⟨hlt, by rw [getD_tf hsz hlt, hl i hlt]; simp, fun d hd => ?_⟩
        have := hF.lt i hlt d hd
        rw [hl d (by omega)]; simpa using this
      rw [rs_some (List.ne_nil_of_mem hmem) hone]
      simp only []
      rw [linearise_go_acc, List.reverse_singleton, List.singleton_append, ih (i + 1) _ _ (by simpa using hsz) (by omega) hlt (by omega) (by
        intro j hj
        rw [getD_set (by omega)]
        by_cases e' : i = j
        · subst e'; simp
        · rw [if_neg e', hl j hj]
          by_cases h : j < i
          · have : j < i + 1 := by omega
            simp [h, this]
          · have : ¬ j < i + 1 := by omega
            simp [h, this])]
      have : ops.size - i = (ops.size - (i + 1)) + 1 := by omega
      rw [this, List.range'_succ]

/-- Behind whatever order of the first operations, and then the others. -/
theorem SG.draw (t : Nat) (orc : List (Nat × SV)) (σt : St) (hσ : σt = runQ P (drawOps todo) orc t 0 σ) (hdraw : isDraw todo = true) (hP : P.follows .mixedOrders = true)
    (hfree : freeB (drawOps todo) t = true) (hm : ((List.range t).all fun i => match dstAt (drawOps todo) i with | some d => Nat.blt d σ.m && (lk σt.t d).isSome | none => false) = true)
    (hval : qall P (drawOps todo) orc σt t = dall (drawOps todo) σt t) (horc : OrcAll P C (drawOps todo) σt orc)
    (hg : SG P C (.inRegion (drawOps todo) (List.range' t ((drawOps todo).size - t)) :: tailOf todo) σt) : SG P C todo σ := by
  obtain ⟨id, ops, k, rfl⟩ : ∃ id ops k, todo = .code (.region id ops true) :: k := by
    match todo, hdraw with
    | .code (.region id ops true) :: k, _ => exact ⟨id, ops, k, rfl⟩
  simp only [drawOps, tailOf] at *
  have hF := freeF hfree
  obtain ⟨q1, q2, q3, q4, q5⟩ := runQ_spec (P := P) (ops := ops) orc t 0 σ
  rw [← hσ] at q1 q2 q3 q4 q5
  -- each of the first operations
  have hop : ∀ i, i < t → ∃ d sv, dstAt ops i = some d ∧ d < σt.m ∧ lk σt.t d = some sv ∧ OpTo P C ops σt i sv := by
    intro i hi
    obtain ⟨d, hd⟩ := hF.dst i hi
    have hmi := List.all_eq_true.1 hm i (List.mem_range.2 hi)
    rw [hd] at hmi
    simp only [Bool.and_eq_true, Nat.blt_eq] at hmi
    have hdm : d < σt.m := by rw [q2]; exact hmi.1
    have h1 := congrArg (fun l => l[i]?) hval
    simp only [qall, dall, List.getElem?_map, List.getElem?_range hi, Option.map_some, hd, Option.some.injEq] at h1
    cases ho : lk orc i with
    | some sv =>
      rw [ho] at h1
      refine ⟨d, sv, hd, hdm, h1.symm, ?_⟩
      have hmem := lk_mem ho
      have : ∀ l : List (Nat × SV), OrcAll P C ops σt l → (i, sv) ∈ l → OpTo P C ops σt i sv := by
        intro l
        induction l with
        | nil => intro _ h; cases h
        | cons p l ih =>
          rintro ⟨h2, h3⟩ h
          rcases List.mem_cons.1 h with rfl | h
          · exact h2
          · exact ih h3 h
      exact this orc horc hmem
    | none =>
      rw [ho] at h1
      simp only at h1
      cases hq : qval P ops σt i with
      | none =>
        rw [hq] at h1
        rw [← h1] at hmi
        simp at hmi
      | some sv => exact ⟨d, sv, hd, hdm, by rw [← h1, hq], OpTo.of_qval hq⟩
  have main : ∀ (fuel : Nat) (T : Nat) (listed : Array Bool) (a : Act) (w : World) (cs : List Frame), listed.size = ops.size → ops.size ≤ fuel + cnt ops.size listed →
      (∀ i, i < ops.size → listed.getD i false = true → ∀ j ∈ depAt ops i, listed.getD j false = true) → (∀ i, t ≤ i → i < ops.size → listed.getD i false = false) → Part C.K ops t σt listed a w →
      C.T cs (lone (fat C.b a (.inRegion ops (Region.linearise.go .any ops fuel T listed []) :: k)) cs w) := by
    intro fuel
    induction fuel with
    | zero =>
      intro T listed a w cs hsz hcnt hdown htl hpart
      have hfull := cnt_full (listed := listed) ops.size (by have := cnt_le ops.size listed; omega)
      have ht : t = ops.size := by
        by_cases e : t < ops.size
        · have := htl t (Nat.le_refl _) e; rw [hfull t e] at this; cases this
        · have := hF.le; omega
      have h0 : ops.size - t = 0 := by omega
      rw [h0] at hg
      have hR : Real C.K σt a w := { hpart.real with slots := fun s sv hs => hpart.slots s sv hs fun j hj _ => hfull j (by omega) }
      simpa [Region.linearise.go] using hg a w hR cs
    | succ fuel ih =>
      intro T listed a w cs hsz hcnt hdown htl hpart
      by_cases hall : ∀ i, i < t → listed.getD i false = true
      · have hR : Real C.K σt a w := { hpart.real with slots := fun s sv hs => hpart.slots s sv hs fun j hj _ => hall j hj }
        have hex : ∀ j, j < ops.size → listed.getD j false = decide (j < t) := by
          intro j hj
          by_cases h : j < t
          · rw [hall j h]; simp [h]
          · rw [htl j (by omega) hj]; simp [h]
        have hc : cnt ops.size listed = t := by
          have : ∀ n, n ≤ ops.size → cnt n listed = min n t := by
            intro n
            induction n with
            | zero => intro _; simp [cnt]
            | succ n ihn =>
              intro hn
              have ih' := ihn (by omega)
              simp only [cnt] at ih' ⊢
              rw [List.range_succ, List.countP_append, ih', List.countP_singleton, hex n (by omega)]
              by_cases h : n < t
              · simp [h]; omega
              · simp [h]; omega
          rw [this ops.size (Nat.le_refl _)]
          have := hF.le; omega
        have hlin : Region.linearise.go .any ops (fuel + 1) T listed [] = List.range' t (ops.size - t) := by
          rcases hF.tail with ht | ⟨_, htail⟩
          · refine lin_tail hF (fun i h1 h2 => by omega) (fuel + 1) t T listed hsz (Nat.le_refl _) hF.le (by omega) hex
          · exact lin_tail hF htail (fuel + 1) t T listed hsz (Nat.le_refl _) hF.le (by omega) hex
        rw [hlin]
        exact hg a w hR cs
      · -- one of the first is left
        have hready : ∀ i ∈ Region.ready .any ops listed, i < t := by
          intro i hi
          obtain ⟨h1, h2, h3⟩ := ready_iff.1 hi
          by_cases h : i < t
          · exact h
          · exfalso
            rcases hF.tail with ht | ⟨hpre, htail⟩
            · omega
            · have hit : i = t := by
                by_cases e : i = t
                · exact e
                · obtain ⟨q, rfl⟩ : ∃ q, i = q + 1 := ⟨i - 1, by omega⟩
                  have h4 := h3 q (htail q (by omega) h1)
                  have h5 := htl q (by omega) (by omega)
                  rw [h4] at h5; cases h5
              subst hit
              apply hall
              have : ∀ m j, i - j = m → j < i → listed.getD j false = true := by
                intro m
                induction m using Nat.strongRecOn with
                | _ m ihm =>
                  intro j hm' hj
                  obtain ⟨s, hs1, hs2, hs3⟩ := hpre j hj
                  by_cases e : s = i
                  · subst e; exact h3 j hs3
                  · have := ihm (i - s) (by omega) s rfl (by omega)
                    exact hdown s (by omega) this j hs3
              exact fun j hj => this _ j rfl hj
        have hex : ∃ i, i ∈ Region.ready .any ops listed := by
          have : ∃ i, i < t ∧ listed.getD i false = false := by
            refine Classical.byContradiction fun hn => hall fun i hi => ?_
            cases hb : listed.getD i false with
            | true => rfl
            | false => exact absurd ⟨i, hi, hb⟩ hn
          have least : ∀ m, (∃ i, i < m ∧ i < t ∧ listed.getD i false = false) → ∃ i, i < t ∧ listed.getD i false = false ∧ ∀ j, j < i → listed.getD j false = true := by
            intro m
            induction m with
            | zero => rintro ⟨i, h, _⟩; omega
            | succ m ihm =>
              rintro ⟨i, h1, h2, h3⟩
              by_cases h : ∃ i, i < m ∧ i < t ∧ listed.getD i false = false
              · exact ihm h
              · refine ⟨i, h2, h3, fun j hj => ?_⟩
                cases hb : listed.getD j false with
                | true => rfl
                | false => exact absurd ⟨j, by omega, by omega, hb⟩ h
          obtain ⟨i, h1, h2⟩ := this
          obtain ⟨i, h1, h2, h3⟩ := least (i + 1) ⟨i, by omega, h1, h2⟩
          have hi : i < ops.size := by have := hF.le; omega
          exact ⟨i, ready_iff.2 ⟨hi, by rw [getD_tf hsz hi]; exact h2, fun d hd => h3 d (hF.lt i hi d hd)⟩⟩
        simp only [Region.linearise.go]
        change C.T cs (lone (fat C.b a (.inRegion ops (match (Region.ready .any ops listed)[T % (Region.ready .any ops listed).length]? with
          | some i => Region.linearise.go .any ops fuel (T / (Region.ready .any ops listed).length) (listed.setIfInBounds i true) [i]
          | none => [].reverse) :: k)) cs w)
        obtain ⟨i0, hi0⟩ := hex
        have hl : 0 < (Region.ready .any ops listed).length := List.length_pos_of_mem hi0
        have hlt : T % (Region.ready .any ops listed).length < (Region.ready .any ops listed).length := Nat.mod_lt _ hl
        rw [List.getElem?_eq_getElem hlt]
        simp only []
        generalize hi : (Region.ready .any ops listed)[T % (Region.ready .any ops listed).length] = i
        have hmem : i ∈ Region.ready .any ops listed := by rw [← hi]; exact List.getElem_mem hlt
        have hit := hready i hmem
        obtain ⟨h1, h2, h3⟩ := ready_iff.1 hmem
        rw [getD_tf hsz h1] at h2
        rw [linearise_go_acc, List.reverse_singleton, List.singleton_append]
        obtain ⟨d, sv, hd, hdm, hlk, hopt⟩ := hop i hit
        have hRi := hpart.restr (keysAt ops i) fun s hs j hj hdj => h3 j (hF.keys i hit s hs j hj hdj)
        obtain ⟨w', hu, hok, hst⟩ := hopt a w hRi C.b (Region.linearise.go .any ops fuel (T / (Region.ready .any ops listed).length) (listed.setIfInBounds i true) []) k cs
        refine C.clos _ _ _ hst ?_
        rw [hd]
        refine ih _ _ _ _ cs (by simpa using hsz) ?_ ?_ ?_ ?_
        · rw [cnt_set (by omega) h2, if_pos h1]; omega
        · intro j hj hjl q hq
          rw [getD_set (by omega)] at hjl ⊢
          by_cases e : i = q
          · simp [e]
          · rw [if_neg e]
            by_cases e' : i = j
            · subst e'; exact h3 q hq
            · rw [if_neg e'] at hjl; exact hdown j hj hjl q hq
        · intro j hj hj'
          rw [getD_set (by omega), if_neg (by omega)]
          exact htl j hj hj'
        · have hR1 : Real C.K { σt with t := [] } a w' := hpart.real.more hu
          have hsize := hR1.size
          refine ⟨{ hR1 with size := by simpa [Act.put] using hsize, slots := fun s sv' h => by simp [lk] at h, defers := hR1.defers }, ?_⟩
          intro s sv' hs hc
          by_cases e : d = s
          · subst e
            rw [hlk] at hs
            cases hs
            have : d < a.tmps.size := by rw [hsize]; exact hdm
            exact ⟨by simp [Act.put, this], hok⟩
          · obtain ⟨h4, h5⟩ := hpart.slots s sv' hs fun j hj hdj => by
              have := hc j hj hdj
              have hne : i ≠ j := by
                intro e'; subst e'
                rw [hd] at hdj; exact e (by simpa using hdj)
              rw [getD_set (by omega), if_neg hne] at this
              exact this
            exact ⟨by simp [Act.put, e, h4], h5⟩
  intro a w hR cs
  refine C.clos _ _ _ (.one m_draw) ?_
  have hsch : ∀ T, Region.schedule (P.follows .mixedOrders) ops T = Region.linearise.go .any ops ops.size T (Array.replicate ops.size false) [] := by
    intro T; simp [Region.schedule, hP, Region.linearise]
  rw [hsch]
  have hrep : ∀ i, (Array.replicate ops.size false).getD i false = false := by
    intro i
    simp only [Array.getD_eq_getD_getElem?, Array.getElem?_replicate]
    split <;> rfl
  have hd0 := hR.draw (w.drawn + 1)
  refine main ops.size _ _ a _ cs (by simp) (by omega) (fun i _ h => by rw [hrep] at h; cases h) (fun i _ _ => hrep i) ⟨?_, ?_⟩
  · have e : ({ σt with t := [] } : St) = { σ with t := [] } := by cases σt; cases σ; simp_all
    rw [e]
    exact { hd0 with slots := fun s sv' h => by simp [lk] at h }
  · intro s sv hs hc
    have hno : ∀ j, 0 ≤ j → j < 0 + t → dstAt ops j ≠ some s := by
      intro j _ hj he
      have := hc j (by omega) he
      rw [hrep] at this; cases this
    rw [q5 s hno] at hs
    have := hd0.slots s sv hs
    rw [q1, q3]
    exact this

end
end Go.Sx
