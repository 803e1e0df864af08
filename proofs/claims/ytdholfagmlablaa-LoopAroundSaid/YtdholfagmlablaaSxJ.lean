/- Walking Go's text by symbolic states: regions that draw their order and make memory. -/
import Derived.Test.YtdholfagmlablaaSxI
namespace Go.Sx

def memB (l : List Nat) (i : Nat) : Bool := l.any (Nat.beq i)
theorem memB_iff {l : List Nat} {i : Nat} : memB l i = true ↔ i ∈ l := by
  refine ⟨any_mem, fun h => List.any_eq_true.2 ⟨i, h, Nat.beq_refl i⟩⟩

/-- What is known when the operations of 'listed' are done. -/
def kn (ops : Array Oper) (t : Nat) (σ : St) (listed : Array Bool) : St :=
  { σ with t := σ.t.filter fun p => (List.range t).all fun j => (match dstAt ops j with | some d => !Nat.beq d p.1 | none => true) || listed.getD j false }

theorem lk_filter {β : Type} (q : Nat → Bool) : ∀ (l : List (Nat × β)) (s : Nat), lk (l.filter fun p => q p.1) s = if q s then lk l s else none
  | [], s => by simp [lk]
  | (j, b) :: l, s => by
    rw [List.filter_cons, lk_cons]
    by_cases e : j = s
    · subst e
      cases h : q j with
      | true => simp [lk_cons]
      | false =>
        have ih := lk_filter q l j
        rw [h] at ih
        simpa using ih
    · have ih := lk_filter q l s
      cases h : q j with
      | true => simp [lk_cons, e, ih]
      | false => simp [e, ih]

theorem kn_iff {ops : Array Oper} {t : Nat} {σ : St} {listed : Array Bool} {s : Nat} {sv : SV} :
    lk (kn ops t σ listed).t s = some sv ↔ lk σ.t s = some sv ∧ ∀ j, j < t → dstAt ops j = some s → listed.getD j false = true := by
  simp only [kn]
  rw [lk_filter (fun s => (List.range t).all fun j => (match dstAt ops j with | some d => !Nat.beq d s | none => true) || listed.getD j false)]
  have hq : ((List.range t).all fun j => (match dstAt ops j with | some d => !Nat.beq d s | none => true) || listed.getD j false) = true ↔ ∀ j, j < t → dstAt ops j = some s → listed.getD j false = true := by
    simp only [List.all_eq_true, List.mem_range, Bool.or_eq_true]
    constructor
    · intro h j hj hd
      rcases h j hj with h1 | h1
      · rw [hd] at h1; simp at h1
      · exact h1
    · intro h j hj
      cases hd : dstAt ops j with
      | none => simp
      | some d =>
        by_cases e : d = s
        · subst e; exact .inr (h j hj hd)
        · left; simp only [Bool.not_eq_true']
          rw [← Bool.not_eq_true]; intro e'; exact e (Nat.eq_of_beq_eq_true e')
  by_cases hc : ((List.range t).all fun j => (match dstAt ops j with | some d => !Nat.beq d s | none => true) || listed.getD j false) = true
  · simp only [hc, if_true]
    exact ⟨fun h => ⟨h, hq.1 hc⟩, fun h => h.1⟩
  · simp only [hc, Bool.false_eq_true, if_false]
    constructor
    · intro h; cases h
    · rintro ⟨_, h⟩; exact absurd (hq.2 h) hc

section
variable {P : Program} {C : Ctx P} {σ : St} {todo : List Item}

theorem SG.sub {t' : List (Nat × SV)} (h : ∀ s sv, lk t' s = some sv → lk σ.t s = some sv) (hg : SG P C todo { σ with t := t' }) : SG P C todo σ :=
  fun a w hR cs => hg a w { hR with slots := fun s sv hs => hR.slots s sv (h s sv hs) } cs

def setT (d : Option Nat) (sv : SV) (l : List (Nat × SV)) : List (Nat × SV) :=
  match d with
  | some d => (d, sv) :: l
  | none => l

/-- Fills in what is known of the operations below t that are not in H. -/
def fillF (P : Program) (ops : Array Oper) (H : List Nat) (orc : List (Nat × SV)) : Nat → Nat → St → St
  | 0, _, σ => σ
  | n + 1, i, σ => bif memB H i then fillF P ops H orc n (i + 1) σ else match dstAt ops i with
    | some d => match lk σ.t d with
      | some _ => fillF P ops H orc n (i + 1) σ
      | none => match lk orc i with
        | some sv => fillF P ops H orc n (i + 1) { σ with t := (d, sv) :: σ.t }
        | none => match qval P ops σ i with
          | some sv => fillF P ops H orc n (i + 1) { σ with t := (d, sv) :: σ.t }
          | none => fillF P ops H orc n (i + 1) σ
    | none => fillF P ops H orc n (i + 1) σ

theorem fillF_spec {ops : Array Oper} {H : List Nat} (orc : List (Nat × SV)) : ∀ (n i : Nat) (σ : St), (fillF P ops H orc n i σ).h = σ.h ∧ (fillF P ops H orc n i σ).m = σ.m ∧ (fillF P ops H orc n i σ).n = σ.n ∧ (fillF P ops H orc n i σ).d = σ.d ∧
    (∀ s sv, lk σ.t s = some sv → lk (fillF P ops H orc n i σ).t s = some sv) ∧ ∀ s, (∀ j, i ≤ j → j < i + n → dstAt ops j ≠ some s) → lk (fillF P ops H orc n i σ).t s = lk σ.t s
  | 0, i, σ => ⟨rfl, rfl, rfl, rfl, fun _ _ h => h, fun _ _ => rfl⟩
  | n + 1, i, σ => by
    have skip : (fillF P ops H orc n (i + 1) σ).h = σ.h ∧ (fillF P ops H orc n (i + 1) σ).m = σ.m ∧ (fillF P ops H orc n (i + 1) σ).n = σ.n ∧ (fillF P ops H orc n (i + 1) σ).d = σ.d ∧
        (∀ s sv, lk σ.t s = some sv → lk (fillF P ops H orc n (i + 1) σ).t s = some sv) ∧ ∀ s, (∀ j, i ≤ j → j < i + (n + 1) → dstAt ops j ≠ some s) → lk (fillF P ops H orc n (i + 1) σ).t s = lk σ.t s := by
      obtain ⟨h1, h2, h3, h4, h5, h6⟩ := fillF_spec (ops := ops) (H := H) orc n (i + 1) σ
      exact ⟨h1, h2, h3, h4, h5, fun s hs => h6 s fun j hj hj' => hs j (by omega) (by omega)⟩
    have put : ∀ (d : Nat) (sv : SV), dstAt ops i = some d → lk σ.t d = none → (fillF P ops H orc n (i + 1) { σ with t := (d, sv) :: σ.t }).h = σ.h ∧ (fillF P ops H orc n (i + 1) { σ with t := (d, sv) :: σ.t }).m = σ.m ∧
        (fillF P ops H orc n (i + 1) { σ with t := (d, sv) :: σ.t }).n = σ.n ∧ (fillF P ops H orc n (i + 1) { σ with t := (d, sv) :: σ.t }).d = σ.d ∧
        (∀ s sv', lk σ.t s = some sv' → lk (fillF P ops H orc n (i + 1) { σ with t := (d, sv) :: σ.t }).t s = some sv') ∧
        ∀ s, (∀ j, i ≤ j → j < i + (n + 1) → dstAt ops j ≠ some s) → lk (fillF P ops H orc n (i + 1) { σ with t := (d, sv) :: σ.t }).t s = lk σ.t s := by
      intro d sv hd hn
      obtain ⟨h1, h2, h3, h4, h5, h6⟩ := fillF_spec (ops := ops) (H := H) orc n (i + 1) { σ with t := (d, sv) :: σ.t }
      refine ⟨h1, h2, h3, h4, fun s sv' hs => h5 s sv' ?_, fun s hs => ?_⟩
      · have : d ≠ s := fun e => by subst e; rw [hn] at hs; cases hs
        simpa [lk_cons, this] using hs
      · rw [h6 s fun j hj hj' => hs j (by omega) (by omega)]
        have : d ≠ s := fun e => hs i (Nat.le_refl _) (by omega) (by rw [hd, e])
        simp [lk_cons, this]
    unfold fillF
    cases memB H i with
    | true => simpa using skip
    | false =>
      simp only [cond_false]
      split
      · rename_i d hd
        split
        · exact skip
        · rename_i hn
          split
          · exact put d _ hd hn
          · split
            · exact put d _ hd hn
            · exact skip
      · exact skip

/-- Is operation i passed over where the heavy ones hs are still to come? -/
def skipB (ops : Array Oper) (H hs : List Nat) (i : Nat) : Bool := memB H i || H.any fun h => !memB hs h && memB (depAt ops h) i

def fVals (P : Program) (ops : Array Oper) (H hs : List Nat) (orc : List (Nat × SV)) (σ : St) (t : Nat) : List (Option SV) :=
  (List.range t).map fun i => bif skipB ops H hs i then none else match (dstAt ops i).bind (lk σ.t) with
    | none => none
    | some _ => match lk orc i with
      | some sv => some sv
      | none => qval P ops σ i
def gVals (ops : Array Oper) (H hs : List Nat) (σ : St) (t : Nat) : List (Option SV) :=
  (List.range t).map fun i => bif skipB ops H hs i then none else (dstAt ops i).bind (lk σ.t)
def stageB (ops : Array Oper) (H hs : List Nat) (σ : St) (t : Nat) : Bool :=
  (List.range t).all fun i => memB H i || (match dstAt ops i with
    | some d => match lk σ.t d with
      | some _ => Nat.blt d σ.m
      | none => (depAt ops i).any fun j => memB hs j || (!memB H j && match dstAt ops j with
        | some e => (lk σ.t e).isNone
        | none => false)
    | none => false)

structure Stage (P : Program) (C : Ctx P) (ops : Array Oper) (H : List Nat) (t : Nat) (hs : List Nat) (σ : St) (orc : List (Nat × SV)) : Prop where
  ok : stageB ops H hs σ t = true
  vals : fVals P ops H hs orc σ t = gVals ops H hs σ t
  orc : OrcAll P C ops σ orc

theorem Stage.op {ops : Array Oper} {H : List Nat} {t : Nat} {hs : List Nat} {orc : List (Nat × SV)} (h : Stage P C ops H t hs σ orc) {i d : Nat} {sv : SV} (hi : i < t) (hsk : skipB ops H hs i = false)
    (hd : dstAt ops i = some d) (hl : lk σ.t d = some sv) : d < σ.m ∧ OpTo P C ops σ i sv := by
  have hH : memB H i = false := by
    unfold skipB at hsk; simp only [Bool.or_eq_false_iff] at hsk; exact hsk.1
  constructor
  · have := List.all_eq_true.1 h.ok i (List.mem_range.2 hi)
    rw [hH, hd] at this
    simp only [hl, Bool.false_or] at this
    simpa [Nat.blt_eq] using this
  · have h1 := congrArg (fun l => l[i]?) h.vals
    simp only [fVals, gVals, List.getElem?_map, List.getElem?_range hi, Option.map_some, hsk, cond_false, hd, Option.bind_some, hl, Option.some.injEq] at h1
    cases ho : lk orc i with
    | some sv' =>
      rw [ho] at h1
      simp only [Option.some.injEq] at h1
      subst h1
      have hmem := lk_mem ho
      have : ∀ l : List (Nat × SV), OrcAll P C ops σ l → (i, sv') ∈ l → OpTo P C ops σ i sv' := by
        intro l
        induction l with
        | nil => intro _ h; cases h
        | cons p l ih =>
          rintro ⟨h2, h3⟩ h
          rcases List.mem_cons.1 h with rfl | h
          · exact h2
          · exact ih h3 h
      exact this orc h.orc hmem
    | none =>
      rw [ho] at h1
      exact OpTo.of_qval h1

/-- What is to be shown: the free operations give the same at each stage; the heavy ones, hs, come one behind the other. -/
def Hv (P : Program) (C : Ctx P) (ops : Array Oper) (H : List Nat) (t : Nat) (tail : List Item) : List Nat → St → Prop
  | [], σ => ∃ orc, Stage P C ops H t [] (fillF P ops H orc t 0 σ) orc ∧ SG P C (.inRegion ops (List.range' t (ops.size - t)) :: tail) (fillF P ops H orc t 0 σ)
  | h :: hs, σ => ∃ orc, Stage P C ops H t (h :: hs) (fillF P ops H orc t 0 σ) orc ∧ ∀ (rest : List Nat) (L : List (Nat × SV)),
      (∀ (σ1 : St) (sv : SV), Hv P C ops H t tail hs { σ1 with t := setT (dstAt ops h) sv (fillF P ops H orc t 0 σ).t } →
        SG P C (.inRegion ops rest :: tail) { σ1 with t := setT (dstAt ops h) sv ((restr (fillF P ops H orc t 0 σ) (keysAt ops h)).t ++ L) }) →
      SG P C (.inRegion ops (h :: rest) :: tail) { fillF P ops H orc t 0 σ with t := (restr (fillF P ops H orc t 0 σ) (keysAt ops h)).t ++ L }

theorem Hv.cons {ops : Array Oper} {H : List Nat} {t : Nat} {tail : List Item} {h : Nat} {hs : List Nat} (orc : List (Nat × SV)) (h1 : stageB ops H (h :: hs) (fillF P ops H orc t 0 σ) t = true)
    (h2 : fVals P ops H (h :: hs) orc (fillF P ops H orc t 0 σ) t = gVals ops H (h :: hs) (fillF P ops H orc t 0 σ) t) (h3 : OrcAll P C ops (fillF P ops H orc t 0 σ) orc)
    (h4 : ∀ (rest : List Nat) (L : List (Nat × SV)),
      (∀ (σ1 : St) (sv : SV), Hv P C ops H t tail hs { σ1 with t := setT (dstAt ops h) sv (fillF P ops H orc t 0 σ).t } →
        SG P C (.inRegion ops rest :: tail) { σ1 with t := setT (dstAt ops h) sv ((restr (fillF P ops H orc t 0 σ) (keysAt ops h)).t ++ L) }) →
      SG P C (.inRegion ops (h :: rest) :: tail) { fillF P ops H orc t 0 σ with t := (restr (fillF P ops H orc t 0 σ) (keysAt ops h)).t ++ L }) : Hv P C ops H t tail (h :: hs) σ :=
  ⟨orc, ⟨h1, h2, h3⟩, h4⟩
theorem Hv.nil {ops : Array Oper} {H : List Nat} {t : Nat} {tail : List Item} (orc : List (Nat × SV)) (h1 : stageB ops H [] (fillF P ops H orc t 0 σ) t = true)
    (h2 : fVals P ops H [] orc (fillF P ops H orc t 0 σ) t = gVals ops H [] (fillF P ops H orc t 0 σ) t) (h3 : OrcAll P C ops (fillF P ops H orc t 0 σ) orc)
    (h4 : SG P C (.inRegion ops (List.range' t (ops.size - t)) :: tail) (fillF P ops H orc t 0 σ)) : Hv P C ops H t tail [] σ :=
  ⟨orc, ⟨h1, h2, h3⟩, h4⟩

/-- A heavy operation is done. -/
theorem SG.done {ops : Array Oper} {H : List Nat} {t : Nat} {hs rest : List Nat} {tail : List Item} {d : Option Nat} {tl : List (Nat × SV)} {tf : List (Nat × SV)}
    (K : ∀ (σ1 : St) (sv : SV), Hv P C ops H t tail hs { σ1 with t := setT d sv tf } → SG P C (.inRegion ops rest :: tail) { σ1 with t := setT d sv tl }) (sv : SV)
    (hk : todo = .inRegion ops rest :: tail) (ht : σ.t = setT d sv tl) (hq : Hv P C ops H t tail hs { σ with t := setT d sv tf }) : SG P C todo σ := by
  have := K σ sv hq
  rw [← ht] at this
  rw [hk]
  exact this

def chainB (ops : Array Oper) : List Nat → Bool
  | [] => true
  | [_] => true
  | h :: h' :: hs => memB (depAt ops h') h && chainB ops (h' :: hs)

/-- May the first t operations be done in any order, H one behind the other? -/
def heavyB (ops : Array Oper) (H : List Nat) (t : Nat) : Bool :=
  Nat.ble t ops.size &&
  (List.range ops.size).all (fun i => (depAt ops i).all fun j => Nat.blt j i) &&
  (List.range t).all (fun i => (memB H i || (dstAt ops i).isSome) && (List.range t).all fun j => Nat.beq i j || (match dstAt ops i, dstAt ops j with | some a, some b => !Nat.beq a b | _, _ => true)) &&
  (List.range t).all (fun i => (keysAt ops i).all fun s => (List.range t).all fun j => match dstAt ops j with
    | some d => !(Nat.beq d s) || (depAt ops i).any (Nat.beq j)
    | none => true) &&
  (Nat.beq t ops.size ||
    ((List.range t).all (fun i => (List.range (t + 1)).any fun s => Nat.blt i s && (depAt ops s).any (Nat.beq i)) &&
     (List.range ops.size).all fun i => Nat.blt i t || Nat.ble ops.size (i + 1) || (depAt ops (i + 1)).any (Nat.beq i))) &&
  (chainB ops H && H.all fun h => Nat.blt h t)

structure HeavyF (ops : Array Oper) (H : List Nat) (t : Nat) : Prop where
  le : t ≤ ops.size
  lt : ∀ i, i < ops.size → ∀ j ∈ depAt ops i, j < i
  dst : ∀ i, i < t → i ∉ H → ∃ d, dstAt ops i = some d
  ne : ∀ i j d, i < t → j < t → dstAt ops i = some d → dstAt ops j = some d → i = j
  keys : ∀ i, i < t → ∀ s ∈ keysAt ops i, ∀ j, j < t → dstAt ops j = some s → j ∈ depAt ops i
  tail : t = ops.size ∨ ((∀ i, i < t → ∃ s, i < s ∧ s ≤ t ∧ i ∈ depAt ops s) ∧ ∀ i, t ≤ i → i + 1 < ops.size → i ∈ depAt ops (i + 1))
  chain : chainB ops H = true
  hlt : ∀ h ∈ H, h < t

theorem heavyF {ops : Array Oper} {H : List Nat} {t : Nat} (h : heavyB ops H t = true) : HeavyF ops H t := by
  unfold heavyB at h
  rw [Bool.and_eq_true] at h
  obtain ⟨h, h7⟩ := h
  simp only [Bool.and_eq_true, List.all_eq_true, List.mem_range, Bool.or_eq_true] at h h7
  obtain ⟨⟨⟨⟨h1, h2⟩, h3⟩, h4⟩, h5⟩ := h
  refine ⟨Nat.le_of_ble_eq_true h1, fun i hi j hj => by simpa [Nat.blt_eq] using h2 i hi j hj, fun i hi hn => ?_, ?_, ?_, ?_, h7.1, fun x hx => by simpa [Nat.blt_eq] using h7.2 x hx⟩
  · rcases (h3 i hi).1 with h6 | h6
    · exact absurd (memB_iff.1 h6) hn
    · exact Option.isSome_iff_exists.1 h6
  · intro i j d hi hj hdi hdj
    have := (h3 i hi).2 j hj
    rw [hdi, hdj] at this
    rcases this with h6 | h6
    · exact Nat.eq_of_beq_eq_true h6
    · simp at h6
  · intro i hi s hs j hj hd
    have := h4 i hi s hs j hj
    rw [hd] at this
    simp only [Bool.or_eq_true] at this
    rcases this with h6 | h6
    · simp at h6
    · exact any_mem h6
  · rcases h5 with h6 | ⟨h6, h7⟩
    · exact .inl (Nat.eq_of_beq_eq_true h6)
    · refine .inr ⟨fun i hi => ?_, fun i hi hi' => ?_⟩
      · obtain ⟨s, hs, hss⟩ := List.any_eq_true.1 (h6 i hi)
        simp only [Bool.and_eq_true, Nat.blt_eq] at hss
        simp only [List.mem_range] at hs
        exact ⟨s, hss.1, by omega, any_mem hss.2⟩
      · rcases h7 i (by omega) with (h8 | h8) | h8
        · simp only [Nat.blt_eq] at h8; omega
        · have := Nat.le_of_ble_eq_true h8; omega
        · exact any_mem h8

/-- Of a chain, who is ready is the first. -/
theorem chain_head {ops : Array Oper} : ∀ (hs : List Nat), chainB ops hs = true → ∀ (listed : Array Bool), (∀ h ∈ hs, listed.getD h false = false) → ∀ i ∈ hs, (∀ d ∈ depAt ops i, listed.getD d false = true) → ∃ l, hs = i :: l
  | [], _, _, _, i, hi, _ => by cases hi
  | [h], _, _, _, i, hi, _ => by simp at hi; subst hi; exact ⟨[], rfl⟩
  | h :: h' :: hs, hc, listed, hl, i, hi, hd => by
    rcases List.mem_cons.1 hi with rfl | hi'
    · exact ⟨_, rfl⟩
    · simp only [chainB, Bool.and_eq_true] at hc
      obtain ⟨l, hl'⟩ := chain_head (h' :: hs) hc.2 listed (fun x hx => hl x (List.mem_cons_of_mem _ hx)) i hi' hd
      have : i = h' := by simp at hl'; exact hl'.1.symm
      subst this
      have := hd h (memB_iff.1 hc.1)
      rw [hl h (by simp)] at this; cases this

theorem chain_tail {ops : Array Oper} {h : Nat} {hs : List Nat} (hc : chainB ops (h :: hs) = true) : chainB ops hs = true := by
  cases hs with
  | nil => rfl
  | cons h' hs => simp only [chainB, Bool.and_eq_true] at hc; exact hc.2

theorem lin_tail' {ops : Array Oper} {t : Nat} (hF : ∀ i, i < ops.size → ∀ j ∈ depAt ops i, j < i) (htail : ∀ i, t ≤ i → i + 1 < ops.size → i ∈ depAt ops (i + 1)) : ∀ (fuel i T : Nat) (listed : Array Bool), listed.size = ops.size → t ≤ i → i ≤ ops.size → ops.size ≤ fuel + i →
    (∀ j, j < ops.size → listed.getD j false = decide (j < i)) → Region.linearise.go .any ops fuel T listed [] = List.range' i (ops.size - i) := by
  intro fuel
  induction fuel with
  | zero =>
    intro i T listed _ _ hi hf _
    have : ops.size - i = 0 := by omega
    simp [Region.linearise.go, this]
  | succ fuel ih =>
    intro i T listed hsz hti hi hf hl
    simp only [Region.linearise.go]
    change (match (Region.ready .any ops listed)[T % (Region.ready .any ops listed).length]? with
      | some i => Region.linearise.go .any ops fuel (T / (Region.ready .any ops listed).length) (listed.setIfInBounds i true) [i]
      | none => [].reverse) = _
    have hone : ∀ j ∈ Region.ready .any ops listed, j = i := by
      intro j hj
      obtain ⟨h1, h2, h3⟩ := ready_iff.1 hj
      rw [getD_tf hsz h1, hl j h1] at h2
      have h2' : ¬ j < i := by simpa using h2
      by_cases e : j = i
      · exact e
      · obtain ⟨k, rfl⟩ : ∃ k, j = k + 1 := ⟨j - 1, by omega⟩
        have := h3 k (htail k (by omega) h1)
        rw [hl k (by omega)] at this
        have : k < i := by simpa using this
        omega
    by_cases e : i = ops.size
    · have hnil : Region.ready .any ops listed = [] := by
        cases hr : Region.ready .any ops listed with
        | nil => rfl
        | cons x xs =>
          have hx : x ∈ Region.ready .any ops listed := by rw [hr]; simp
          have h1 := hone x hx
          have h2 := (ready_iff.1 hx).1
          omega
      have h0 : ops.size - i = 0 := by omega
      simp [hnil, h0]
    · have hlt : i < ops.size := by omega
      have hmem : i ∈ Region.ready .any ops listed := by
        refine ready_iff.2 ⟨hlt, by rw [getD_tf hsz hlt, hl i hlt]; simp, fun d hd => ?_⟩
        have := hF i hlt d hd
        rw [hl d (by omega)]; simpa using this
      rw [rs_some (List.ne_nil_of_mem hmem) hone]
      simp only []
      rw [linearise_go_acc, List.reverse_singleton, List.singleton_append, ih (i + 1) _ _ (by simpa using hsz) (by omega) hlt (by omega) (by
        intro j hj
        rw [getD_set (by omega)]
        by_cases e' : i = j
        · subst e'; simp
        · rw [if_neg e', hl j hj]
          by_cases h : j < i
          · have : j < i + 1 := by omega
            simp [h, this]
          · have : ¬ j < i + 1 := by omega
            simp [h, this])]
      have : ops.size - i = (ops.size - (i + 1)) + 1 := by omega
      rw [this, List.range'_succ]

theorem lk_setT_ne {d : Option Nat} {sv : SV} {l : List (Nat × SV)} {s : Nat} (h : d ≠ some s) : lk (setT d sv l) s = lk l s := by
  cases d with
  | none => rfl
  | some d => simp only [setT, lk_cons]; rw [if_neg fun e => h (by rw [e])]

/-- Hv, the free ones filled in. -/
def HvF (P : Program) (C : Ctx P) (ops : Array Oper) (H : List Nat) (t : Nat) (tail : List Item) : List Nat → St → Prop
  | [], σ => (∃ orc, Stage P C ops H t [] σ orc) ∧ SG P C (.inRegion ops (List.range' t (ops.size - t)) :: tail) σ
  | h :: hs, σ => (∃ orc, Stage P C ops H t (h :: hs) σ orc) ∧ ∀ (rest : List Nat) (L : List (Nat × SV)),
      (∀ (σ1 : St) (sv : SV), Hv P C ops H t tail hs { σ1 with t := setT (dstAt ops h) sv σ.t } → SG P C (.inRegion ops rest :: tail) { σ1 with t := setT (dstAt ops h) sv ((restr σ (keysAt ops h)).t ++ L) }) →
      SG P C (.inRegion ops (h :: rest) :: tail) { σ with t := (restr σ (keysAt ops h)).t ++ L }
theorem Hv.out {ops : Array Oper} {H : List Nat} {t : Nat} {tail : List Item} : ∀ {hs : List Nat} {σ : St}, Hv P C ops H t tail hs σ → ∃ orc, HvF P C ops H t tail hs (fillF P ops H orc t 0 σ)
  | [], _, ⟨orc, h1, h2⟩ => ⟨orc, ⟨orc, h1⟩, h2⟩
  | _ :: _, _, ⟨orc, h1, h2⟩ => ⟨orc, ⟨orc, h1⟩, h2⟩
theorem HvF.stage {ops : Array Oper} {H : List Nat} {t : Nat} {tail : List Item} : ∀ {hs : List Nat} {σ : St}, HvF P C ops H t tail hs σ → ∃ orc, Stage P C ops H t hs σ orc
  | [], _, h => h.1
  | _ :: _, _, h => h.1

/-- Behind whatever order of the first t operations, of which H make memory, and then the others. -/
theorem SG.drawH (t : Nat) (H : List Nat) (hdraw : isDraw todo = true) (hP : P.follows .mixedOrders = true) (hfree : heavyB (drawOps todo) H t = true)
    (hv : Hv P C (drawOps todo) H t (tailOf todo) H σ) : SG P C todo σ := by
  obtain ⟨id, ops, k, rfl⟩ : ∃ id ops k, todo = .code (.region id ops true) :: k := by
    match todo, hdraw with
    | .code (.region id ops true) :: k, _ => exact ⟨id, ops, k, rfl⟩
  simp only [drawOps, tailOf] at *
  have hF := heavyF hfree
  have main : ∀ (fuel : Nat) (T : Nat) (listed : Array Bool) (hs pre : List Nat) (σ : St), HvF P C ops H t k hs σ → H = pre ++ hs → (∀ h ∈ pre, listed.getD h false = true) → (∀ h ∈ hs, listed.getD h false = false) →
      listed.size = ops.size → ops.size ≤ fuel + cnt ops.size listed → (∀ i, i < ops.size → listed.getD i false = true → ∀ j ∈ depAt ops i, listed.getD j false = true) →
      (∀ i, t ≤ i → i < ops.size → listed.getD i false = false) → (∀ i, i < t → listed.getD i false = true → ∀ d, dstAt ops i = some d → ∃ sv, lk σ.t d = some sv) →
      SG P C (.inRegion ops (Region.linearise.go .any ops fuel T listed []) :: k) (kn ops t σ listed) := by
    intro fuel
    induction fuel with
    | zero =>
      intro T listed hs pre σ hv hH hpre hhs hsz hcnt hdown htl hkn
      have hfull := cnt_full (listed := listed) ops.size (by have := cnt_le ops.size listed; omega)
      have ht : t = ops.size := by
        by_cases e : t < ops.size
        · have := htl t (Nat.le_refl _) e; rw [hfull t e] at this; cases this
        · have := hF.le; omega
      have hnil : hs = [] := by
        cases hs with
        | nil => rfl
        | cons h hs =>
          have h1 := hhs h (by simp)
          have h2 := hF.hlt h (by rw [hH]; simp)
          rw [hfull h (by omega)] at h1; cases h1
      subst hnil
      have h0 : ops.size - t = 0 := by omega
      have hg := hv.2
      rw [h0] at hg
      simp only [Region.linearise.go]
      exact SG.sub (σ := kn ops t σ listed) (t' := σ.t) (fun s sv h => kn_iff.2 ⟨h, fun j hj _ => hfull j (by omega)⟩) hg
    | succ fuel ih =>
      intro T listed hs pre σ hv hH hpre hhs hsz hcnt hdown htl hkn
      by_cases hall : ∀ i, i < t → listed.getD i false = true
      · have hnil : hs = [] := by
          cases hs with
          | nil => rfl
          | cons h hs =>
            have h1 := hhs h (by simp)
            have h2 := hF.hlt h (by rw [hH]; simp)
            rw [hall h h2] at h1; cases h1
        subst hnil
        have hex : ∀ j, j < ops.size → listed.getD j false = decide (j < t) := by
          intro j hj
          by_cases h : j < t
          · rw [hall j h]; simp [h]
          · rw [htl j (by omega) hj]; simp [h]
        have hc : cnt ops.size listed = t := by
          have : ∀ n, n ≤ ops.size → cnt n listed = min n t := by
            intro n
            induction n with
            | zero => intro _; simp [cnt]
            | succ n ihn =>
              intro hn
              have ih' := ihn (by omega)
              simp only [cnt] at ih' ⊢
              rw [List.range_succ, List.countP_append, ih', List.countP_singleton, hex n (by omega)]
              by_cases h : n < t
              · simp [h]; omega
              · simp [h]; omega
          rw [this ops.size (Nat.le_refl _)]
          have := hF.le; omega
        have hlin : Region.linearise.go .any ops (fuel + 1) T listed [] = List.range' t (ops.size - t) := by
          rcases hF.tail with ht | ⟨_, htail⟩
          · exact lin_tail' hF.lt (t := t) (fun i h1 h2 => by omega) (fuel + 1) t T listed hsz (Nat.le_refl _) hF.le (by omega) hex
          · exact lin_tail' hF.lt htail (fuel + 1) t T listed hsz (Nat.le_refl _) hF.le (by omega) hex
        rw [hlin]
        exact SG.sub (σ := kn ops t σ listed) (t' := σ.t) (fun s sv h => kn_iff.2 ⟨h, fun j hj _ => hall j hj⟩) hv.2
      · have hready : ∀ i ∈ Region.ready .any ops listed, i < t := by
          intro i hi
          obtain ⟨h1, h2, h3⟩ := ready_iff.1 hi
          by_cases h : i < t
          · exact h
          · exfalso
            rcases hF.tail with ht | ⟨hpre', htail⟩
            · omega
            · have hit : i = t := by
                by_cases e : i = t
                · exact e
                · obtain ⟨q, rfl⟩ : ∃ q, i = q + 1 := ⟨i - 1, by omega⟩
                  have h4 := h3 q (htail q (by omega) h1)
                  have h5 := htl q (by omega) (by omega)
                  rw [h4] at h5; cases h5
              subst hit
              apply hall
              have : ∀ m j, i - j = m → j < i → listed.getD j false = true := by
                intro m
                induction m using Nat.strongRecOn with
                | _ m ihm =>
                  intro j hm' hj
                  obtain ⟨s, hs1, hs2, hs3⟩ := hpre' j hj
                  by_cases e : s = i
                  · subst e; exact h3 j hs3
                  · have := ihm (i - s) (by omega) s rfl (by omega)
                    exact hdown s (by omega) this j hs3
              exact fun j hj => this _ j rfl hj
        have hex : ∃ i, i ∈ Region.ready .any ops listed := by
          have : ∃ i, i < t ∧ listed.getD i false = false := by
            refine Classical.byContradiction fun hn => hall fun i hi => ?_
            cases hb : listed.getD i false with
            | true => rfl
            | false => exact absurd ⟨i, hi, hb⟩ hn
          have least : ∀ m, (∃ i, i < m ∧ i < t ∧ listed.getD i false = false) → ∃ i, i < t ∧ listed.getD i false = false ∧ ∀ j, j < i → listed.getD j false = true := by
            intro m
            induction m with
            | zero => rintro ⟨i, h, _⟩; omega
            | succ m ihm =>
              rintro ⟨i, h1, h2, h3⟩
              by_cases h : ∃ i, i < m ∧ i < t ∧ listed.getD i false = false
              · exact ihm h
              · refine ⟨i, h2, h3, fun j hj => ?_⟩
                cases hb : listed.getD j false with
                | true => rfl
                | false => exact absurd ⟨j, by omega, by omega, hb⟩ h
          obtain ⟨i, h1, h2⟩ := this
          obtain ⟨i, h1, h2, h3⟩ := least (i + 1) ⟨i, by omega, h1, h2⟩
          have hi : i < ops.size := by have := hF.le; omega
          exact ⟨i, ready_iff.2 ⟨hi, by rw [getD_tf hsz hi]; exact h2, fun d hd => h3 d (hF.lt i hi d hd)⟩⟩
        simp only [Region.linearise.go]
        change SG P C (.inRegion ops (match (Region.ready .any ops listed)[T % (Region.ready .any ops listed).length]? with
          | some i => Region.linearise.go .any ops fuel (T / (Region.ready .any ops listed).length) (listed.setIfInBounds i true) [i]
          | none => [].reverse) :: k) (kn ops t σ listed)
        obtain ⟨i0, hi0⟩ := hex
        have hl : 0 < (Region.ready .any ops listed).length := List.length_pos_of_mem hi0
        have hlt : T % (Region.ready .any ops listed).length < (Region.ready .any ops listed).length := Nat.mod_lt _ hl
        rw [List.getElem?_eq_getElem hlt]
        simp only []
        generalize hi : (Region.ready .any ops listed)[T % (Region.ready .any ops listed).length] = i
        have hmem : i ∈ Region.ready .any ops listed := by rw [← hi]; exact List.getElem_mem hlt
        have hit := hready i hmem
        obtain ⟨h1, h2, h3⟩ := ready_iff.1 hmem
        rw [getD_tf hsz h1] at h2
        rw [linearise_go_acc, List.reverse_singleton, List.singleton_append]
        have hsz' : (listed.setIfInBounds i true).size = ops.size := by simpa using hsz
        have hcnt' : ops.size ≤ fuel + cnt ops.size (listed.setIfInBounds i true) := by rw [cnt_set (by omega) h2, if_pos h1]; omega
        have hdown' : ∀ j, j < ops.size → (listed.setIfInBounds i true).getD j false = true → ∀ q ∈ depAt ops j, (listed.setIfInBounds i true).getD q false = true := by
          intro j hj hjl q hq
          rw [getD_set (by omega)] at hjl ⊢
          by_cases e : i = q
          · simp [e]
          · rw [if_neg e]
            by_cases e' : i = j
            · subst e'; exact h3 q hq
            · rw [if_neg e'] at hjl; exact hdown j hj hjl q hq
        have htl' : ∀ j, t ≤ j → j < ops.size → (listed.setIfInBounds i true).getD j false = false := by
          intro j hj hj'
          rw [getD_set (by omega), if_neg (by omega)]
          exact htl j hj hj'
        -- what stands in the slots at which it looks
        have hkeys : ∀ s sv, lk (restr σ (keysAt ops i)).t s = some sv → lk (kn ops t σ listed).t s = some sv := by
          intro s sv hs
          obtain ⟨h4, h5⟩ := lk_restr σ _ s sv hs
          exact kn_iff.2 ⟨h4, fun j hj hdj => h3 j (hF.keys i hit s h5 j hj hdj)⟩
        by_cases hiH : i ∈ H
        · have his : i ∈ hs := by
            rw [hH] at hiH
            rcases List.mem_append.1 hiH with h4 | h4
            · rw [hpre i h4] at h2; cases h2
            · exact h4
          have hch : chainB ops hs = true := by
            have : ∀ pre, chainB ops (pre ++ hs) = true → chainB ops hs = true := by
              intro pre
              induction pre with
              | nil => exact fun h => h
              | cons x pre ihp => exact fun h => ihp (chain_tail h)
            exact this pre (hH ▸ hF.chain)
          obtain ⟨l, rfl⟩ := chain_head hs hch listed hhs i his h3
          obtain ⟨_, hvk⟩ := hv
          have hnd : i ∉ l := by
            intro hm
            cases l with
            | nil => cases hm
            | cons h' l =>
              simp only [chainB, Bool.and_eq_true] at hch
              have hm' := memB_iff.1 hch.1
              have hlt2 : i < h' := hF.lt h' (by have := hF.hlt h' (by rw [hH]; simp); have := hF.le; omega) i hm'
              -- along the chain the numbers grow
              have grow : ∀ (l : List Nat) (x : Nat), chainB ops (x :: l) = true → (∀ y ∈ x :: l, y < ops.size) → ∀ y ∈ l, x < y := by
                intro l
                induction l with
                | nil => intro x _ _ y hy; cases hy
                | cons z l ihl =>
                  intro x hc hb y hy
                  simp only [chainB, Bool.and_eq_true] at hc
                  have hxz := hF.lt z (hb z (by simp)) x (memB_iff.1 hc.1)
                  rcases List.mem_cons.1 hy with rfl | hy
                  · exact hxz
                  · have := ihl z hc.2 (fun q hq => hb q (List.mem_cons_of_mem _ hq)) y hy; omega
              have := grow (h' :: l) i (by simp only [chainB, Bool.and_eq_true]; exact hch) (fun y hy => by have := hF.hlt y (by rw [hH]; exact List.mem_append_right _ hy); have := hF.le; omega) i hm
              omega
          refine SG.sub (σ := kn ops t σ listed) (t' := (restr σ (keysAt ops i)).t ++ (kn ops t σ listed).t) ?_ (hvk _ _ ?_)
          · intro s sv hs
            rw [lk_append] at hs
            cases hk : lk (restr σ (keysAt ops i)).t s with
            | some x => rw [hk] at hs; cases hs; exact hkeys s _ hk
            | none => rw [hk] at hs; exact hs
          · intro σ1 sv hv1
            obtain ⟨orc1, hv1⟩ := hv1.out
            obtain ⟨f1, f2, f3, f4, f5, f6⟩ := fillF_spec (P := P) (ops := ops) (H := H) orc1 t 0 { σ1 with t := setT (dstAt ops i) sv σ.t }
            have hkn' : ∀ j, j < t → (listed.setIfInBounds i true).getD j false = true → ∀ d, dstAt ops j = some d → ∃ sv', lk (setT (dstAt ops i) sv σ.t) d = some sv' ∧ (j ≠ i → lk σ.t d = some sv') := by
              intro j hj hlj d hd
              by_cases e : i = j
              · subst e
                exact ⟨sv, by simp [hd, setT, lk_cons], fun h => absurd rfl h⟩
              · rw [getD_set (by omega), if_neg e] at hlj
                obtain ⟨sv', hsv'⟩ := hkn j hj hlj d hd
                exact ⟨sv', by rw [lk_setT_ne fun hh => e (hF.ne i j d hit hj hh hd)]; exact hsv', fun _ => hsv'⟩
            have hih := ih (T / (Region.ready .any ops listed).length) (listed.setIfInBounds i true) l (pre ++ [i]) _ hv1 (by rw [hH]; simp) (by
                intro h hh
                rw [getD_set (by omega)]
                rcases List.mem_append.1 hh with h4 | h4
                · split
                  · rfl
                  · exact hpre h h4
                · simp only [List.mem_singleton] at h4; simp [h4]) (by
                intro h hh
                have : i ≠ h := fun e => hnd (e ▸ hh)
                rw [getD_set (by omega), if_neg this]
                exact hhs h (List.mem_cons_of_mem _ hh)) hsz' hcnt' hdown' htl' (by
                intro j hj hlj d hd
                obtain ⟨sv', h4, _⟩ := hkn' j hj hlj d hd
                exact ⟨sv', f5 d sv' h4⟩)
            have hst : ({ kn ops t (fillF P ops H orc1 t 0 { σ1 with t := setT (dstAt ops i) sv σ.t }) (listed.setIfInBounds i true) with t := (kn ops t (fillF P ops H orc1 t 0 { σ1 with t := setT (dstAt ops i) sv σ.t }) (listed.setIfInBounds i true)).t } : St) =
                { σ1 with t := (kn ops t (fillF P ops H orc1 t 0 { σ1 with t := setT (dstAt ops i) sv σ.t }) (listed.setIfInBounds i true)).t } := by
              simp only [kn, f1, f2, f3, f4]
            refine SG.sub (t' := (kn ops t (fillF P ops H orc1 t 0 { σ1 with t := setT (dstAt ops i) sv σ.t }) (listed.setIfInBounds i true)).t) ?_ (by
              show SG P C _ { σ1 with t := _ }
              rw [← hst]; exact hih)
            intro s x hs
            obtain ⟨hs1, hs2⟩ := kn_iff.1 hs
            by_cases hw : ∃ j, j < t ∧ dstAt ops j = some s
            · obtain ⟨j, hj, hdj⟩ := hw
              obtain ⟨sv', h4, h5⟩ := hkn' j hj (hs2 j hj hdj) s hdj
              have h6 := f5 s sv' h4
              rw [hs1] at h6
              cases h6
              by_cases e : i = j
              · subst e
                rw [hdj] at h4 ⊢
                simpa [setT, lk_cons] using h4
              · rw [lk_setT_ne fun hh => e (hF.ne i j s hit hj hh hdj), lk_append]
                have h7 := h5 (fun e' => e e'.symm)
                have h8 : lk (kn ops t σ listed).t s = some x := kn_iff.2 ⟨h7, fun q hq hdq => by
                  have := hs2 q hq hdq
                  rw [getD_set (by omega)] at this
                  have hqj := hF.ne q j s hq hj hdq hdj
                  rw [if_neg (by rw [hqj]; exact e)] at this
                  exact this⟩
                cases hk : lk (restr σ (keysAt ops i)).t s with
                | some y =>
                  have := hkeys s y hk
                  rw [h8] at this; exact this.symm ▸ rfl
                | none => exact h8
            · have hw' : ∀ j, j < t → dstAt ops j ≠ some s := fun j hj hd => hw ⟨j, hj, hd⟩
              rw [f6 s fun j _ hj => hw' j (by omega)] at hs1
              rw [lk_setT_ne (hw' i hit)] at hs1 ⊢
              rw [lk_append]
              have h8 : lk (kn ops t σ listed).t s = some x := kn_iff.2 ⟨hs1, fun q hq hdq => absurd hdq (hw' q hq)⟩
              cases hk : lk (restr σ (keysAt ops i)).t s with
              | some y =>
                have := hkeys s y hk
                rw [h8] at this; exact this.symm ▸ rfl
              | none => exact h8
        · obtain ⟨orc, hstage⟩ := hv.stage
          obtain ⟨d, hd⟩ := hF.dst i hit hiH
          have hiB : memB H i = false := by
            rw [← Bool.not_eq_true]; exact fun h => hiH (memB_iff.1 h)
          have hsome : ∃ sv, lk σ.t d = some sv := by
            have hok := List.all_eq_true.1 hstage.ok i (List.mem_range.2 hit)
            rw [hiB, hd] at hok
            simp only [Bool.false_or] at hok
            cases hl : lk σ.t d with
            | some sv => exact ⟨sv, rfl⟩
            | none =>
              rw [hl] at hok
              obtain ⟨j, hj, hjj⟩ := List.any_eq_true.1 hok
              have hjl := h3 j hj
              simp only [Bool.or_eq_true, Bool.and_eq_true, Bool.not_eq_true'] at hjj
              rcases hjj with h4 | ⟨h4, h5⟩
              · rw [hhs j (memB_iff.1 h4)] at hjl; cases hjl
              · cases hdj : dstAt ops j with
                | none => rw [hdj] at h5; simp at h5
                | some e =>
                  rw [hdj] at h5
                  have hjt : j < t := by have := hF.lt i h1 j hj; omega
                  obtain ⟨sv, hsv⟩ := hkn j hjt hjl e hdj
                  simp [hsv] at h5
          obtain ⟨sv, hlk⟩ := hsome
          have hsk : skipB ops H hs i = false := by
            rw [← Bool.not_eq_true]
            intro h
            unfold skipB at h
            rw [hiB, Bool.false_or] at h
            obtain ⟨x, hx, hxx⟩ := List.any_eq_true.1 h
            simp only [Bool.and_eq_true, Bool.not_eq_true'] at hxx
            have hxp : x ∈ pre := by
              rw [hH] at hx
              rcases List.mem_append.1 hx with h4 | h4
              · exact h4
              · rw [memB_iff.2 h4] at hxx; cases hxx.1
            have hxt := hF.hlt x hx
            have := hdown x (by have := hF.le; omega) (hpre x hxp) i (memB_iff.1 hxx.2)
            rw [this] at h2; cases h2
          obtain ⟨hdm, hopt⟩ := hstage.op hit hsk hd hlk
          have hih := ih (T / (Region.ready .any ops listed).length) (listed.setIfInBounds i true) hs pre σ hv hH (by
              intro h hh
              rw [getD_set (by omega)]
              split
              · rfl
              · exact hpre h hh) (by
              intro h hh
              have : i ≠ h := fun e => hiH (by rw [hH, e]; exact List.mem_append_right _ hh)
              rw [getD_set (by omega), if_neg this]
              exact hhs h hh) hsz' hcnt' hdown' htl' (by
              intro j hj hlj e he
              by_cases ee : i = j
              · subst ee
                rw [hd] at he; cases he; exact ⟨sv, hlk⟩
              · rw [getD_set (by omega), if_neg ee] at hlj
                exact hkn j hj hlj e he)
          intro a w hR cs
          have hRi : Real C.K (restr σ (keysAt ops i)) a w := { hR with slots := fun s x hs => hR.slots s x (hkeys s x hs) }
          obtain ⟨w', hu, hok, hst⟩ := hopt a w hRi C.b (Region.linearise.go .any ops fuel (T / (Region.ready .any ops listed).length) (listed.setIfInBounds i true) []) k cs
          refine C.clos _ _ _ hst ?_
          rw [hd]
          refine hih _ w' ?_ cs
          have hR1 : Real C.K (kn ops t σ listed) a w' := hR.more hu
          have hsize := hR1.size
          refine { hR1 with size := by simpa [Act.put, kn] using hsize, slots := ?_, defers := hR1.defers }
          intro s x hs
          obtain ⟨hs1, hs2⟩ := kn_iff.1 hs
          by_cases e : d = s
          · subst e
            rw [hlk] at hs1
            cases hs1
            have : d < a.tmps.size := by rw [hsize]; exact hdm
            exact ⟨by simp [Act.put, this, kn], hok⟩
          · obtain ⟨h4, h5⟩ := hR1.slots s x (kn_iff.2 ⟨hs1, fun j hj hdj => by
              have := hs2 j hj hdj
              have hne : i ≠ j := by
                intro e'; subst e'
                rw [hd] at hdj; exact e (by simpa using hdj)
              rw [getD_set (by omega), if_neg hne] at this
              exact this⟩)
            exact ⟨by simp only [Act.put]; simpa [e, kn] using h4, h5⟩
  obtain ⟨orc0, hv0⟩ := hv.out
  obtain ⟨f1, f2, f3, f4, f5, f6⟩ := fillF_spec (P := P) (ops := ops) (H := H) orc0 t 0 σ
  intro a w hR cs
  refine C.clos _ _ _ (.one m_draw) ?_
  have hsch : ∀ T, Region.schedule (P.follows .mixedOrders) ops T = Region.linearise.go .any ops ops.size T (Array.replicate ops.size false) [] := by
    intro T; simp [Region.schedule, hP, Region.linearise]
  rw [hsch]
  have hrep : ∀ i, (Array.replicate ops.size false).getD i false = false := by
    intro i
    simp only [Array.getD_eq_getD_getElem?, Array.getElem?_replicate]
    split <;> rfl
  have hd0 := hR.draw (w.drawn + 1)
  refine main ops.size _ (Array.replicate ops.size false) H [] _ hv0 rfl (by simp) (fun h _ => hrep h) (by simp) (by omega) (fun i _ h => by rw [hrep] at h; cases h) (fun i _ _ => hrep i) (fun i _ h => by rw [hrep] at h; cases h) a _ ?_ cs
  have e : ({ kn ops t (fillF P ops H orc0 t 0 σ) (Array.replicate ops.size false) with t := [] } : St) = { σ with t := [] } := by simp only [kn, f1, f2, f3, f4]
  have hb : Real C.K ({ kn ops t (fillF P ops H orc0 t 0 σ) (Array.replicate ops.size false) with t := [] } : St) a { w with drawn := w.drawn + 1 } := by rw [e]; exact hd0.bare
  refine { hb with slots := ?_ }
  intro s sv hs
  obtain ⟨hs1, hs2⟩ := kn_iff.1 hs
  have hno : ∀ j, 0 ≤ j → j < 0 + t → dstAt ops j ≠ some s := by
    intro j _ hj he
    have := hs2 j (by omega) he
    rw [hrep] at this; cases this
  rw [f6 s hno] at hs1
  have := hd0.slots s sv hs1
  simp only [kn, f1, f3]
  exact this

end
end Go.Sx
