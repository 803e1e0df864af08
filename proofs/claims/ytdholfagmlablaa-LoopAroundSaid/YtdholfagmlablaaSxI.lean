/- Walking Go's text by symbolic states: slices. -/
import Derived.Test.YtdholfagmlablaaSxH
import Derived.Maps.AppendAt
namespace Go.Sx

/-! ### rows of elements -/
/-- A slice of elements of sz cells, read at a world. -/
def SeqAt (w : World) (A : Option Addr) (cap sz : Nat) (xs : List (List Value)) : Prop :=
  xs.length ≤ cap ∧ (∀ x ∈ xs, x.length = sz) ∧ ((A = none ∧ xs = []) ∨ ∃ ad, A = some ad ∧ ∀ j u, xs.flatten[j]? = some u → w.cell? (ad.add j) = some u)

theorem flatten_at {sz : Nat} : ∀ {xs : List (List Value)}, (∀ x ∈ xs, x.length = sz) → ∀ {k : Nat} {x : List Value}, xs[k]? = some x → ∀ {j : Nat} {u : Value}, x[j]? = some u → xs.flatten[k * sz + j]? = some u
  | [], _, k, x, hk, _, _, _ => by simp at hk
  | y :: xs, h, 0, x, hk, j, u, hj => by
    simp only [List.getElem?_cons_zero, Option.some.injEq] at hk
    subst hk
    rw [List.flatten_cons, Nat.zero_mul, Nat.zero_add, List.getElem?_append_left (List.getElem?_eq_some_iff.1 hj).1]
    exact hj
  | y :: xs, h, k + 1, x, hk, j, u, hj => by
    have hy : y.length = sz := h y (by simp)
    rw [List.flatten_cons, List.getElem?_append_right (by rw [hy, Nat.add_mul]; omega)]
    have := flatten_at (xs := xs) (fun z hz => h z (by simp [hz])) (k := k) (x := x) (by simpa using hk) hj
    rw [← this]
    congr 1
    rw [hy, Nat.add_mul]; omega

theorem flatten_len {sz : Nat} : ∀ {xs : List (List Value)}, (∀ x ∈ xs, x.length = sz) → xs.flatten.length = xs.length * sz
  | [], _ => by simp
  | y :: xs, h => by
    rw [List.flatten_cons, List.length_append, h y (by simp), flatten_len fun z hz => h z (by simp [hz]), List.length_cons, Nat.add_mul]; omega

theorem addr_add_add (a : Addr) (i j : Nat) : (a.add i).add j = a.add (i + j) := by
  unfold Addr.add
  by_cases hi : i = 0 <;> by_cases hj : j = 0 <;> simp [hi, hj, Nat.add_assoc]

/-- A row of one's own, which may grow. -/
def rowC (e : TypeId) (sz : Nat) (A : Option Addr) (cap : Nat) (xs : List (List Value)) : Chunk where
  fp := fun b => (Value.slice A xs.length cap).ownBlock = some b
  holds := fun w => w.ownsRow 0 e sz (.slice A xs.length cap) xs.length xs.flatten ∧ ∀ x ∈ xs, x.length = sz
  loc := fun w w' hk ⟨⟨h1, h2⟩, h3⟩ => by
    refine ⟨⟨h1, ?_⟩, h3⟩
    rcases h2 with h2 | ⟨g, c, cur, h4, h5, h6, h7⟩
    · exact .inl h2
    · refine .inr ⟨g, c, cur, h4, h5, ?_, h7⟩
      rw [hk g (by rw [h4]; rfl)]; exact h6
  lt := fun w ⟨h, _⟩ b hb => (h.lt b hb).2

theorem seq_row {w : World} {e sz cap : Nat} {A : Option Addr} {xs : List (List Value)} (h : (rowC e sz A cap xs).holds w) : SeqAt w A cap sz xs := by
  obtain ⟨hown, h3⟩ := h
  have hown' := hown
  obtain ⟨h1, h2⟩ := hown
  rcases h2 with ⟨h4, h5⟩ | ⟨g, c, cur, h4, _, h6, h7, _, _, h8⟩
  · injection h4 with ha _ hc
    have : xs = [] := List.eq_nil_of_length_eq_zero h5
    subst this
    exact ⟨by simp, h3, .inl ⟨ha, rfl⟩⟩
  · injection h4 with ha _ hc
    subst hc
    refine ⟨h7, h3, .inr ⟨⟨g, 0, none⟩, ha, ?_⟩⟩
    exact hown'.cells (g := g) (by rw [ha]; rfl)

/-- A row that is read alone. -/
def seqC (A : Option Addr) (cap sz : Nat) (xs : List (List Value)) : Chunk where
  fp := fun b => xs.flatten ≠ [] ∧ ∃ ad, A = some ad ∧ b = ad.block
  holds := fun w => SeqAt w A cap sz xs
  loc := fun w w' hk ⟨h1, h2, h3⟩ => by
    refine ⟨h1, h2, ?_⟩
    rcases h3 with h3 | ⟨ad, ha, hc⟩
    · exact .inl h3
    · refine .inr ⟨ad, ha, fun j u hj => ?_⟩
      have hb : (ad.add j).block = ad.block := by unfold Addr.add; split <;> rfl
      have hne : xs.flatten ≠ [] := by intro e; rw [e] at hj; simp at hj
      rw [World.cell?_of_block (w := w) (w' := w') (by rw [hb]; exact hk _ ⟨hne, ad, ha, rfl⟩)]
      exact hc j u hj
  lt := fun w ⟨_, _, h3⟩ b ⟨hne, ad, ha, hb⟩ => by
    rcases h3 with ⟨hn, _⟩ | ⟨ad', ha', hc⟩
    · rw [ha] at hn; cases hn
    · rw [ha] at ha'
      cases ha'
      subst hb
      cases hf : xs.flatten with
      | nil => exact absurd hf hne
      | cons u l =>
        have := World.block_lt_of_cell? _ _ (hc 0 u (by rw [hf]; rfl))
        simpa [Addr.add] using this

theorem seq_cells {w : World} {b : Nat} {vs : List Value} {T sz : Nat} {xs : List (List Value)} (h : (cellsC b vs T).holds w) (hx : ∀ x ∈ xs, x.length = sz) (hf : xs.flatten = vs) : SeqAt w (some ⟨b, 0, none⟩) xs.length sz xs := by
  refine ⟨Nat.le_refl _, hx, .inr ⟨_, rfl, fun j u hj => ?_⟩⟩
  rw [hf] at hj
  rw [addr_add, Nat.zero_add, cell_of h]
  simpa using hj

/-- A new row of one's own out of a block that was just made. -/
theorem row_of_cells {w : World} {b : Nat} {vs : List Value} {T sz : Nat} {xs : List (List Value)} (h : (cellsC b vs T).holds w) (hx : ∀ x ∈ xs, x.length = sz) (hf : xs.flatten = vs) (hm : xs.length ≤ maxLen) :
    (rowC T sz (some ⟨b, 0, none⟩) xs.length xs).holds w := by
  refine ⟨⟨flatten_len hx, .inr ⟨b, xs.length, vs.toArray, rfl, Nat.zero_le _, h, Nat.le_refl _, hm, by simp only [List.size_toArray, ← hf, flatten_len hx], by
    simp only [← hf]; exact List.take_of_length_le (by rw [flatten_len hx]; exact Nat.le_refl _)⟩⟩, hx⟩
theorem row_nil (w : World) (T sz : Nat) : (rowC T sz none 0 []).holds w := ⟨World.ownsRow_nil w 0 T sz, by simp⟩

/-! ### reading an element -/
def idxAt (σ : St) (todo : List Item) : Option (TypeId × Value × Value) :=
  match (theOp todo).op with
  | .indexAddr t x i => some (t, rhoOf σ x, rhoOf σ i)
  | _ => none
def ldAt (σ : St) (todo : List Item) : Option (TypeId × Value) :=
  match (theOp todo).op with
  | .load t x => some (t, rhoOf σ x)
  | _ => none
/-- A slice type's element: its type, its cells, its bytes. -/
def elemP (P : Program) (T : TypeId) : Option (TypeId × Nat × Nat) :=
  match P.underlying T with
  | some (.slice e) => match P.info? e with
    | some i => match i.zero with
      | some z => bif Nat.beq z.cells.size i.size && Nat.blt 0 i.size && Nat.blt 0 i.bytes then some (e, i.size, i.bytes) else none
      | none => none
    | none => none
  | _ => none

theorem elemP_spec {P : Program} {T e sz bytes : Nat} (h : elemP P T = some (e, sz, bytes)) : P.underlying T = some (.slice e) ∧ ∃ i z, P.info? e = some i ∧ i.zero = some z ∧ i.size = sz ∧ i.bytes = bytes ∧ z.cells.size = sz ∧ 0 < sz ∧ 0 < bytes := by
  unfold elemP at h
  split at h
  · rename_i e' hu
    split at h
    · rename_i i hi
      split at h
      · rename_i z hz
        cases hb : (Nat.beq z.cells.size i.size && Nat.blt 0 i.size && Nat.blt 0 i.bytes) with
        | false => rw [hb, cond_false] at h; cases h
        | true =>
          rw [hb, cond_true] at h
          cases h
          simp only [Bool.and_eq_true, Nat.blt_eq] at hb
          exact ⟨hu, i, z, hi, hz, rfl, rfl, Nat.eq_of_beq_eq_true hb.1.1, hb.1.2, hb.2⟩
      · cases h
    · cases h
  · cases h

section
variable {P : Program} {C : Ctx P} {σ : St} {todo : List Item}

/-- A piece that holds wherever the state does. -/
def Has (C : Ctx P) (σ : St) (c : Chunk) : Prop := ∀ a w, Real C.K { σ with t := [] } a w → c.holds w
theorem Real.bare {K : Kx} {a : Act} {w : World} (h : Real K σ a w) : Real K { σ with t := [] } a w := { h with slots := fun i sv hi => by simp [lk] at hi }
theorem Has.at_ (i : Nat) : Has C σ (chunkAt σ i) := fun _ _ hR => (hR.at_ i).1
theorem Has.ro (k : Nat) (hk : Nat.blt k C.K.ro.length = true) : Has C σ (C.K.ro.getD k noC) := fun _ _ hR => by
  have hlt : k < C.K.ro.length := by simpa [Nat.blt_eq] using hk
  refine hR.ro ?_
  rw [List.getD_eq_getElem?_getD, List.getElem?_eq_getElem hlt]; exact List.getElem_mem hlt
theorem Has.at' (i : Nat) {c : Chunk} (h : chunkAt σ i = c) : Has C σ c := h ▸ Has.at_ i
theorem Has.ro' (k : Nat) {c : Chunk} (hk : Nat.blt k C.K.ro.length = true) (h : C.K.ro.getD k noC = c) : Has C σ c := h ▸ Has.ro k hk
theorem Has.of {c c' : Chunk} (h : Has C σ c) (hc : ∀ w, c.holds w → c'.holds w) : Has C σ c' := fun a w hR => hc w (h a w hR)

/-- 's[k]', as an address. -/
theorem SG.index (T : TypeId) (e sz bytes : Nat) (ad : Addr) (n cap : Nat) (kk : IntKind) (x : Int) (k : Nat) (hop : idxAt σ todo = some (T, .slice (some ad) n cap, .int kk x)) (hT : elemP P T = some (e, sz, bytes)) (hk : x = k) (hlt : k < n)
    (hr : opReady σ todo = true) (hd : dstOk σ todo = true) (h : SG P C (nextOf todo) (setD σ (dstOf todo) (.v (.pointer (some (ad.add (k * sz))))))) : SG P C todo σ := by
  refine SG.opv _ hr hd (fun a w _ => ?_) h
  obtain ⟨hu, i, z, hi, _, hs, _, _, _, _⟩ := elemP_spec hT
  unfold idxAt at hop
  split at hop
  · rename_i t x' i' ho
    simp only [Option.some.injEq, Prod.mk.injEq] at hop
    obtain ⟨rfl, h1, h2⟩ := hop
    subst hk
    have hlt' : (0 : Int) ≤ (k : Int) ∧ (k : Int) < (n : Int) := by constructor <;> omega
    simp [semAt, execOp, ho, h1, h2, Instr.indexAt, asIntOf, run_underlying hu, hlt, sizeOf, typeInfo, hi, hs]
  · cases hop

/-- A load of which the cells are known. -/
theorem SG.load (T : TypeId) (ag : Bool) (p : Addr) (x : List Value) (hop : ldAt σ todo = some (T, .pointer (some p))) (hT : aggT P T = some (ag, x.length)) (v : Value) (hv : v = if ag then .agg x.toArray else x.getD 0 undef) (h1 : ag = false → x.length = 1)
    (hc : ∀ a w, Real C.K σ a w → ∀ j u, x[j]? = some u → w.cell? (p.add j) = some u)
    (hr : opReady σ todo = true) (hd : dstOk σ todo = true) (h : SG P C (nextOf todo) (setD σ (dstOf todo) (.v v))) : SG P C todo σ := by
  refine SG.opv _ hr hd (fun a w hR => ?_) h
  obtain ⟨ha, hs⟩ := aggT_spec hT
  have hcell := hc a w hR
  have hloads : ∀ (n i : Nat) (acc : Array Value), i + n = x.length → (loadCellsFrom p i n acc).run P w = .ok (acc ++ (x.drop i).toArray) w := by
    intro n
    induction n with
    | zero => intro i acc hn; have : x.drop i = [] := List.drop_eq_nil_of_le (by omega); simp [loadCellsFrom, this]
    | succ n ih =>
      intro i acc hn
      have hi : i < x.length := by omega
      have hci := hcell i x[i] (List.getElem?_eq_getElem hi)
      simp only [loadCellsFrom, Sem.run_bind, run_load, hci, Result.andThen_ok, ih (i + 1) _ (by omega)]
      rw [List.drop_eq_getElem_cons hi]
      simp
  unfold ldAt at hop
  split at hop
  · rename_i t x' ho
    simp only [Option.some.injEq, Prod.mk.injEq] at hop
    obtain ⟨rfl, hp⟩ := hop
    cases ag with
    | true =>
      have hl := hloads x.length 0 #[] (by omega)
      simp [semAt, execOp, ho, hp, Instr.loadAt, Instr.sureAddr, loadVar, ha, hs, loadCells, hl, hv]
    | false =>
      have hx := h1 rfl
      have h0 : x[0]? = some (x.getD 0 undef) := by rw [List.getD_eq_getElem?_getD, List.getElem?_eq_getElem (by omega)]; rfl
      have hc0 := hcell 0 _ h0
      have hp0 : p.add 0 = p := by simp [Addr.add]
      rw [hp0] at hc0
      simp only [semAt, execOp, ho, hp, Instr.loadAt, Instr.sureAddr, pure_bind, loadVar, Sem.run_bind, ha, Result.andThen_ok, Bool.false_eq_true, if_false, run_load, hc0, Sem.run_pure, hv]
  · cases hop

/-- 's[k]', loaded: the address, then the cells. i: the row's piece. -/
theorem SG.elem (c : Chunk) (hc : Has C σ c) (T e sz bytes U : TypeId) (ag : Bool) (A : Option Addr) (n cap : Nat) (kk : IntKind) (z : Int) (k : Nat) (xs : List (List Value)) (x : List Value)
    (hseq : ∀ w, c.holds w → SeqAt w A cap sz xs) (hn : xs.length = n) (hx : xs[k]? = some x) (hk : z = k)
    (hop : idxAt σ todo = some (T, .slice A n cap, .int kk z)) (hT : elemP P T = some (e, sz, bytes)) (hr : opReady σ todo = true) (hd : dstOk σ todo = true)
    (d : Nat) (hdd : dstOf todo = some d) (hop2 : ∀ v, ldAt { σ with t := (d, .v v) :: σ.t } (nextOf todo) = some (U, v)) (hr2 : ∀ v, opReady { σ with t := (d, .v v) :: σ.t } (nextOf todo) = true) (hd2 : ∀ v, dstOk { σ with t := (d, .v v) :: σ.t } (nextOf todo) = true)
    (hU : aggT P U = some (ag, sz)) (v : Value) (hv : v = if ag then .agg x.toArray else x.getD 0 undef) (h1 : ag = false → sz = 1)
    (h : ∀ u, SG P C (nextOf (nextOf todo)) (setD { σ with t := (d, .v u) :: σ.t } (dstOf (nextOf todo)) (.v v))) : SG P C todo σ := by
  subst hn
  intro a w hR cs
  have hlt : k < xs.length := (List.getElem?_eq_some_iff.1 hx).1
  have hat := hseq w (hc a w hR.bare)
  obtain ⟨_, hlen, hcase⟩ := hat
  have hxl : x.length = sz := hlen x (List.mem_of_getElem? hx)
  rcases hcase with ⟨_, hnil⟩ | ⟨ad, rfl, _⟩
  · subst hnil; simp at hlt
  · refine SG.index T e sz bytes ad xs.length cap kk z k hop hT hk hlt hr hd ?_ a w hR cs
    rw [hdd]
    refine SG.load U ag (ad.add (k * sz)) x (hop2 _) (by rw [hxl]; exact hU) v hv (by rw [hxl]; exact h1) ?_ (hr2 _) (hd2 _) (h _)
    intro a' w' hR' j u hj
    rw [addr_add_add]
    obtain ⟨_, _, hcase'⟩ := hseq w' (hc a' w' hR'.bare)
    rcases hcase' with ⟨hn, _⟩ | ⟨ad', he, hcells⟩
    · cases hn
    · cases he
      exact hcells _ u (flatten_at hlen hx hj)

/-! ### append -/
def appAt (σ : St) (todo : List Item) : Option (TypeId × Value × Value) :=
  match (theOp todo).op with
  | .call c => match c.callee, c.args.toList, c.argTypes.toList with
    | .builtin .append, [s, x], [t, t'] => bif Nat.beq t t' then some (t, rhoOf σ s, rhoOf σ x) else none
    | _, _, _ => none
  | _ => none

theorem run_append_of_nil {w : World} (base : Nat) (t ty e : TypeId) (i : TypeInfo) (size : Nat) (ht : P.underlying t = some (.slice e)) (hi : P.info? e = some i)
    (v : Value) (n : Nat) (xs : List Value) (hown : w.ownsRow base e size v n xs) (c : Nat) : (Builtin.append_ #[t, t] ty #[v, .slice none 0 c]).run P w = .ok v w := by
  rcases hown.2 with ⟨rfl, rfl⟩ | ⟨g, cap, cur, rfl, _, _, hnc, _⟩
  · simp [Builtin.append_, run_underlying ht, sizeOf, typeInfo, hi, Builtin.lenOf, Builtin.firstCells]
  · simp [Builtin.append_, run_underlying ht, sizeOf, typeInfo, hi, Builtin.lenOf, Builtin.firstCells, hnc, storeCells]

theorem own_form {w : World} {e sz n : Nat} {v : Value} {xs : List Value} (h : w.ownsRow 0 e sz v n xs) : ∃ B c, v = .slice B n c := by
  rcases h.2 with ⟨rfl, rfl⟩ | ⟨g, cap, cur, rfl, _⟩
  · exact ⟨none, 0, rfl⟩
  · exact ⟨_, cap, rfl⟩

def setC (σ : St) (i : Nat) (c : Chunk) : St := { σ with h := (i, (blkOf σ.h i, .ab c)) :: σ.h }

/-- 'append(s, x..)' onto a row of one's own, i; c: what x reads. -/
theorem SG.append (i : Nat) (c : Chunk) (hc : Has C σ c) (T e sz bytes : TypeId) (A : Option Addr) (n cap : Nat) (xs : List (List Value)) (A' : Option Addr) (n' cap' : Nat) (ys zs : List (List Value)) (N : Nat)
    (hz : xs ++ ys = zs) (hn : xs.length = n) (hn' : ys.length = n') (hN : zs.length = N)
    (hop : appAt σ todo = some (T, .slice A n cap, .slice A' n' cap')) (hT : elemP P T = some (e, sz, bytes))
    (hi : chunkAt σ i = rowC e sz A cap xs) (hs : (lk σ.h i).isSome = true)
    (hys : ∀ w, c.holds w → SeqAt w A' cap' sz ys) (h1 : ∀ u ∈ ys.flatten, u.oneCell' = true) (hb : (xs.length + ys.length) * bytes ≤ 140737488355328)
    (hr : opReady σ todo = true) (hd : dstOk σ todo = true)
    (h : ∀ B cap2, SG P C (nextOf todo) (setD (setC σ i (rowC e sz B cap2 zs)) (dstOf todo) (.v (.slice B N cap2)))) : SG P C todo σ := by
  subst hz hn hn' hN
  intro a w hR cs
  obtain ⟨ops, j, rest, k, o, rfl, ho, hw, hdef, hdst, hex⟩ := opReady_spec hr hR
  obtain ⟨hu, ti, z, hti, hz, hsz, hby, hzs, hpos, hbpos⟩ := elemP_spec hT
  have hrow := (hR.at_ i).1
  rw [hi] at hrow
  obtain ⟨hown, hlen⟩ := hrow
  obtain ⟨_, hylen, hsrc⟩ := hys w (hc a w hR.bare)
  obtain ⟨p, hp⟩ := Option.isSome_iff_exists.1 hs
  obtain ⟨b0, c0⟩ := p
  have hblk : blkOf σ.h i = b0 := by simp [blkOf, hp]
  have hch : c0.chunk (blkOf σ.h) b0 = rowC e sz A cap xs := by rw [← hi]; simp [chunkAt, hp]
  have happ : ∃ B cap2 w', (∀ ty, (Builtin.append_ #[T, T] ty #[.slice A xs.length cap, .slice A' ys.length cap']).run P w = .ok (.slice B (xs ++ ys).length cap2) w') ∧
      (rowC e sz B cap2 (xs ++ ys)).holds w' ∧ Upd (rowC e sz A cap xs).fp w w' ∧ ∀ x, (rowC e sz B cap2 (xs ++ ys)).fp x → (rowC e sz A cap xs).fp x ∨ w.heap.size ≤ x := by
    rcases hsrc with ⟨rfl, rfl⟩ | ⟨ad, rfl, hcells⟩
    · refine ⟨A, cap, w, fun ty => ?_, ?_, Upd.refl _ _, ?_⟩
      · have := run_append_of_nil (P := P) 0 T ty e ti sz hu hti _ _ _ hown cap'
        simpa using this
      · simpa using (show (rowC e sz A cap xs).holds w from ⟨hown, hlen⟩)
      · intro x hx; exact .inl (by simpa [rowC] using hx)
    · have hfl : (xs ++ ys).flatten = xs.flatten ++ ys.flatten := by simp
      have hbound : xs.length + ys.length ≤ maxLen := by
        have := Nat.le_trans (Nat.le_mul_of_pos_right (xs.length + ys.length) hbpos) hb
        simp only [maxLen]; omega
      have hrun := fun ty => run_append_own_at (P := P) w 0 T ty e ti z sz bytes hu hti hz hsz hby hzs hpos _ _ _ hown ad ys.length cap' ys.flatten (flatten_len hylen) hcells h1 hbound hb (Nat.zero_le _)
      obtain ⟨v', w', h2, h3, h4, _, h6⟩ := hrun 0
      obtain ⟨B, cap2, rfl⟩ := own_form h3
      refine ⟨B, cap2, w', fun ty => ?_, ⟨?_, ?_⟩, ?_, ?_⟩
      · have hty : (Builtin.append_ #[T, T] ty #[.slice A xs.length cap, .slice (some ad) ys.length cap']) = (Builtin.append_ #[T, T] 0 #[.slice A xs.length cap, .slice (some ad) ys.length cap']) := rfl
        rw [hty, h2, List.length_append]
      · rw [List.length_append, hfl]; exact h3
      · intro x hx
        rcases List.mem_append.1 hx with hx | hx
        · exact hlen x hx
        · exact hylen x hx
      · exact ⟨h4.os, h4.tape, h4.output, h4.size, fun q hq hn => h4.block q hq (fun e => hn (by simpa [rowC] using e.symm))⟩
      · intro x hx
        have hx' : Value.ownBlock (.slice B (xs.length + ys.length) cap2) = some x := by simpa [rowC] using hx
        rcases h6 with h6 | h6
        · rw [h6] at hx'; exact .inl hx'
        · rw [h6] at hx'; cases hx'; exact .inr (Nat.le_refl _)
  obtain ⟨B, cap2, w', hrun, hrow', hupd, hfp⟩ := happ
  have hexec : (execOp a.eval o).run P w = .ok (.value (.slice B (xs ++ ys).length cap2)) w' := by
    rw [hex]
    unfold appAt at hop
    split at hop
    · rename_i cc hcc
      split at hop
      · rename_i s x t t' hcal hargs hats
        cases hb' : Nat.beq t t' with
        | false => simp [hb'] at hop
        | true =>
          have := Nat.eq_of_beq_eq_true hb'
          subst this
          simp only [hb', cond_true, Option.some.injEq, Prod.mk.injEq] at hop
          obtain ⟨rfl, h2, h3⟩ := hop
          have hargs' : cc.args = #[s, x] := by rw [← Array.toArray_toList (xs := cc.args), hargs]
          have hats' : cc.argTypes = #[t, t] := by rw [← Array.toArray_toList (xs := cc.argTypes), hats]
          simp [semAt, execOp, hcc, resolve, hcal, hargs', hats', invoke, builtin, h2, h3, hrun]
      · cases hop
    · cases hop
  refine C.clos _ _ _ (.one (m_value ho hw hdef hexec (.inl rfl))) ?_
  have hR1 := Real.turn hR hp (c' := .ab (rowC e sz B cap2 (xs ++ ys))) trivial (by rw [hch]; exact hupd) hrow' (by rw [hch]; exact hfp)
  refine h B cap2 _ w' ?_ cs
  rw [hdst]
  unfold setC
  rw [hblk]
  exact hR1.setD fun x hx => by
    unfold dstOk at hd; rw [hdst, hx] at hd; simpa [Nat.blt_eq] using hd

end
end Go.Sx
