/- Walking Go's text by symbolic states: the laws of SxH to SxL once more, without types' numbers. -/
import Derived.Test.YtdholfagmlablaaSxL
namespace Go.Sx

def idxT (todo : List Item) : TypeId := match (theOp todo).op with
  | .indexAddr t _ _ => t
  | _ => 0
def idxV (σ : St) (todo : List Item) : Option (Value × Value) := match (theOp todo).op with
  | .indexAddr _ x i => some (rhoOf σ x, rhoOf σ i)
  | _ => none
def ldT (todo : List Item) : TypeId := match (theOp todo).op with
  | .load t _ => t
  | _ => 0
def ldFrom (d : Nat) (todo : List Item) : Bool := match (theOp todo).op with
  | .load _ (.tmp x) => Nat.beq x d
  | _ => false
def ldP (σ : St) (todo : List Item) : Option Value := match (theOp todo).op with
  | .load _ x => some (rhoOf σ x)
  | _ => none
def szOf (P : Program) (T : TypeId) : Nat := match elemP P T with
  | some (_, s, _) => s
  | none => 0
def byOf (P : Program) (T : TypeId) : Nat := match elemP P T with
  | some (_, _, b) => b
  | none => 0
def elOf (P : Program) (T : TypeId) : Nat := match elemP P T with
  | some (e, _, _) => e
  | none => 0
def agOf (P : Program) (T : TypeId) : Bool := match aggT P T with
  | some (a, _) => a
  | none => false
def agN (P : Program) (T : TypeId) : Nat := match aggT P T with
  | some (_, n) => n
  | none => 0
def ldV (ag : Bool) (x : List Value) : Value := match ag with
  | true => .agg x.toArray
  | false => x.getD 0 undef
theorem ldV_eq (ag : Bool) (x : List Value) : ldV ag x = if ag then .agg x.toArray else x.getD 0 undef := by cases ag <;> rfl
def someD (o : Option Nat) : Nat := match o with
  | some d => d
  | none => 0
theorem elem_of {P : Program} {T : TypeId} (h : (elemP P T).isSome = true) : elemP P T = some (elOf P T, szOf P T, byOf P T) := by
  unfold elOf szOf byOf
  cases hq : elemP P T with
  | none => rw [hq] at h; cases h
  | some p => rfl
theorem agg_of {P : Program} {T : TypeId} (h : (aggT P T).isSome = true) : aggT P T = some (agOf P T, agN P T) := by
  unfold agOf agN
  cases hq : aggT P T with
  | none => rw [hq] at h; cases h
  | some p => rfl

/-- 's[k]', loaded. -/
def elB (P : Program) (σ : St) (todo : List Item) (sz : Nat) (v : Value) : Bool :=
  (elemP P (idxT todo)).isSome && (Nat.beq (szOf P (idxT todo)) sz && (opReady σ todo && (dstOk σ todo && ((dstOf todo).isSome && (ldFrom (someD (dstOf todo)) (nextOf todo) &&
    (opReady { σ with t := (someD (dstOf todo), .v v) :: σ.t } (nextOf todo) && (dstOk { σ with t := (someD (dstOf todo), .v v) :: σ.t } (nextOf todo) &&
      ((aggT P (ldT (nextOf todo))).isSome && (Nat.beq (agN P (ldT (nextOf todo))) sz && (agOf P (ldT (nextOf todo)) || Nat.beq sz 1))))))))))

section
variable {P : Program} {C : Ctx P} {σ : St} {todo : List Item}

theorem SG.el (c : Chunk) (hc : Has C σ c) (A : Option Addr) (n cap : Nat) (kk : IntKind) (k sz : Nat) (xs : List (List Value)) (x : List Value)
    (hseq : ∀ w, c.holds w → SeqAt w A cap sz xs) (hn : xs.length = n) (hx : xs[k]? = some x)
    (hop : idxV σ todo = some (.slice A n cap, .int kk (k : Int))) (hB : ∀ v, elB P σ todo sz v = true)
    (h : ∀ u, SG P C (nextOf (nextOf todo)) (setD { σ with t := (someD (dstOf todo), .v u) :: σ.t } (dstOf (nextOf todo)) (.v (ldV (agOf P (ldT (nextOf todo))) x)))) : SG P C todo σ := by
  have hB0 := hB undef
  simp only [elB, Bool.and_eq_true] at hB0
  obtain ⟨b1, b2, b3, b4, b5, b6, _, _, b9, b10, b11⟩ := hB0
  have e1 := elem_of b1
  have e2 := agg_of b9
  have hsz := Nat.eq_of_beq_eq_true b2
  have hsz2 := Nat.eq_of_beq_eq_true b10
  obtain ⟨d, hd⟩ := Option.isSome_iff_exists.1 b5
  have hsd : someD (dstOf todo) = d := by rw [hd]; rfl
  rw [hsd] at h b6
  rw [hsz] at e1
  rw [hsz2] at e2
  refine SG.elem c hc (idxT todo) (elOf P (idxT todo)) sz (byOf P (idxT todo)) (ldT (nextOf todo)) (agOf P (ldT (nextOf todo))) A n cap kk (k : Int) k xs x hseq hn hx rfl ?_ e1 b3 b4 d hd ?_ ?_ ?_ e2 _ (ldV_eq _ _) ?_ h
  · unfold idxV at hop
    unfold idxAt idxT
    cases ho : (theOp todo).op <;> simp only [ho] at hop ⊢ <;> try cases hop
    rw [Option.some.injEq, Prod.mk.injEq] at hop
    rw [hop.1, hop.2]
  · intro v
    unfold ldFrom at b6
    unfold ldAt ldT
    cases ho : (theOp (nextOf todo)).op <;> simp only [ho] at b6 ⊢ <;> try cases b6
    rename_i t x
    cases x <;> simp only at b6 <;> try cases b6
    have := Nat.eq_of_beq_eq_true b6
    subst this
    simp [rhoOf, ev, lk_cons, den]
  · intro v
    have := hB v
    simp only [elB, Bool.and_eq_true] at this
    rw [hsd] at this
    exact this.2.2.2.2.2.2.1
  · intro v
    have := hB v
    simp only [elB, Bool.and_eq_true] at this
    rw [hsd] at this
    exact this.2.2.2.2.2.2.2.1
  · intro hag
    rw [hag, Bool.false_or] at b11
    exact Nat.eq_of_beq_eq_true b11

/-- A load of which the cells are known. -/
def ldB (P : Program) (σ : St) (todo : List Item) (n : Nat) : Bool :=
  opReady σ todo && (dstOk σ todo && ((aggT P (ldT todo)).isSome && (Nat.beq (agN P (ldT todo)) n && (agOf P (ldT todo) || Nat.beq n 1))))
theorem SG.ld (p : Addr) (x : List Value) (hop : ldP σ todo = some (.pointer (some p))) (hB : ldB P σ todo x.length = true)
    (hc : ∀ a w, Real C.K σ a w → ∀ j u, x[j]? = some u → w.cell? (p.add j) = some u)
    (h : SG P C (nextOf todo) (setD σ (dstOf todo) (.v (ldV (agOf P (ldT todo)) x)))) : SG P C todo σ := by
  simp only [ldB, Bool.and_eq_true] at hB
  obtain ⟨b1, b2, b3, b4, b5⟩ := hB
  have e := agg_of b3
  rw [Nat.eq_of_beq_eq_true b4] at e
  refine SG.load (ldT todo) (agOf P (ldT todo)) p x ?_ e _ (ldV_eq _ _) (fun hag => ?_) hc b1 b2 h
  · unfold ldP at hop
    unfold ldAt ldT
    cases ho : (theOp todo).op <;> simp only [ho] at hop ⊢ <;> try cases hop
    rw [Option.some.injEq] at hop
    rw [hop]
  · rw [hag, Bool.false_or] at b5
    exact Nat.eq_of_beq_eq_true b5

theorem has_cells' {P : Program} {C : Ctx P} {σ : St} {b : Nat} {vs : List Value} {T : TypeId} (o : Nat) (x : List Value) (hx : (vs.drop o).take x.length = x) (h : Has C σ (cellsC b vs T)) :
    ∀ a w, Real C.K σ a w → ∀ j u, x[j]? = some u → w.cell? ((⟨b, o, none⟩ : Addr).add j) = some u := by
  intro a w hR j u hj
  rw [addr_add, cell_of (h a w hR.bare)]
  rw [← hx] at hj
  rw [List.getElem?_take] at hj
  split at hj
  · rw [List.getElem?_drop] at hj
    simpa using hj
  · cases hj

/-- A slot's whole number as a natural one. -/
theorem SG.nat (d : Nat) (kk : IntKind) (E : Int) (k : Nat) (h : lk σ.t d = some (.v (.int kk E))) (he : E = k) (hg : SG P C todo { σ with t := (d, .v (.int kk (k : Int))) :: σ.t }) : SG P C todo σ :=
  SG.slot d _ (.v (.int kk (k : Int))) h (by rw [he]) trivial hg

/-- A bool parts the ways. -/
theorem SG.cases (b : Bool) (ht : b = true → SG P C todo σ) (hf : b = false → SG P C todo σ) : SG P C todo σ := by
  cases b
  · exact hf rfl
  · exact ht rfl

/-- The nil slice as a row of one's own. -/
theorem SG.nilRow (e sz : Nat) (h : SG P C todo (addL (goneL σ []) [rowC e sz none 0 []])) : SG P C todo σ :=
  SG.turn [] [rowC e sz none 0 []] rfl (fun w _ => ⟨sepL_one.2 (row_nil w e sz), fun x hx => by
    have := sepL_one_fp.1 hx
    simp [rowC, Value.ownBlock] at this⟩) h

/-- A member of a row. -/
theorem SG.member {α : Type} (l : List α) (k : Nat) (hk : k < l.length) (h : ∀ x, l[k]? = some x → SG P C todo σ) : SG P C todo σ :=
  h _ (List.getElem?_eq_getElem hk)

/-! ### append -/
def apT (todo : List Item) : TypeId := match (theOp todo).op with
  | .call c => match c.argTypes.toList with
    | [t, _] => t
    | _ => 0
  | _ => 0
def apV (σ : St) (todo : List Item) : Option (Value × Value) := match appAt σ todo with
  | some (_, s, x) => some (s, x)
  | none => none
def apB (P : Program) (σ : St) (todo : List Item) (i : Nat) : Bool :=
  (elemP P (apT todo)).isSome && (opReady σ todo && (dstOk σ todo && (lk σ.h i).isSome))

/-- 'append(s, x..)' onto a row of one's own, i; c: what x reads. -/
theorem SG.ap (i : Nat) (c : Chunk) (hc : Has C σ c) (A : Option Addr) (n cap : Nat) (xs : List (List Value)) (A' : Option Addr) (n' cap' : Nat) (ys : List (List Value)) (N st bt : Nat)
    (hn : xs.length = n) (hn' : ys.length = n') (hN : n + n' = N) (hst : szOf P (apT todo) = st) (hbt : byOf P (apT todo) = bt)
    (hop : apV σ todo = some (.slice A n cap, .slice A' n' cap')) (hi : chunkAt σ i = rowC (elOf P (apT todo)) (szOf P (apT todo)) A cap xs) (hB : apB P σ todo i = true)
    (hys : ∀ w, c.holds w → SeqAt w A' cap' st ys) (h1 : ∀ u ∈ ys.flatten, u.oneCell' = true) (hb : N * bt ≤ 140737488355328)
    (h : ∀ B cap2, SG P C (nextOf todo) (setD (setC σ i (rowC (elOf P (apT todo)) (szOf P (apT todo)) B cap2 (xs ++ ys))) (dstOf todo) (.v (.slice B N cap2)))) : SG P C todo σ := by
  subst hbt hst
  simp only [apB, Bool.and_eq_true] at hB
  obtain ⟨b1, b2, b3, b4⟩ := hB
  refine SG.append i c hc (apT todo) _ _ _ A n cap xs A' n' cap' ys (xs ++ ys) N rfl hn hn' (by rw [List.length_append, hn, hn', hN]) ?_ (elem_of b1) hi b4 hys h1 (by rw [hn, hn', hN]; exact hb) b2 b3 h
  unfold apV at hop
  cases hq : appAt σ todo with
  | none => rw [hq] at hop; cases hop
  | some p =>
    obtain ⟨T, s, x⟩ := p
    rw [hq] at hop
    simp only [Option.some.injEq, Prod.mk.injEq] at hop
    obtain ⟨g1, g2⟩ := hop
    rw [← g1, ← g2]
    clear g1 g2
    have : T = apT todo := by
      unfold appAt at hq
      unfold apT
      split at hq
      · rename_i c hc
        split at hq
        · rename_i s' x' t t' _ _ hat
          simp only [hc, hat]
          cases hbq : Nat.beq t t' with
          | false => rw [hbq, cond_false] at hq; cases hq
          | true => rw [hbq, cond_true] at hq; cases hq; rfl
        · cases hq
      · cases hq
    rw [this]

/-! ### make -/
def mkT (todo : List Item) : TypeId := match (theOp todo).op with
  | .makeSlice t _ _ => t
  | _ => 0
def mkV (σ : St) (todo : List Item) : Option (Value × Value) := match (theOp todo).op with
  | .makeSlice _ x y => some (rhoOf σ x, rhoOf σ y)
  | _ => none
def zsOf (P : Program) (T : TypeId) : List Value := match zeroT P T with
  | some l => l
  | none => []
def mkB (P : Program) (σ : St) (todo : List Item) : Bool :=
  (elemP P (mkT todo)).isSome && ((zeroT P (elOf P (mkT todo))).isSome && (opReady σ todo && dstOk σ todo))
theorem SG.mk (kl kc : IntKind) (n : Nat) (hop : mkV σ todo = some (.int kl (n : Int), .int kc (n : Int))) (hB : mkB P σ todo = true) (hb : n * byOf P (mkT todo) ≤ 140737488355328)
    (h : ∀ ν, SG P C (nextOf todo) (setD (addC σ 0 (.ab (rowC (elOf P (mkT todo)) (szOf P (mkT todo)) (some ⟨ν, 0, none⟩) n (List.replicate n (zsOf P (elOf P (mkT todo))))))) (dstOf todo) (.v (.slice (some ⟨ν, 0, none⟩) n n)))) : SG P C todo σ := by
  simp only [mkB, Bool.and_eq_true] at hB
  obtain ⟨b1, b2, b3, b4⟩ := hB
  refine SG.makeRow (mkT todo) _ _ _ kl kc n (zsOf P (elOf P (mkT todo))) ?_ (elem_of b1) ?_ hb b3 b4 h
  · unfold mkV at hop
    unfold mkAt mkT
    cases ho : (theOp todo).op <;> simp only [ho] at hop ⊢ <;> try cases hop
    rw [Option.some.injEq, Prod.mk.injEq] at hop
    rw [hop.1, hop.2]
  · obtain ⟨z, hz⟩ := Option.isSome_iff_exists.1 b2
    rw [hz]
    unfold zsOf
    rw [hz]

/-! ### an address -/
def ixB (P : Program) (σ : St) (todo : List Item) : Bool := (elemP P (idxT todo)).isSome && (opReady σ todo && dstOk σ todo)
theorem SG.ix (ad : Addr) (n cap : Nat) (kk : IntKind) (k : Nat) (hop : idxV σ todo = some (.slice (some ad) n cap, .int kk (k : Int))) (hlt : k < n) (hB : ixB P σ todo = true)
    (h : SG P C (nextOf todo) (setD σ (dstOf todo) (.v (.pointer (some (ad.add (k * szOf P (idxT todo)))))))) : SG P C todo σ := by
  simp only [ixB, Bool.and_eq_true] at hB
  obtain ⟨b1, b2, b3⟩ := hB
  refine SG.index (idxT todo) _ _ _ ad n cap kk (k : Int) k ?_ (elem_of b1) rfl hlt b2 b3 h
  unfold idxV at hop
  unfold idxAt idxT
  cases ho : (theOp todo).op <;> simp only [ho] at hop ⊢ <;> try cases hop
  rw [Option.some.injEq, Prod.mk.injEq] at hop
  rw [hop.1, hop.2]

/-! ### the same for the free operations of a drawn region -/
def OpTo.ixB' (P : Program) (ops : Array Oper) (σ : St) (i : Nat) : Bool := (elemP P (idxT [.inRegion ops [i]])).isSome && opReady (restr σ (keysAt ops i)) [.inRegion ops [i]]
theorem OpTo.ix {ops : Array Oper} {i : Nat} (ad : Addr) (n cap : Nat) (kk : IntKind) (k : Nat) (hop : idxV (restr σ (keysAt ops i)) [.inRegion ops [i]] = some (.slice (some ad) n cap, .int kk (k : Int))) (hlt : k < n)
    (hB : OpTo.ixB' P ops σ i = true) : OpTo P C ops σ i (.v (.pointer (some (ad.add (k * szOf P (idxT [.inRegion ops [i]])))))) := by
  simp only [OpTo.ixB', Bool.and_eq_true] at hB
  obtain ⟨b1, b2⟩ := hB
  refine OpTo.index (idxT [.inRegion ops [i]]) _ _ _ ad n cap kk (k : Int) k ?_ (elem_of b1) rfl hlt b2
  unfold idxV at hop
  unfold idxAt idxT
  cases ho : (theOp [.inRegion ops [i]]).op <;> simp only [ho] at hop ⊢ <;> try cases hop
  rw [Option.some.injEq, Prod.mk.injEq] at hop
  rw [hop.1, hop.2]
def OpTo.ldB' (P : Program) (ops : Array Oper) (σ : St) (i n : Nat) : Bool :=
  opReady (restr σ (keysAt ops i)) [.inRegion ops [i]] && ((aggT P (ldT [.inRegion ops [i]])).isSome && (Nat.beq (agN P (ldT [.inRegion ops [i]])) n && (agOf P (ldT [.inRegion ops [i]]) || Nat.beq n 1)))
/-- Element k of a row, loaded. -/
theorem OpTo.ldE {ops : Array Oper} {i : Nat} (c : Chunk) (hc : Has C σ c) (ad : Addr) (cap k sz : Nat) (xs : List (List Value)) (x : List Value) (hseq : ∀ w, c.holds w → SeqAt w (some ad) cap sz xs) (hx : xs[k]? = some x)
    (hop : ldP (restr σ (keysAt ops i)) [.inRegion ops [i]] = some (.pointer (some (ad.add (k * sz))))) (hB : OpTo.ldB' P ops σ i sz = true) : OpTo P C ops σ i (.v (ldV (agOf P (ldT [.inRegion ops [i]])) x)) := by
  simp only [OpTo.ldB', Bool.and_eq_true] at hB
  obtain ⟨b1, b2, b3, b4⟩ := hB
  have e := agg_of b2
  rw [Nat.eq_of_beq_eq_true b3] at e
  refine OpTo.load c hc (ldT [.inRegion ops [i]]) sz (agOf P (ldT [.inRegion ops [i]])) ad cap k xs x hseq hx ?_ e _ (ldV_eq _ _) (fun hag => ?_) b1
  · unfold ldP at hop
    unfold ldAt ldT
    cases ho : (theOp [.inRegion ops [i]]).op <;> simp only [ho] at hop ⊢ <;> try cases hop
    rw [Option.some.injEq] at hop
    rw [hop]
  · rw [hag, Bool.false_or] at b4
    exact Nat.eq_of_beq_eq_true b4
def ad0 (A : Option Addr) : Addr := A.getD ⟨0, 0, none⟩
def OpTo.ixB2 (P : Program) (ops : Array Oper) (σ : St) (i sz : Nat) : Bool := OpTo.ixB' P ops σ i && Nat.beq (szOf P (idxT [.inRegion ops [i]])) sz
theorem OpTo.ixS {ops : Array Oper} {i : Nat} (c : Chunk) (hc : Has C σ c) (A : Option Addr) (n cap : Nat) (kk : IntKind) (k sz : Nat) (xs : List (List Value)) (hseq : ∀ w, c.holds w → SeqAt w A cap sz xs) (hn : xs.length = n) (hlt : k < n)
    (hop : idxV (restr σ (keysAt ops i)) [.inRegion ops [i]] = some (.slice A n cap, .int kk (k : Int))) (hB : OpTo.ixB2 P ops σ i sz = true) : OpTo P C ops σ i (.v (.pointer (some ((ad0 A).add (k * sz))))) := by
  intro a w hR
  simp only [OpTo.ixB2, Bool.and_eq_true] at hB
  obtain ⟨b1, b2⟩ := hB
  obtain ⟨_, _, hcase⟩ := hseq w (hc a w hR.bare)
  rcases hcase with ⟨_, hnil⟩ | ⟨ad, rfl, _⟩
  · subst hnil; simp at hn; omega
  · have := OpTo.ix (P := P) (C := C) ad n cap kk k hop hlt b1
    rw [Nat.eq_of_beq_eq_true b2] at this
    exact this a w hR
theorem OpTo.ldS {ops : Array Oper} {i : Nat} (c : Chunk) (hc : Has C σ c) (A : Option Addr) (cap k sz : Nat) (xs : List (List Value)) (x : List Value) (hseq : ∀ w, c.holds w → SeqAt w A cap sz xs) (hx : xs[k]? = some x)
    (hop : ldP (restr σ (keysAt ops i)) [.inRegion ops [i]] = some (.pointer (some ((ad0 A).add (k * sz))))) (hB : OpTo.ldB' P ops σ i sz = true) (v : Value) (hv : ldV (agOf P (ldT [.inRegion ops [i]])) x = v) : OpTo P C ops σ i (.v v) := by
  subst hv
  intro a w hR
  obtain ⟨_, _, hcase⟩ := hseq w (hc a w hR.bare)
  rcases hcase with ⟨_, hnil⟩ | ⟨ad, rfl, _⟩
  · subst hnil; simp at hx
  · exact OpTo.ldE (P := P) (C := C) c hc ad cap k sz xs x hseq hx hop hB a w hR
def ixB2 (P : Program) (σ : St) (todo : List Item) (sz : Nat) : Bool := ixB P σ todo && Nat.beq (szOf P (idxT todo)) sz
/-- 's[k]' as an address. -/
theorem SG.ixS (c : Chunk) (hc : Has C σ c) (A : Option Addr) (n cap : Nat) (kk : IntKind) (k sz : Nat) (xs : List (List Value)) (hseq : ∀ w, c.holds w → SeqAt w A cap sz xs) (hn : xs.length = n) (hlt : k < n)
    (hop : idxV σ todo = some (.slice A n cap, .int kk (k : Int))) (hB : ixB2 P σ todo sz = true)
    (h : SG P C (nextOf todo) (setD σ (dstOf todo) (.v (.pointer (some ((ad0 A).add (k * sz))))))) : SG P C todo σ := by
  intro a w hR
  simp only [ixB2, Bool.and_eq_true] at hB
  obtain ⟨b1, b2⟩ := hB
  obtain ⟨_, _, hcase⟩ := hseq w (hc a w hR.bare)
  rcases hcase with ⟨_, hnil⟩ | ⟨ad, rfl, _⟩
  · subst hnil; simp at hn; omega
  · refine SG.ix ad n cap kk k hop hlt b1 ?_ a w hR
    rw [Nat.eq_of_beq_eq_true b2]
    exact h
def stT (todo : List Item) : TypeId := match (theOp todo).op with
  | .store t _ _ => t
  | _ => 0
def stV (σ : St) (todo : List Item) : Option (Value × Value) := match stAt σ todo with
  | some (_, p, v) => some (p, v)
  | none => none
def srB (P : Program) (σ : St) (todo : List Item) (i sz : Nat) : Bool := opReady σ todo && ((lk σ.h i).isSome && ((aggT P (stT todo)).isSome && Nat.beq (agN P (stT todo)) sz))
/-- 's[k] = v'. -/
theorem SG.sr (i e sz : Nat) (A : Option Addr) (cap k : Nat) (xs : List (List Value)) (v : Value) (x' : List Value) (hop : stV σ todo = some (.pointer (some ((ad0 A).add (k * sz))), v)) (hv : v.cells.toList = x') (hx' : x'.length = sz) (h1 : ∀ u ∈ x', u.oneCell' = true)
    (hi : chunkAt σ i = rowC e sz A cap xs) (hk : k < xs.length) (hB : srB P σ todo i sz = true) (h : SG P C (nextOf todo) (setC σ i (rowC e sz A cap (xs.set k x')))) : SG P C todo σ := by
  intro a w hR
  simp only [srB, Bool.and_eq_true] at hB
  obtain ⟨b1, b2, b3, b4⟩ := hB
  have e1 := agg_of b3
  rw [Nat.eq_of_beq_eq_true b4] at e1
  have hrow := (hR.at_ i).1
  rw [hi] at hrow
  obtain ⟨_, _, hcase⟩ := seq_row hrow
  rcases hcase with ⟨_, hnil⟩ | ⟨ad, rfl, _⟩
  · subst hnil; simp at hk
  · refine SG.storeRow i (stT todo) e sz _ ad cap k xs v x' ?_ e1 hv hx' h1 hi b2 hk b1 h a w hR
    unfold stV at hop
    cases hq : stAt σ todo with
    | none => rw [hq] at hop; cases hop
    | some p =>
      obtain ⟨T, q, u⟩ := p
      rw [hq] at hop
      simp only [Option.some.injEq, Prod.mk.injEq] at hop
      obtain ⟨g1, g2⟩ := hop
      rw [g1, g2]
      have : T = stT todo := by
        unfold stAt at hq
        unfold stT
        split at hq
        · rename_i t x y ho
          split at hq
          · cases hq; simp only [ho]
          · cases hq
        · cases hq
      rw [this]; rfl
theorem sepL_get {α : Type} {l : List α} {f : α → Chunk} {i : Nat} {r : α} (h : l[i]? = some r) {w : World} (hw : (sepL (l.map f)).holds w) : (f r).holds w :=
  (sepL_mem _ hw i (f r) (by rw [List.getElem?_map, h]; rfl)).1
theorem bin_sem {σ : St} {todo : List Item} (op : BinOp) (t : TypeId) (x y : Value) (v : Value) (hb : binAt σ todo = some (op, t, x, y)) (hne : isEq op = false) (hv : binOp op t x y = pure v) (w : World) : (semAt σ todo).run P w = .ok (.value v) w := by
  unfold binAt at hb
  split at hb
  · rename_i op' t' x' y' u ho
    cases hb
    simp only [semAt, execOp, ho]
    have : eqGuard op t x' y' (rhoOf σ x') (rhoOf σ y') = pure () := by cases op <;> first | rfl | simp [isEq] at hne
    rw [this, hv]
    rfl
  · cases hb
theorem OpTo.bin {ops : Array Oper} {i : Nat} (op : BinOp) (t : TypeId) (x y : Value) (v : Value) (hr : opReady (restr σ (keysAt ops i)) [.inRegion ops [i]] = true) (hb : binAt (restr σ (keysAt ops i)) [.inRegion ops [i]] = some (op, t, x, y))
    (hne : isEq op = false) (hv : binOp op t x y = pure v) : OpTo P C ops σ i (.v v) :=
  OpTo.opv v hr fun _ w _ => bin_sem op t x y v hb hne hv w
/-- A piece in other words. -/
theorem SG.reab (i : Nat) (c c' : Chunk) (hi : chunkAt σ i = c) (hs : (lk σ.h i).isSome = true) (he : c = c') (h : SG P C todo (setC σ i c')) : SG P C todo σ := by
  subst he
  intro a w hR cs
  obtain ⟨p, hp⟩ := Option.isSome_iff_exists.1 hs
  obtain ⟨b0, c0⟩ := p
  have hblk : blkOf σ.h i = b0 := by simp [blkOf, hp]
  have hch : c0.chunk (blkOf σ.h) b0 = c := by rw [← hi]; simp [chunkAt, hp]
  have := Real.turn hR hp (c' := .ab c) trivial (Upd.refl _ w) (by show c.holds w; rw [← hch]; exact (hR.holds i b0 c0 hp).1) (fun x hx => .inl (by rw [hch]; exact hx))
  refine h a w ?_ cs
  unfold setC
  rw [hblk]
  exact this
theorem SG.reRow (i e sz : Nat) (A : Option Addr) (cap : Nat) (xs xs' : List (List Value)) (hi : chunkAt σ i = rowC e sz A cap xs) (hs : (lk σ.h i).isSome = true) (he : xs = xs') (h : SG P C todo (setC σ i (rowC e sz A cap xs'))) : SG P C todo σ :=
  SG.reab i _ _ hi hs (by rw [he]) h
theorem bin_shr (t : TypeId) (k yk : IntKind) (x y : Int) (h : 0 ≤ y) : binOp .shr t (.int k x) (.int yk y) = pure (.int k (x.fdiv (2 ^ min y.toNat k.bits))) := by
  have : ¬ y < 0 := by omega
  simp [binOp, Op.shift, this]
theorem bin_shl (t : TypeId) (k yk : IntKind) (x y : Int) (h : 0 ≤ y) : binOp .shl t (.int k x) (.int yk y) = pure (.int k (k.wrap (x * 2 ^ min y.toNat k.bits))) := by
  have : ¬ y < 0 := by omega
  simp [binOp, Op.shift, this]
theorem OpTo.nat {ops : Array Oper} {i : Nat} (kk : IntKind) (E : Int) (k : Nat) (h : qval P ops σ i = some (.v (.int kk E))) (he : E = k) : OpTo P C ops σ i (.v (.int kk (k : Int))) :=
  OpTo.of_eq h (by rw [← he]; rfl)
theorem map_get {α β : Type} {f : α → β} {l : List α} {k : Nat} {x : α} (h : l[k]? = some x) : (l.map f)[k]? = some (f x) := by rw [List.getElem?_map, h]; rfl
/-- A slot's bool is known. -/
theorem SG.dec (s : Nat) (b t : Bool) (hb : b = t) (h : lk σ.t s = some (.v (.bool b))) (hg : SG P C todo { σ with t := (s, .v (.bool t)) :: σ.t }) : SG P C todo σ :=
  SG.slot s _ (.v (.bool t)) h (by rw [hb]) trivial hg
end
end Go.Sx
