/- The steps of operations on symbolic states, and that they are Go's. -/
import Derived.Test.YtdholfagmlablaaSxA
namespace Go.Sx

/-- What a part of the model gives that asks the program alone. -/
def peel {α : Type} (P : Program) : Nat → Sem α → Option α
  | 0, _ => none
  | n + 1, s => match s with
    | .pure a => some a
    | .program k => peel P n (k P)
    | .mark _ k => peel P n k
    | _ => none

theorem peel_run {α : Type} {P : Program} : ∀ (n : Nat) (s : Sem α) (x : α), peel P n s = some x → ∀ w, s.run P w = .ok x w
  | 0, _, _, h, _ => by simp [peel] at h
  | n + 1, s, x, h, w => by
    cases s <;> simp only [peel] at h <;> first
      | (cases h; rfl)
      | exact peel_run n _ x h w
      | cases h

def valueOf : Option Next → Option SV
  | some (.value v) => some (.v v)
  | _ => none

def isSel : Op → Bool
  | .select _ _ => true
  | _ => false

def rhoOf (σ : St) (x : Operand) : Value :=
  match ev σ x with
  | some sv => den (blkOf σ.h) sv
  | none => undef

def gen (P : Program) (σ : St) (o : Oper) : Option SV :=
  bif !isSel o.op && o.op.operands.toList.all fun x => (ev σ x).isSome then valueOf (peel P 200 (execOp (rhoOf σ) o)) else none

def fieldOff (P : Program) (s : TypeId) (f : Nat) : Option Nat :=
  match P.underlying s with
  | some (.struct fields) => match fields[f]? with
    | some f => match P.info? f.type with
      | some i => bif Nat.beq i.size 0 then none else some f.offset
      | none => none
    | none => none
  | _ => none

def arrayAt (P : Program) (t : TypeId) : Option (Nat × Nat) :=
  match P.underlying t with
  | some (.array n e) => match P.info? e with
    | some i => some (n, i.size)
    | none => none
  | _ => none

/-- Operations that give a value and look at no memory. -/
def stepV (P : Program) (σ : St) (o : Oper) : Option SV :=
  match o.op with
  | .move x | .assign x => ev σ x
  | .pick c a b => match ev σ c with
    | some (.v (.bool true)) => ev σ a
    | some (.v (.bool false)) => ev σ b
    | _ => none
  | .nilCheck x => match ev σ x with
    | some (.p i o) => some (.p i o)
    | _ => gen P σ o
  | .fieldAddr s x f => match ev σ x with
    | some (.p i k) => match fieldOff P s f with
      | some d => some (.p i (k + d))
      | none => none
    | _ => gen P σ o
  | .indexAddr t x (.const (.int _ (.ofNat j))) => match ev σ x with
    | some (.p i k) => match arrayAt P t with
      | some (n, s) => bif Nat.blt j n then some (.p i (k + j * s)) else none
      | none => none
    | _ => gen P σ o
  | .call c => match c.callee with
    | .builtin _ => gen P σ o
    | _ => none
  | .load .. | .store .. | .alloc .. | .box .. | .buildSlice .. | .makeMap .. => none
  | _ => gen P σ o

section
variable {P : Program} {K : Kx} {σ : St} {a : Act} {w : World} {o : Oper}

theorem rho_eq (h : Real K σ a w) {x : Operand} (hx : (ev σ x).isSome = true) : a.eval x = rhoOf σ x := by
  obtain ⟨sv, hs⟩ := Option.isSome_iff_exists.1 hx
  rw [(h.ev hs).1]; simp [rhoOf, hs]

theorem gen_sound (h : Real K σ a w) {sv : SV} (hg : gen P σ o = some sv) : (execOp a.eval o).run P w = .ok (.value (den (blkOf σ.h) sv)) w ∧ sv.ok σ.n := by
  unfold gen at hg
  cases hb : (!isSel o.op && o.op.operands.toList.all fun x => (ev σ x).isSome) with
  | false => rw [hb, cond_false] at hg; cases hg
  | true =>
    rw [hb, cond_true] at hg
    simp only [Bool.and_eq_true, Bool.not_eq_true', List.all_eq_true] at hb
    obtain ⟨hsel, hall⟩ := hb
    have he : execOp a.eval o = execOp (rhoOf σ) o := by
      refine execOp_congr o (fun cs b e => by simp [isSel, e] at hsel) fun x hx => rho_eq h (hall x (by simpa using hx))
    rw [he]
    cases hp : peel P 200 (execOp (rhoOf σ) o) with
    | none => simp [hp, valueOf] at hg
    | some nx =>
      have hr := peel_run 200 _ nx hp w
      rw [hr]
      cases nx <;> simp only [hp, valueOf] at hg <;> cases hg
      exact ⟨rfl, trivial⟩

theorem stepV_sound (h : Real K σ a w) {sv : SV} (hg : stepV P σ o = some sv) : (execOp a.eval o).run P w = .ok (.value (den (blkOf σ.h) sv)) w ∧ sv.ok σ.n := by
  unfold stepV at hg
  split at hg
  · rename_i x ho
    obtain ⟨h1, h2⟩ := h.ev hg
    exact ⟨by simp [execOp, ho, h1], h2⟩
  · rename_i x ho
    obtain ⟨h1, h2⟩ := h.ev hg
    exact ⟨by simp [execOp, ho, h1], h2⟩
  · rename_i c x y ho
    split at hg
    · rename_i hc
      obtain ⟨h1, h2⟩ := h.ev hg
      have h3 := (h.ev hc).1
      exact ⟨by simp [execOp, ho, h1, h3, den, asBool], h2⟩
    · rename_i hc
      obtain ⟨h1, h2⟩ := h.ev hg
      have h3 := (h.ev hc).1
      exact ⟨by simp [execOp, ho, h1, h3, den, asBool], h2⟩
    · cases hg
  · rename_i x ho
    split at hg
    · rename_i i k hx
      cases hg
      obtain ⟨h1, h2⟩ := h.ev hx
      exact ⟨by simp [execOp, ho, h1, den], h2⟩
    · exact gen_sound h hg
  · rename_i s x f ho
    split at hg
    · rename_i i k hx
      obtain ⟨h1, h2⟩ := h.ev hx
      cases hf : fieldOff P s f with
      | none => simp [hf] at hg
      | some d =>
        simp only [hf, Option.some.injEq] at hg
        subst hg
        refine ⟨?_, h2⟩
        unfold fieldOff at hf
        cases hu : P.underlying s with
        | none => simp [hu] at hf
        | some ds =>
          cases ds <;> simp only [hu] at hf <;> try (cases hf; done)
          rename_i fields
          cases hfi : fields[f]? with
          | none => simp [hfi] at hf
          | some fl =>
            simp only [hfi] at hf
            cases hi : P.info? fl.type with
            | none => simp [hi] at hf
            | some ti =>
              simp only [hi] at hf
              have hz : ti.size ≠ 0 := by
                intro e; simp [e] at hf
              have hz' : Nat.beq ti.size 0 = false := by
                rw [← Bool.not_eq_true]; intro e; exact hz (Nat.eq_of_beq_eq_true e)
              simp only [hz', cond_false, Option.some.injEq] at hf
              subst hf
              have hadd : ∀ (b k d : Nat), (⟨b, k, none⟩ : Addr).add d = ⟨b, k + d, none⟩ := by
                intro b k d; unfold Addr.add; split <;> simp_all
              simp [execOp, ho, h1, den, Instr.fieldAt, run_underlying hu, hfi, Instr.sureAddr, fieldPlace, sizeOf, typeInfo, hi, hz, hadd]
    · exact gen_sound h hg
  · rename_i t x kk j ho
    split at hg
    · rename_i i k hx
      obtain ⟨h1, h2⟩ := h.ev hx
      unfold arrayAt at hg
      cases hu : P.underlying t with
      | none => simp [hu] at hg
      | some ds =>
        cases ds <;> simp only [hu] at hg <;> try (cases hg; done)
        rename_i n e
        cases hi : P.info? e with
        | none => simp [hi] at hg
        | some ti =>
          simp only [hi] at hg
          cases hb : Nat.blt j n with
          | false => simp [hb] at hg
          | true =>
            simp only [hb, cond_true, Option.some.injEq] at hg
            subst hg
            have hjn : j < n := by simpa [Nat.blt_eq] using hb
            refine ⟨?_, h2⟩
            have hadd : ∀ (b k d : Nat), (⟨b, k, none⟩ : Addr).add d = ⟨b, k + d, none⟩ := by
              intro b k d; unfold Addr.add; split <;> simp_all
            have hev : a.eval (.const (.int kk (j : Int))) = .int kk (j : Int) := rfl
            simp [execOp, ho, h1, hev, den, Instr.indexAt, asIntOf, run_underlying hu, Instr.sureAddr, hjn, sizeOf, typeInfo, hi, hadd]
    · exact gen_sound h hg
  · split at hg
    · exact gen_sound h hg
    · cases hg
  all_goals first | exact gen_sound h hg | cases hg

end
end Go.Sx
