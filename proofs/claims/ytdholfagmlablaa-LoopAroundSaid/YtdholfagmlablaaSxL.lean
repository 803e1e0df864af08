/- Walking Go's text by symbolic states: structs compared. -/
import Derived.Test.YtdholfagmlablaaSxK
import Derived.Laws.StructEq
import Derived.ChangeKeysEq
namespace Go.Sx

def eqV : Value → Value → Bool
  | .int _ a, .int _ b => a == b
  | .bool a, .bool b => a == b
  | _, _ => false
def fldOk (P : Program) (xs ys : Array Value) (f : Field) : Bool :=
  (f.name != "_") && (P.plainKey f.type && match xs[f.offset]?, ys[f.offset]?, P.underlying f.type with
    | some (.int k _), some (.int k2 _), some (.int _) => decide (k = k2)
    | some (.bool _), some (.bool _), some .bool => true
    | _, _, _ => false)
def eqAll (P : Program) (T : TypeId) (xs ys : Array Value) : Bool := (P.fieldsOf T).toList.all fun f => eqV (xs.getD f.offset undef) (ys.getD f.offset undef)

theorem run_eqFields_flat {P : Program} (w : World) (d : Nat) (xs ys : Array Value) : ∀ fs : List Field, fs.all (fldOk P xs ys) = true →
    (Op.eqFields (d + 1) xs ys fs).run P w = .ok (fs.all fun f => eqV (xs.getD f.offset undef) (ys.getD f.offset undef)) w
  | [], _ => by simp [Op.eqFields]
  | f :: fs, h => by
    simp only [List.all_cons, Bool.and_eq_true] at h
    obtain ⟨hf, hr⟩ := h
    have ih := run_eqFields_flat w d xs ys fs hr
    unfold fldOk at hf
    simp only [Bool.and_eq_true, bne_iff_ne, ne_eq] at hf
    obtain ⟨hn, hp, hm⟩ := hf
    have hres : ∃ a b, (part f.type xs f.offset).run P w = .ok a w ∧ (part f.type ys f.offset).run P w = .ok b w ∧ (Op.equalIn (d + 1) f.type a b).run P w = .ok (eqV (xs.getD f.offset undef) (ys.getD f.offset undef)) w := by
      split at hm
      · rename_i k a k2 b q hx hy hu
        have hk : k = k2 := by simpa using hm
        subst hk
        refine ⟨_, _, run_part_plain w hp hx, run_part_plain w hp hy, ?_⟩
        rw [run_equalIn_int w d f.type k q a b hu]
        simp [Array.getD_eq_getD_getElem?, hx, hy, eqV]
      · rename_i a b hx hy hu
        refine ⟨_, _, run_part_plain w hp hx, run_part_plain w hp hy, ?_⟩
        rw [run_equalIn_bool' w d f.type a b hu]
        simp [Array.getD_eq_getD_getElem?, hx, hy, eqV]
      · cases hm
    obtain ⟨a, b, h1, h2, h3⟩ := hres
    rw [Op.eqFields, if_pos hn]
    simp only [Sem.run_bind, h1, h2, h3, Result.andThen_ok, List.all_cons]
    cases he : eqV (xs.getD f.offset undef) (ys.getD f.offset undef) with
    | true => simpa using ih
    | false => simp

/-- May two structs of T be compared cell by cell? -/
def eqOk (P : Program) (T : TypeId) (xs ys : Array Value) : Bool :=
  (match P.underlying T with | some (.struct _) => true | _ => false) && (!P.stoodInHeld T && (!P.eqGuardType P.depth T && (P.fieldsOf T).toList.all (fldOk P xs ys)))

theorem run_equal_flat {P : Program} (w : World) {T : TypeId} {xs ys : Array Value} (h : eqOk P T xs ys = true) : (Op.equal T (.agg xs) (.agg ys)).run P w = .ok (eqAll P T xs ys) w := by
  unfold eqOk at h
  simp only [Bool.and_eq_true, Bool.not_eq_true'] at h
  obtain ⟨h1, h2, _, h4⟩ := h
  have hu : P.underlying T = some (.struct (P.fieldsOf T)) := by
    split at h1
    · rename_i fs hu; simp [Program.fieldsOf, hu]
    · cases h1
  show (Op.equalIn (9998 + 1 + 1) T (.agg xs) (.agg ys)).run P w = _
  rw [run_equalIn_struct w (9998 + 1) T xs ys hu h2]
  exact run_eqFields_flat w 9998 xs ys _ h4

section
variable {P : Program} {C : Ctx P} {σ : St} {todo : List Item}

/-- 'x == y' of structs. -/
theorem SG.eqS (T : TypeId) (xs ys : List Value) (b : Bool) (hr : opReady σ todo = true) (hop : binAt σ todo = some (.eql, T, .agg xs.toArray, .agg ys.toArray)) (hok : eqOk P T xs.toArray ys.toArray = true) (hb : eqAll P T xs.toArray ys.toArray = b)
    (hd : dstOk σ todo = true) (h : SG P C (nextOf todo) (setD σ (dstOf todo) (.v (.bool b)))) : SG P C todo σ := by
  refine SG.opv _ hr hd (fun a w _ => ?_) h
  unfold binAt at hop
  split at hop
  · rename_i op' t' x' y' u ho
    simp only [Option.some.injEq, Prod.mk.injEq] at hop
    obtain ⟨rfl, rfl, hx, hy⟩ := hop
    have hg : P.eqGuardType P.depth t' = false := by
      unfold eqOk at hok
      simp only [Bool.and_eq_true, Bool.not_eq_true'] at hok
      exact hok.2.2.1
    simp [semAt, execOp, ho, hx, hy, eqGuard, hg, binOp, run_equal_flat w hok, hb]
  · cases hop
end
end Go.Sx
