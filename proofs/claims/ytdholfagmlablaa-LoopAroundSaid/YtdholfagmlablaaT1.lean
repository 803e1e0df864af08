/- What the functions of package addr that a walk needs, and fib.Lookup, do (for every argument). -/
import Derived.Test.YtdholfagmlablaaSxL
import Derived.Test.YtdholfagmlablaaProg
import Derived.KernelRfl
namespace Go.Proofs.Ytdholfagmlablaa
open Go.Sx Go.Proofs

def maskI (n : Int) : Int := if n = 0 then 0 else IntKind.u32.wrap (4294967295 * 2 ^ (32 - n).toNat)

theorem mask_spec (n : Int) (h0 : 0 ≤ n) (h1 : n ≤ 32) : CallSpec Try.prog 88 [.int .i64 n] [] [] (fun v cs => v = .int .u32 (maskI n) ∧ cs = []) := by
  refine CallSpec.of [.v (.int .i64 n)] [] (by kernel_rfl) (by kernel_rfl) (by kernel_rfl) (by kernel_rfl) fun w0 => ?_
  refine SG.run 9 fun ν => ?_
  refine SG.split 4 (n == 0) (by kernel_rfl) (fun h => ?_) (fun h => ?_)
  · refine SG.run 7 fun ν => ?_
    refine SG.ret [] (.int .u32 0) (by kernel_rfl) (by kernel_rfl) (by kernel_rfl) (by kernel_rfl) (by kernel_rfl) ⟨?_, rfl⟩
    simp at h
    simp [maskI, h]
  · refine SG.run 7 fun ν => ?_
    refine SG.bin .shl 23 (.int .u32 4294967295) (.int .i64 (IntKind.i64.wrap (32 - n))) (.int .u32 (maskI n)) (by kernel_rfl) (by kernel_rfl) rfl ?_ (by kernel_rfl) ?_
    · rw [wrap_i64 (by omega) (by omega), binOp_shl, shift_shl _ _ _ _ (by omega) (by simp [IntKind.bits]; omega)]
      simp at h
      simp [maskI, h]
    refine SG.run 100 fun ν => ?_
    exact SG.ret [] (.int .u32 (maskI n)) (by kernel_rfl) (by kernel_rfl) (by kernel_rfl) (by kernel_rfl) (by kernel_rfl) ⟨rfl, rfl⟩

structure Pre where
  a : Int
  l : Int
  deriving DecidableEq, Inhabited
def Pre.v (p : Pre) : Value := .agg #[.int .u32 p.a, .int .i64 p.l]
def Pre.right (p : Pre) : Bool := decide (0 ≤ p.l) && decide (p.l ≤ 32) && (bits .andNot .u32 p.a (maskI p.l) == 0)

theorem right_spec (p : Pre) : CallSpec Try.prog 82 [p.v] [] [] (fun v cs => v = .bool p.right ∧ cs = []) := by
  refine CallSpec.of [.v p.v] [] (by kernel_rfl) (by kernel_rfl) (by kernel_rfl) (by kernel_rfl) fun w0 => ?_
  refine SG.run 400 fun ν => ?_
  by_cases h1 : 0 ≤ p.l
  · by_cases h2 : p.l ≤ 32
    · refine SG.draw 18 [(2, .v (.bool true)), (6, .v (.bool true)), (13, .v (.int .u32 (maskI p.l)))] _ rfl (by kernel_rfl) (by kernel_rfl) (by kernel_rfl) (by kernel_rfl) (by kernel_rfl)
        ⟨OpTo.test (c := decide (p.l ≥ 0)) true (by kernel_rfl) (by simpa using h1), OpTo.test (c := decide (p.l ≤ 32)) true (by kernel_rfl) (by simpa using h2),
         OpTo.call [] [] ((mask_spec p.l h1 h2).mono fun v cs h => h.1) (by kernel_rfl) (by kernel_rfl) (by kernel_rfl), trivial⟩ ?_
      refine SG.run 400 fun ν => ?_
      exact SG.ret [] (.bool (bits .andNot .u32 p.a (maskI p.l) == 0)) (by kernel_rfl) (by kernel_rfl) (by kernel_rfl) (by kernel_rfl) (by kernel_rfl) ⟨by simp [Pre.right, h1, h2], rfl⟩
    · refine SG.draw 18 [(2, .v (.bool true)), (6, .v (.bool false))] _ rfl (by kernel_rfl) (by kernel_rfl) (by kernel_rfl) (by kernel_rfl) (by kernel_rfl)
        ⟨OpTo.test (c := decide (p.l ≥ 0)) true (by kernel_rfl) (by simpa using h1), OpTo.test (c := decide (p.l ≤ 32)) false (by kernel_rfl) (by simpa using h2), trivial⟩ ?_
      refine SG.run 400 fun ν => ?_
      exact SG.ret [] (.bool false) (by kernel_rfl) (by kernel_rfl) (by kernel_rfl) (by kernel_rfl) (by kernel_rfl) ⟨by simp [Pre.right, h1, h2], rfl⟩
  · refine SG.draw 18 [(2, .v (.bool false))] _ rfl (by kernel_rfl) (by kernel_rfl) (by kernel_rfl) (by kernel_rfl) (by kernel_rfl)
        ⟨OpTo.test (c := decide (p.l ≥ 0)) false (by kernel_rfl) (by simpa using h1), trivial⟩ ?_
    refine SG.run 400 fun ν => ?_
    exact SG.ret [] (.bool false) (by kernel_rfl) (by kernel_rfl) (by kernel_rfl) (by kernel_rfl) (by kernel_rfl) ⟨by simp [Pre.right, h1], rfl⟩

def Pre.has (p : Pre) (a : Int) : Bool := p.right && (bits .and .u32 a (maskI p.l) == p.a)

theorem pre_right {p : Pre} (h : p.right = true) : 0 ≤ p.l ∧ p.l ≤ 32 := by
  simp only [Pre.right, Bool.and_eq_true, decide_eq_true_eq] at h; exact ⟨h.1.1, h.1.2⟩

theorem has_spec (p : Pre) (a : Int) : CallSpec Try.prog 68 [p.v, .int .u32 a] [] [] (fun v cs => v = .bool (p.has a) ∧ cs = []) := by
  refine CallSpec.of [.v p.v, .v (.int .u32 a)] [] (by kernel_rfl) (by kernel_rfl) (by kernel_rfl) (by kernel_rfl) fun w0 => ?_
  refine SG.run 400 fun ν => ?_
  cases h : p.right with
  | true =>
    obtain ⟨h1, h2⟩ := pre_right h
    refine SG.draw 13 [(1, .v (.bool true)), (6, .v (.int .u32 (maskI p.l)))] _ rfl (by kernel_rfl) (by kernel_rfl) (by kernel_rfl) (by kernel_rfl) (by kernel_rfl)
      ⟨OpTo.call [] [] ((right_spec p).mono fun v cs hh => by rw [hh.1, h]) (by kernel_rfl) (by kernel_rfl) (by kernel_rfl),
       OpTo.call [] [] ((mask_spec p.l h1 h2).mono fun v cs h => h.1) (by kernel_rfl) (by kernel_rfl) (by kernel_rfl), trivial⟩ ?_
    refine SG.run 400 fun ν => ?_
    exact SG.ret [] (.bool (bits .and .u32 a (maskI p.l) == p.a)) (by kernel_rfl) (by kernel_rfl) (by kernel_rfl) (by kernel_rfl) (by kernel_rfl) ⟨by simp [Pre.has, h], rfl⟩
  | false =>
    refine SG.draw 13 [(1, .v (.bool false))] _ rfl (by kernel_rfl) (by kernel_rfl) (by kernel_rfl) (by kernel_rfl) (by kernel_rfl)
      ⟨OpTo.call [] [] ((right_spec p).mono fun v cs hh => by rw [hh.1, h]) (by kernel_rfl) (by kernel_rfl) (by kernel_rfl), trivial⟩ ?_
    refine SG.run 400 fun ν => ?_
    exact SG.ret [] (.bool false) (by kernel_rfl) (by kernel_rfl) (by kernel_rfl) (by kernel_rfl) (by kernel_rfl) ⟨by simp [Pre.has, h], rfl⟩

structure Ent where
  p : Pre
  how : Int
  next : Int
  deriving DecidableEq, Inhabited
def Ent.c (e : Ent) : List Value := [.int .u32 e.p.a, .int .i64 e.p.l, .int .i64 e.how, .int .i64 e.next]
def Ent.v (e : Ent) : Value := .agg e.c.toArray
def ent0 : Ent := ⟨⟨0, 0⟩, 0, 0⟩
def lookupS (a : Int) (best e : Ent) : Ent := if e.p.has a && e.how != 0 && (best.how == 0 || decide (e.p.l > best.p.l)) then e else best
def lookupF (fs : List Ent) (a : Int) : Ent := fs.foldl (lookupS a) ent0

set_option maxRecDepth 10000 in
theorem lookup_spec (A : Option Addr) (cap : Nat) (fs : List Ent) (a : Int) (c : Chunk) (hc : ∀ w, c.holds w → SeqAt w A cap 4 (fs.map Ent.c)) (hn : fs.length ≤ 4611686018427387904) :
    CallSpec Try.prog 38 [.slice A fs.length cap, .int .u32 a] [] [c] (fun v cs => v = (lookupF fs a).v ∧ cs = []) := by
  refine CallSpec.of [.v (.slice A fs.length cap), .v (.int .u32 a)] [] (by kernel_rfl) (by kernel_rfl) (by kernel_rfl) (by kernel_rfl) fun w0 => ?_
  refine SG.run 400 fun ν => ?_
  refine SG.loopI (fun σ (x : Nat × Ent) => { σ with t := (11, .v (.int .i64 x.1)) :: keepT σ [1, 4, 5, 9, 10], h := (1, (blkOf σ.h 1, .cells (x.2.c.map .v) 39)) :: keepH σ [0], n := 2 })
    (fun x => x.1 ≤ fs.length ∧ x.2 = lookupF (fs.take x.1) a) (fun x => fs.length - x.1) (by kernel_rfl) (0, ent0) ⟨by omega, by simp [lookupF]⟩ (by kernel_rfl) (by kernel_rfl) (by kernel_rfl) ?_
  rintro ⟨k, best⟩ ⟨hk, hbest⟩ ih
  simp only at hk hbest
  refine SG.test 12 (decide ((k : Int) < (fs.length : Int))) (fun ν => by kernel_rfl) (fun h ν => ?_) (fun h ν => ?_)
  · have hlt : k < fs.length := by simpa using h
    have hnext : ∀ e', e' = lookupS a best fs[k] → k + 1 ≤ fs.length ∧ e' = lookupF (fs.take (k + 1)) a := by
      intro e' he
      refine ⟨hlt, ?_⟩
      rw [List.take_succ_eq_append_getElem hlt, lookupF, List.foldl_append, ← lookupF, ← hbest]; exact he
    have he := List.getElem?_eq_getElem hlt
    generalize fs[k] = e at hnext he
    refine SG.run 8 fun ν => ?_
    refine SG.elem c (Has.ro' 0 (by kernel_rfl) (by kernel_rfl)) 37 39 4 32 39 true A fs.length cap .i64 k k (fs.map Ent.c) e.c hc (by simp) (by simp [he]) rfl (by kernel_rfl) (by kernel_rfl) (by kernel_rfl) (by kernel_rfl) 13 (by kernel_rfl)
      (fun v => by kernel_rfl) (fun v => by kernel_rfl) (fun v => by kernel_rfl) (by kernel_rfl) e.v rfl (by simp) (fun u => ?_)
    refine SG.run 400 fun ν => ?_
    refine SG.call [] [] [] (has_spec e.p a) (by kernel_rfl) (by kernel_rfl) (by kernel_rfl) (by kernel_rfl) (by kernel_rfl) (by kernel_rfl) (by kernel_rfl) ?_
    rintro v cs ⟨rfl, rfl⟩
    refine SG.test 19 (e.p.has a) (fun ν => by kernel_rfl) (fun h1 ν => ?_) (fun h1 ν => ?_)
    · refine SG.test 22 (e.how != 0) (fun ν => by kernel_rfl) (fun h2 ν => ?_) (fun h2 ν => ?_)
      · refine SG.test 27 (best.how == 0) (fun ν => by kernel_rfl) (fun h3 ν => ?_) (fun h3 ν => ?_)
        · refine SG.run 400 fun ν => ?_
          refine SG.inc 11 k (by kernel_rfl) (by omega) ?_
          exact SG.next (ih (k + 1, e) (hnext e (by simp [lookupS, h1, h2, h3])) (by simp; omega)) (by kernel_rfl) (by kernel_rfl) (by kernel_rfl) (by kernel_rfl)
        · refine SG.test 35 (decide (e.p.l > best.p.l)) (fun ν => by kernel_rfl) (fun h4 ν => ?_) (fun h4 ν => ?_)
          · refine SG.run 400 fun ν => ?_
            refine SG.inc 11 k (by kernel_rfl) (by omega) ?_
            exact SG.next (ih (k + 1, e) (hnext e (by simp only [lookupS, h1, h2, h3, h4]; rfl)) (by simp; omega)) (by kernel_rfl) (by kernel_rfl) (by kernel_rfl) (by kernel_rfl)
          · refine SG.run 400 fun ν => ?_
            refine SG.inc 11 k (by kernel_rfl) (by omega) ?_
            exact SG.next (ih (k + 1, best) (hnext best (by simp only [lookupS, h1, h2, h3, h4]; rfl)) (by simp; omega)) (by kernel_rfl) (by kernel_rfl) (by kernel_rfl) (by kernel_rfl)
      · refine SG.run 400 fun ν => ?_
        refine SG.inc 11 k (by kernel_rfl) (by omega) ?_
        exact SG.next (ih (k + 1, best) (hnext best (by simp only [lookupS, h1, h2]; rfl)) (by simp; omega)) (by kernel_rfl) (by kernel_rfl) (by kernel_rfl) (by kernel_rfl)
    · refine SG.run 400 fun ν => ?_
      refine SG.inc 11 k (by kernel_rfl) (by omega) ?_
      exact SG.next (ih (k + 1, best) (hnext best (by simp only [lookupS, h1]; rfl)) (by simp; omega)) (by kernel_rfl) (by kernel_rfl) (by kernel_rfl) (by kernel_rfl)
  · have hk' : k = fs.length := by have : ¬ k < fs.length := by simpa using h
                                   omega
    subst hk'
    refine SG.run 400 fun ν => ?_
    refine SG.ret [] best.v (by kernel_rfl) (by kernel_rfl) (by kernel_rfl) (by kernel_rfl) (by kernel_rfl) ⟨by rw [hbest, List.take_length], rfl⟩
#print axioms lookup_spec
end Go.Proofs.Ytdholfagmlablaa
