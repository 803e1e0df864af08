/- What loop.Addresses does: up to eight machines, up to twelve addresses, no length below 0. -/
import Derived.Test.YtdholfagmlablaaT15
import Derived.Test.YtdholfagmlablaaSxN
namespace Go.Proofs.Ytdholfagmlablaa
open Go.Sx Go.Proofs

def lastA (p : Pre) : Int := bits .or .u32 p.a ((4294967295 : Int).fdiv (2 ^ min p.l.toNat IntKind.u32.bits))
def addrs1 (e : Ent) : List Int := e.p.a :: if e.p.l < 32 then [lastA e.p] else []
def addrsE (es : List Ent) : List Int := es.flatMap addrs1
def addrsF (es : List Ent) : List Int := dedupF (insortF (addrsE es))
theorem insort_len (xs : List Int) : (insortF xs).length = xs.length := by rw [insortF, List.length_reverse, foldV_len, List.length_nil]; omega
structure IR where
  i : Nat
  B : Option Addr
  cap : Nat
  xs : List Int
theorem addrsE_len (es : List Ent) : (addrsE es).length ≤ 2 * es.length := by
  induction es with
  | nil => simp [addrsE]
  | cons e es ih =>
    simp only [addrsE, List.flatMap_cons, List.length_append, List.length_cons] at ih ⊢
    have : (addrs1 e).length ≤ 2 := by unfold addrs1; split <;> simp
    omega
theorem addrsE_next {es : List Ent} {k : Nat} {e : Ent} (h : es[k]? = some e) : addrsE (es.take (k + 1)) = addrsE (es.take k) ++ addrs1 e := by
  rw [List.take_add_one, h, addrsE, List.flatMap_append]; simp [addrsE]
set_option maxHeartbeats 4000000 in
set_option maxRecDepth 100000 in
theorem addresses_walk (A : Option Addr) (n : Nat) (hn : n ≤ 8) (rs : List Row) (hrs : rs.length = n) (hes : ∀ r ∈ rs, r.es.length ≤ 40) (hl : ∀ r ∈ rs, ∀ e ∈ r.es, 0 ≤ e.p.l) (h12 : (addrsE (rs.flatMap Row.es)).length ≤ 12) :
    CallSpec Try.prog 66 [.slice A n n] [] [outerC A n rs, inC rs] (fun v cs => ∃ B cap, v = .slice B (addrsF (rs.flatMap Row.es)).length cap ∧ cs = [rowC 23 1 B cap (u32s (addrsF (rs.flatMap Row.es)))]) := by
  refine CallSpec.of [.v (.slice A n n)] [] (by kernel_rfl) (by kernel_rfl) (by kernel_rfl) (by kernel_rfl) fun w0 => ?_
  refine SG.run 16 fun ν0 => ?_
  refine SG.nilRow 23 1 ?_
  refine SG.loopI (fun σ (x : IR) => { σ with t := (10, .v (.int .i64 x.i)) :: (3, .v (.slice x.B x.xs.length x.cap)) :: keepT σ [2, 8, 9], h := [(0, (0, .ab (rowC 23 1 x.B x.cap (u32s x.xs))))], n := 1 })
    (fun x => x.i ≤ n ∧ x.xs.length ≤ 80 * x.i ∧ x.xs = addrsE ((rs.take x.i).flatMap Row.es)) (fun x => n - x.i) (by kernel_rfl) ⟨0, none, 0, []⟩ ⟨by simp, by simp, by simp [addrsE]⟩ (by kernel_rfl) (by kernel_rfl) (by kernel_rfl) ?_
  rintro ⟨k, B, cap, ys⟩ ⟨hk, hyl, hys⟩ ih
  simp only at hk hyl hys
  refine SG.run 5 fun ν1 => ?_
  refine SG.split 11 (decide ((↑k : Int) < (↑n : Int))) (by kernel_rfl) (fun h2 => ?_) (fun h2 => ?_)
  · -- true
    replace h2 := of_decide_eq_true h2
    refine SG.pack ?_; intro q2
    refine SG.run 6 fun ν3 => ?_
    refine SG.member rs k (by omega) fun r hr => ?_
    have hr40 := hes r (List.mem_of_getElem? hr)
    refine SG.pack ?_; intro q5
    refine SG.el (outerC A n rs) (Has.ro' 0 (by kernel_rfl) (by kernel_rfl)) (A) (n) (n) IntKind.i64 (k) 1 (List.map (fun r ↦ [Row.v r]) rs) ([Row.v r]) (fun w hw => seq_row hw) (by simp [hrs]) (map_get hr) (by kernel_rfl) (fun v => by kernel_rfl) fun u5 => ?_
    refine SG.run 9 fun ν6 => ?_
    refine SG.loopI (fun σ (x : IR) => { σ with t := (16, .v (.int .i64 x.i)) :: (3, .v (.slice x.B x.xs.length x.cap)) :: keepT σ [2, 8, 9, 10, 14, 15], h := [(0, (0, .ab (rowC 23 1 x.B x.cap (u32s x.xs))))], n := 1 })
      (fun x => x.i ≤ r.es.length ∧ x.xs.length ≤ 80 * k + 2 * x.i ∧ x.xs = ys ++ addrsE (r.es.take x.i)) (fun x => r.es.length - x.i) (by kernel_rfl) ⟨0, B, cap, ys⟩ ⟨by simp, by simp; omega, by simp [addrsE]⟩ (by kernel_rfl) (by kernel_rfl) (by kernel_rfl) ?_
    rintro ⟨j, B2, cap2, zs⟩ ⟨hj, hzl, hzs⟩ ih2
    simp only at hj hzl hzs
    refine SG.run 5 fun ν10 => ?_
    refine SG.split 17 (decide ((↑j : Int) < (↑(List.length r.es) : Int))) (by kernel_rfl) (fun h11 => ?_) (fun h11 => ?_)
    · -- true
      replace h11 := of_decide_eq_true h11
      refine SG.pack ?_; intro q11
      refine SG.run 6 fun ν12 => ?_
      refine SG.member r.es j (by omega) fun e he => ?_
      have hl0 := hl r (List.mem_of_getElem? hr) e (List.mem_of_getElem? he)
      have hb := bin_shr 23 .u32 .i64 4294967295 e.p.l hl0
      refine SG.pack ?_; intro q14
      refine SG.el (inC rs) (Has.ro' 1 (by kernel_rfl) (by kernel_rfl)) (r.A) (List.length r.es) (r.cap) IntKind.i64 (j) 4 (List.map Ent.c r.es) (Ent.c e) (fun w hw => seq_row (sepL_get hr hw)) (List.length_map _) (map_get he) (by kernel_rfl) (fun v => by kernel_rfl) fun u14 => ?_
      refine SG.run 10 fun ν15 => ?_
      refine SG.ap 0 (cellsC (ν15 9) [Value.int IntKind.u32 e.p.a] 23) (Has.at' 2 (by kernel_rfl)) (B2) (List.length zs) (cap2) (u32s zs) (some { block := ν15 9, off := 0 }) 1 1 [[Value.int IntKind.u32 e.p.a]] ((List.length zs) + 1) 1 4 (List.length_map _) rfl rfl (by kernel_rfl) (by kernel_rfl) (by kernel_rfl) (by kernel_rfl) (by kernel_rfl) (fun w hw => seq_cells hw (by simp) (by simp)) (by simp [Value.oneCell']) (by omega) fun B16 cap16 => ?_
      refine SG.reRow 0 23 1 B16 cap16 (u32s zs ++ [[Value.int IntKind.u32 e.p.a]]) (u32s (zs ++ [e.p.a])) (by kernel_rfl) (by kernel_rfl) (by simp [u32s]) ?_
      have hzl2 : (zs ++ [e.p.a]).length = zs.length + 1 := by simp
      refine SG.run 9 fun ν17 => ?_
      refine SG.split 29 (decide (e.p.l < 32)) (by kernel_rfl) (fun h18 => ?_) (fun h18 => ?_)
      · -- true
        replace h18 := of_decide_eq_true h18
        refine SG.pack ?_; intro q18
        refine SG.run 1 fun ν19 => ?_
        refine SG.pack ?_; intro q20
        refine SG.drawH 11 [9, 10] (by kernel_rfl) (by kernel_rfl) (by kernel_rfl) ?_
        refine Hv.cons [(7, .v (Value.int IntKind.u32 (Int.fdiv 4294967295 (2 ^ min (Int.toNat e.p.l) (IntKind.bits IntKind.u32)))))] (by kernel_rfl) (by kernel_rfl) ⟨OpTo.bin BinOp.shr 23 (Value.int IntKind.u32 4294967295) (Value.int IntKind.i64 e.p.l) _ (by kernel_rfl) (by kernel_rfl) rfl hb, trivial⟩ fun rest21 L21 K21 => ?_
        refine SG.run 1 fun ν22 => ?_
        refine SG.done K21 (SV.v (Value.slice (some { block := ν22 0, off := 0 }) 1 1)) (by kernel_rfl) (by kernel_rfl) ?_
        refine Hv.cons [(7, .v (Value.int IntKind.u32 (Int.fdiv 4294967295 (2 ^ min (Int.toNat e.p.l) (IntKind.bits IntKind.u32)))))] (by kernel_rfl) (by kernel_rfl) ⟨OpTo.bin BinOp.shr 23 (Value.int IntKind.u32 4294967295) (Value.int IntKind.i64 e.p.l) _ (by kernel_rfl) (by kernel_rfl) rfl hb, trivial⟩ fun rest23 L23 K23 => ?_
        refine SG.ap 0 (cellsC (ν22 0) [Value.int IntKind.u32 (IntKind.wrap IntKind.u32 (↑(BitVec.toNat (BitVec.ofInt (IntKind.bits IntKind.u32) e.p.a ||| BitVec.ofInt (IntKind.bits IntKind.u32) (Int.fdiv 4294967295 (2 ^ min (Int.toNat e.p.l) (IntKind.bits IntKind.u32))))) : Int))] 23) (Has.at' 3 (by kernel_rfl)) (B16) (List.length zs + 1) (cap16) (u32s (zs ++ [e.p.a])) (some { block := ν22 0, off := 0 }) 1 1 [[Value.int IntKind.u32 (IntKind.wrap IntKind.u32 (↑(BitVec.toNat (BitVec.ofInt (IntKind.bits IntKind.u32) e.p.a ||| BitVec.ofInt (IntKind.bits IntKind.u32) (Int.fdiv 4294967295 (2 ^ min (Int.toNat e.p.l) (IntKind.bits IntKind.u32))))) : Int))]] ((List.length zs + 1) + 1) 1 4 (by first | assumption | exact List.length_map _ | (show (List.map _ _).length = _; rw [List.length_map]; first | assumption | omega | (simp; omega)) | (simp only [List.length_set, List.length_append, List.length_cons, List.length_nil]; first | assumption | omega) | rfl | (simp; done) | (simp; omega) | (simp [*]; done)) rfl rfl (by kernel_rfl) (by kernel_rfl) (by kernel_rfl) (by kernel_rfl) (by kernel_rfl) (fun w hw => seq_cells hw (by simp) (by simp)) (by simp [Value.oneCell']) (by first | assumption | omega | (simp; done) | (simp; omega) | (simp [*]; done) | (simp [*]; omega)) fun B25 cap25 => ?_
        refine SG.done K23 (SV.v (Value.slice B25 (List.length zs + 1 + 1) cap25)) (by kernel_rfl) (by kernel_rfl) ?_
        refine Hv.nil [(7, .v (Value.int IntKind.u32 (Int.fdiv 4294967295 (2 ^ min (Int.toNat e.p.l) (IntKind.bits IntKind.u32)))))] (by kernel_rfl) (by kernel_rfl) ⟨OpTo.bin BinOp.shr 23 (Value.int IntKind.u32 4294967295) (Value.int IntKind.i64 e.p.l) _ (by kernel_rfl) (by kernel_rfl) rfl hb, trivial⟩ ?_
        refine SG.run 5 fun ν26 => ?_
        refine SG.nat 41 IntKind.i64 (IntKind.wrap IntKind.i64 ((↑j : Int) + 1)) (j + 1) (by kernel_rfl) (by (repeat first | rw [wrap_i64 (by omega) (by omega)] | rw [wrap_u64 (by omega) (by omega)]); first | done | omega) ?_
        refine SG.run 2 fun ν27 => ?_
        refine SG.reRow 0 23 1 B25 cap25 (u32s (zs ++ [e.p.a]) ++ [[Value.int IntKind.u32 (IntKind.wrap IntKind.u32 (↑(BitVec.toNat (BitVec.ofInt (IntKind.bits IntKind.u32) e.p.a ||| BitVec.ofInt (IntKind.bits IntKind.u32) (Int.fdiv 4294967295 (2 ^ min (Int.toNat e.p.l) (IntKind.bits IntKind.u32))))) : Int))]]) (u32s (ys ++ addrsE (r.es.take (j + 1)))) (by kernel_rfl) (by kernel_rfl) (by
          rw [addrsE_next he, addrs1, if_pos h18, ← List.append_assoc, ← hzs]
          simp only [u32s, List.map_append, List.map_cons, List.map_nil, List.append_assoc]; rfl) ?_
        have hlen : (ys ++ addrsE (r.es.take (j + 1))).length = zs.length + 1 + 1 := by
          rw [addrsE_next he, addrs1, if_pos h18, ← List.append_assoc, ← hzs]; simp
        refine SG.slot 3 (.v (.slice B25 (zs.length + 1 + 1) cap25)) (.v (.slice B25 (ys ++ addrsE (r.es.take (j + 1))).length cap25)) (by kernel_rfl) (by rw [hlen]) trivial ?_
        exact SG.next (ih2 ⟨j + 1, B25, cap25, ys ++ addrsE (r.es.take (j + 1))⟩ ⟨by simp only; omega, by simp only; omega, rfl⟩ (by simp only; omega)) (by kernel_rfl) (by kernel_rfl) (by kernel_rfl) (by kernel_rfl)
      · -- false
        replace h18 := of_decide_eq_false h18
        refine SG.pack ?_; intro q18
        refine SG.run 5 fun ν28 => ?_
        refine SG.nat 41 IntKind.i64 (IntKind.wrap IntKind.i64 ((↑j : Int) + 1)) (j + 1) (by kernel_rfl) (by (repeat first | rw [wrap_i64 (by omega) (by omega)] | rw [wrap_u64 (by omega) (by omega)]); first | done | omega) ?_
        refine SG.run 2 fun ν29 => ?_
        refine SG.reRow 0 23 1 B16 cap16 (u32s (zs ++ [e.p.a])) (u32s (ys ++ addrsE (r.es.take (j + 1)))) (by kernel_rfl) (by kernel_rfl) (by
          rw [addrsE_next he, addrs1, if_neg h18, ← List.append_assoc, ← hzs]) ?_
        have hlen : (ys ++ addrsE (r.es.take (j + 1))).length = zs.length + 1 := by
          rw [addrsE_next he, addrs1, if_neg h18, ← List.append_assoc, ← hzs]; simp
        refine SG.slot 3 (.v (.slice B16 (zs.length + 1) cap16)) (.v (.slice B16 (ys ++ addrsE (r.es.take (j + 1))).length cap16)) (by kernel_rfl) (by rw [hlen]) trivial ?_
        exact SG.next (ih2 ⟨j + 1, B16, cap16, ys ++ addrsE (r.es.take (j + 1))⟩ ⟨by simp only; omega, by simp only; omega, rfl⟩ (by simp only; omega)) (by kernel_rfl) (by kernel_rfl) (by kernel_rfl) (by kernel_rfl)
    · -- false
      replace h11 := of_decide_eq_false h11
      refine SG.pack ?_; intro q11
      refine SG.run 7 fun ν16 => ?_
      have hj' : j = r.es.length := by omega
      subst hj'
      refine SG.inc 10 k (by kernel_rfl) (by omega) ?_
      exact SG.next (ih ⟨k + 1, B2, cap2, zs⟩ ⟨by simp only; omega, by simp only; omega, by simp only; rw [hzs, hys, List.take_add_one, hr]; simp [addrsE]⟩ (by simp only; omega)) (by kernel_rfl) (by kernel_rfl) (by kernel_rfl) (by kernel_rfl)
  · -- false
    replace h2 := of_decide_eq_false h2
    refine SG.pack ?_; intro q2
    refine SG.run 5 fun ν7 => ?_
    have hkn : k = n := by omega
    have hall : ys = addrsE (rs.flatMap Row.es) := by rw [hys, hkn, ← hrs, List.take_length]
    have hy12 : ys.length ≤ 12 := by rw [hall]; exact h12
    have hins : (insortF ys).length = ys.length := insort_len ys
    refine SG.pack ?_; intro q20
    refine SG.call [0] [] [] (sort12_spec (B) (cap) (ys) (List.length ys) (by first | assumption | omega | (simp; done) | (simp; omega) | simp [*] | (simp [*]; omega)) (by first | assumption | omega | (simp; done) | (simp; omega) | simp [*] | (simp [*]; omega))) (by kernel_rfl) (by kernel_rfl) (by kernel_rfl) (by kernel_rfl) (by kernel_rfl) (by kernel_rfl) (by kernel_rfl) ?_
    rintro v20 cs20 ⟨rfl, rfl⟩
    refine SG.pack ?_; intro q20
    refine SG.run 4 fun ν21 => ?_
    refine SG.pack ?_; intro q22
    refine SG.call [1] [] [] (compact_spec (B) (cap) (insortF ys) (List.length ys) (by first | assumption | omega | (simp; done) | (simp; omega) | simp [*] | (simp [*]; omega)) (by first | assumption | omega | (simp; done) | (simp; omega) | simp [*] | (simp [*]; omega))) (by kernel_rfl) (by kernel_rfl) (by kernel_rfl) (by kernel_rfl) (by kernel_rfl) (by kernel_rfl) (by kernel_rfl) ?_
    rintro v22 cs22 ⟨rfl, rfl⟩
    refine SG.pack ?_; intro q22
    refine SG.run 2 fun ν23 => ?_
    refine SG.ret [2] (Value.slice B (List.length (dedupF (insortF ys))) cap) (by kernel_rfl) (by kernel_rfl) (by kernel_rfl) (by kernel_rfl) (by kernel_rfl) ⟨B, cap, ?_⟩
    rw [addrsF, ← hall]
    exact ⟨rfl, by kernel_rfl⟩
end Go.Proofs.Ytdholfagmlablaa
