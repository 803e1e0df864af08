/- What few and Fibs do: up to eight machines, up to forty entries. -/
import Derived.Test.YtdholfagmlablaaT1
namespace Go.Proofs.Ytdholfagmlablaa
open Go.Sx Go.Proofs

theorem few_spec (A : Option Addr) (n cap : Nat) : CallSpec Try.prog 8 [.slice A n cap] [] [] (fun v cs => v = .bool (decide ((n : Int) ≤ 40)) ∧ cs = []) := by
  refine CallSpec.of [.v (.slice A n cap)] [] (by kernel_rfl) (by kernel_rfl) (by kernel_rfl) (by kernel_rfl) fun w0 => ?_
  refine SG.run 400 fun ν => ?_
  exact SG.ret [] (.bool (decide ((n : Int) ≤ 40))) (by kernel_rfl) (by kernel_rfl) (by kernel_rfl) (by kernel_rfl) (by kernel_rfl) ⟨rfl, rfl⟩

structure Tri where
  a : Int
  b : Int
  c : Int
  deriving DecidableEq, Inhabited
def Tri.l (x : Tri) : List Value := [.int .i64 x.a, .int .i64 x.b, .int .i64 x.c]
structure Row where
  A : Option Addr
  cap : Nat
  es : List Ent
def Row.v (r : Row) : Value := .slice r.A r.es.length r.cap
def Row.ch (r : Row) : Chunk := rowC 39 4 r.A r.cap (r.es.map Ent.c)
def outerC (A : Option Addr) (cap : Nat) (rs : List Row) : Chunk := rowC 37 1 A cap (rs.map fun r => [r.v])

def pfx4 : List Pre := [⟨167772160, 8⟩, ⟨167837696, 16⟩, ⟨0, 0⟩, ⟨167838211, 32⟩]
def triE (x : Tri) : Ent := { p := pfx4.getD (x.b % 4).toNat default, how := x.c % 4, next := if x.c % 4 = 2 then x.c / 4 % 8 else 0 }
theorem and_mask (x : Int) (k : Nat) (hk : k ≤ 62) : bits .and .i64 x (2 ^ k - 1) = x % 2 ^ k := by
  have hN : (2 : Nat) ^ k ≤ 2 ^ 62 := Nat.pow_le_pow_right (by decide) hk
  have h1 : (2 : Int) ^ k ≤ 2 ^ 62 := by
    have := Int.ofNat_le.2 hN
    rw [Int.natCast_pow, Int.natCast_pow] at this
    exact this
  have h0 : (0 : Int) < 2 ^ k := Int.pow_pos (by decide)
  have hN0 : 0 < (2 : Nat) ^ k := Nat.pow_pos (by decide)
  have e1 : ((2 : Int) ^ k - 1) % 2 ^ 64 = 2 ^ k - 1 := Int.emod_eq_of_lt (by omega) (by omega)
  have e2 : ((2 : Int) ^ k - 1).toNat = 2 ^ k - 1 := by
    have : ((2 : Int) ^ k - 1) = ((2 ^ k - 1 : Nat) : Int) := by rw [Int.ofNat_sub hN0]; simp
    rw [this, Int.toNat_natCast]
  have key : (BitVec.ofInt 64 x &&& BitVec.ofInt 64 (2 ^ k - 1)).toNat = (x % 2 ^ 64).toNat % 2 ^ k := by
    rw [BitVec.toNat_and, BitVec.toNat_ofInt, BitVec.toNat_ofInt]
    have : ((2 : Int) ^ k - 1) % ((2 ^ 64 : Nat) : Int) = 2 ^ k - 1 := by simpa using e1
    rw [this, e2, Nat.and_two_pow_sub_one_eq_mod]
    rfl
  have hlt : (x % 2 ^ 64).toNat % 2 ^ k < 2 ^ k := Nat.mod_lt _ hN0
  have hb : bits .and .i64 x (2 ^ k - 1) = IntKind.i64.wrap ((BitVec.ofInt 64 x &&& BitVec.ofInt 64 (2 ^ k - 1)).toNat : Int) := rfl
  rw [hb, key, wrap_i64 (by omega) (by omega), Int.natCast_emod, Int.toNat_of_nonneg (Int.emod_nonneg _ (by decide))]
  rw [show (((2 ^ k : Nat)) : Int) = (2 : Int) ^ k by simp]
  exact Int.emod_emod_of_dvd x ⟨2 ^ (64 - k), by rw [← Int.pow_add]; congr 1; omega⟩
def Pre.c (p : Pre) : List Value := [.int .u32 p.a, .int .i64 p.l]
def triI (n : Nat) (x : Tri) : Nat := (IntKind.u64.wrap x.a).toNat % n
def fibsStep (n : Nat) (fs : List (List Ent)) (x : Tri) : List (List Ent) := fs.set (triI n x) (fs.getD (triI n x) [] ++ [triE x])
def fibsF (n : Nat) (l : List Tri) : List (List Ent) := l.foldl (fibsStep n) (List.replicate n [])

theorem ent_one (e : Ent) : ∀ u ∈ [e.c].flatten, u.oneCell' = true := by
  intro u hu
  simp only [List.flatten_cons, List.flatten_nil, List.append_nil, Ent.c, List.mem_cons, List.not_mem_nil, or_false] at hu
  rcases hu with rfl | rfl | rfl | rfl <;> rfl
theorem fold_len (n : Nat) : ∀ (l : List Tri) (fs : List (List Ent)), (l.foldl (fibsStep n) fs).length = fs.length
  | [], fs => rfl
  | x :: l, fs => by rw [List.foldl_cons, fold_len n l, fibsStep, List.length_set]
theorem fibs_len (n : Nat) (l : List Tri) : (fibsF n l).length = n := by
  rw [fibsF, fold_len, List.length_replicate]
theorem fold_es (n : Nat) : ∀ (l : List Tri) (fs : List (List Ent)) (m : Nat), (∀ f ∈ fs, f.length ≤ m) → ∀ f ∈ l.foldl (fibsStep n) fs, f.length ≤ m + l.length
  | [], fs, m, h => h
  | x :: l, fs, m, h => by
    intro f hf
    have := fold_es n l (fibsStep n fs x) (m + 1) (fun y hy => by
      unfold fibsStep at hy
      rcases List.mem_or_eq_of_mem_set hy with hy | rfl
      · exact Nat.le_succ_of_le (h y hy)
      · rw [List.length_append, List.length_singleton]
        have : (fs.getD (triI n x) []).length ≤ m := by
          rw [List.getD_eq_getElem?_getD]
          cases hq : fs[triI n x]? with
          | none => simp
          | some y => exact h y (List.mem_of_getElem? hq)
        omega) f hf
    rw [List.length_cons]; omega
theorem fibs_es (n : Nat) (l : List Tri) : ∀ f ∈ fibsF n l, f.length ≤ l.length := by
  intro f hf
  have := fold_es n l (List.replicate n []) 0 (fun f hf => by rw [(List.mem_replicate.1 hf).2]; simp) f hf
  omega
theorem fibs_next {n k : Nat} {l : List Tri} {e : Tri} (he : l[k]? = some e) : fibsF n (l.take (k + 1)) = fibsStep n (fibsF n (l.take k)) e := by
  rw [List.take_add_one, he, Option.toList_some, fibsF, List.foldl_append]; rfl

theorem inner0 (w : World) : ∀ m : Nat, (sepL ((List.replicate m (Row.mk none 0 [])).map Row.ch)).holds w ∧ ∀ x, ¬ (sepL ((List.replicate m (Row.mk none 0 [])).map Row.ch)).fp x
  | 0 => ⟨trivial, fun _ h => h⟩
  | m + 1 => by
    obtain ⟨h1, h2⟩ := inner0 w m
    rw [List.replicate_succ, List.map_cons]
    refine ⟨⟨row_nil w 39 4, h1, fun x _ hy => h2 x hy⟩, fun x hx => ?_⟩
    rcases hx with hx | hx
    · simp [Row.ch, rowC, Value.ownBlock] at hx
    · exact h2 x hx
theorem outer0 (A : Option Addr) (n : Nat) : outerC A n (List.replicate n (Row.mk none 0 [])) = rowC 37 1 A n (List.replicate n [.slice none 0 0]) := by
  unfold outerC
  rw [List.map_replicate]; rfl

theorem conv_back (A : Option Addr) (n i : Nat) (rs : List Row) (hi : i < rs.length) (r : Row) (B : Option Addr) (cap2 : Nat) (e : Ent) (N : Nat) (hN : N = r.es.length + 1) (w : World)
    (hw : (sepL [rowC 39 4 B cap2 (r.es.map Ent.c ++ [e.c]), sepL ((rs.map Row.ch).eraseIdx i), rowC 37 1 A n ((rs.map fun r => [r.v]).set i [.slice B N cap2])]).holds w) :
    (sepL [outerC A n (rs.set i ⟨B, cap2, r.es ++ [e]⟩), sepL ((rs.set i ⟨B, cap2, r.es ++ [e]⟩).map Row.ch)]).holds w ∧
      ∀ x, (sepL [outerC A n (rs.set i ⟨B, cap2, r.es ++ [e]⟩), sepL ((rs.set i ⟨B, cap2, r.es ++ [e]⟩).map Row.ch)]).fp x →
        (sepL [rowC 39 4 B cap2 (r.es.map Ent.c ++ [e.c]), sepL ((rs.map Row.ch).eraseIdx i), rowC 37 1 A n ((rs.map fun r => [r.v]).set i [.slice B N cap2])]).fp x := by
  have e1 : outerC A n (rs.set i ⟨B, cap2, r.es ++ [e]⟩) = rowC 37 1 A n ((rs.map fun r => [r.v]).set i [.slice B N cap2]) := by
    unfold outerC
    rw [List.map_set, hN]
    simp [Row.v]
  have e2 : (rs.set i ⟨B, cap2, r.es ++ [e]⟩).map Row.ch = (rs.map Row.ch).set i (rowC 39 4 B cap2 (r.es.map Ent.c ++ [e.c])) := by
    rw [List.map_set]
    congr 1
    simp [Row.ch]
  rw [e1, e2]
  generalize rowC 37 1 A n ((rs.map fun r => [r.v]).set i [.slice B N cap2]) = o at hw
  generalize rowC 39 4 B cap2 (r.es.map Ent.c ++ [e.c]) = c at hw
  obtain ⟨h1, ⟨h2, ⟨h3, _, _⟩, h4⟩, h5⟩ := hw
  obtain ⟨q1, q2⟩ := sepL_back (w := w) (l := rs.map Row.ch) (k := i) (c := c) (by simpa using hi) ⟨h1, ⟨h2, trivial, fun x _ hy => hy.elim⟩, fun x hx hy => h5 x hx (by
    rcases hy with hy | hy
    · exact .inl hy
    · exact hy.elim)⟩
  refine ⟨⟨h3, q1, fun x hx hy => ?_⟩, fun x hx => ?_⟩
  · rcases q2 x hy with hy | hy | hy
    · exact h5 x hy (.inr (.inl hx))
    · exact h4 x hy (.inl hx)
    · exact hy.elim
  · rcases hx with hx | hx
    · exact .inr (.inr (.inl hx))
    · rcases q2 x hx with hy | hy | hy
      · exact .inl hy
      · exact .inr (.inl hy)
      · exact hy.elim

set_option maxRecDepth 10000 in
theorem fibs_spec (n : Nat) (h1 : 1 ≤ n) (h2 : n ≤ 8) (L : Option Addr) (cap : Nat) (l : List Tri) (hl : l.length ≤ 40) (c : Chunk) (hc : ∀ w, c.holds w → SeqAt w L cap 3 (l.map Tri.l)) :
    CallSpec Try.prog 9 [.int .i64 n, .slice L l.length cap] [] [c]
      (fun v cs => ∃ A rs, rs.map Row.es = fibsF n l ∧ v = .slice A n n ∧ cs = [outerC A n rs, sepL (rs.map Row.ch)]) := by
  refine CallSpec.of [.v (.int .i64 n), .v (.slice L l.length cap)] [] (by kernel_rfl) (by kernel_rfl) (by kernel_rfl) (by kernel_rfl) fun w0 => ?_
  refine SG.run 7 fun ν => ?_
  refine SG.makeRow 26 37 1 24 .i64 .i64 n [.slice none 0 0] (by kernel_rfl) (by kernel_rfl) (by kernel_rfl) (by omega) (by kernel_rfl) (by kernel_rfl) fun g => ?_
  refine SG.conv [0] [rowC 37 1 (some ⟨g, 0, none⟩) n (List.replicate n [.slice none 0 0])] [outerC (some ⟨g, 0, none⟩) n (List.replicate n (Row.mk none 0 [])), sepL ((List.replicate n (Row.mk none 0 [])).map Row.ch)] (by kernel_rfl) (by kernel_rfl) (fun w hw => ?_) ?_
  · have h0 := inner0 w n
    rw [outer0]
    refine ⟨⟨sepL_one.1 hw, ⟨h0.1, trivial, fun x _ hy => hy.elim⟩, fun x _ hy => ?_⟩, fun x hx => ?_⟩
    · rcases hy with hy | hy
      · exact h0.2 x hy
      · exact hy.elim
    · rcases hx with hx | hx | hx
      · exact .inl hx
      · exact absurd hx (h0.2 x)
      · exact hx.elim
  refine SG.run 400 fun ν => ?_
  refine SG.loopI (fun σ (x : Nat × List Row) => { σ with t := (15, .v (.int .i64 x.1)) :: keepT σ [0, 5, 13, 14], h := (1, (0, .ab (outerC (some ⟨g, 0, none⟩) n x.2))) :: (2, (0, .ab (sepL (x.2.map Row.ch)))) :: keepH σ [0], n := 3 })
    (fun x => x.1 ≤ l.length ∧ x.2.map Row.es = fibsF n (l.take x.1)) (fun x => l.length - x.1) (by kernel_rfl) (0, List.replicate n (Row.mk none 0 [])) ⟨by omega, by simp [fibsF]⟩ (by kernel_rfl) (by kernel_rfl) (by kernel_rfl) ?_
  rintro ⟨k, rs⟩ ⟨hk, hrs⟩ ih
  simp only at hk hrs
  refine SG.test 16 (decide ((k : Int) < (l.length : Int))) (fun ν => by kernel_rfl) (fun h ν => ?_) (fun h ν => ?_)
  · have hlt : k < l.length := by simpa using h
    have he := List.getElem?_eq_getElem hlt
    generalize l[k] = e at he
    refine SG.pack ?_; intro q0
    refine SG.run 8 fun ν => ?_
    refine SG.elem c (Has.ro' 0 (by kernel_rfl) (by kernel_rfl)) 22 90 3 24 90 true L l.length cap .i64 k k (l.map Tri.l) e.l hc (by simp) (by simp [he]) rfl (by kernel_rfl) (by kernel_rfl) (by kernel_rfl) (by kernel_rfl) 17 (by kernel_rfl)
      (fun v => by kernel_rfl) (fun v => by kernel_rfl) (fun v => by kernel_rfl) (by kernel_rfl) (.agg e.l.toArray) rfl (by simp) (fun u => ?_)
    refine SG.run 10 fun ν => ?_
    refine SG.pack ?_; intro q1
    have htri : triI n e < n := Nat.mod_lt _ (by omega)
    refine SG.bin .rem 91 (.int .u64 (IntKind.u64.wrap e.a)) (.int .u64 (IntKind.u64.wrap (n : Int))) (.int .u64 (triI n e : Nat)) (by kernel_rfl) (by kernel_rfl) rfl ?_ (by kernel_rfl) ?_
    · have h4 := wrap_u64_range e.a
      rw [binOp_rem, wrap_u64 (x := (n : Int)) (by omega) (by omega)]
      simp only [Op.intDiv]
      rw [if_neg (by omega), Int.tmod_eq_emod_of_nonneg h4.1]
      simp only [triI]
      rw [Int.natCast_emod, Int.toNat_of_nonneg h4.1]
    refine SG.put 25 (.int .i64 (IntKind.i64.wrap (triI n e : Nat))) (.int .i64 (triI n e : Nat)) (fun ν => by kernel_rfl) (by rw [wrap_i64 (by omega) (by omega)]) fun ν => ?_
    refine SG.pack ?_; intro q2
    refine SG.put 33 (.int .i64 (bits .and .i64 e.b 3)) (.int .i64 (e.b % 4)) (fun ν => by kernel_rfl) (by rw [show (3 : Int) = 2 ^ 2 - 1 from rfl, and_mask _ _ (by omega)]; rfl) fun ν => ?_
    refine SG.elemC 4 (pfx4.map Pre.c).flatten 34 35 34 2 16 34 true 4 4 .i64 (e.b % 4) (e.b % 4).toNat (pfx4.map Pre.c) (pfx4.getD (e.b % 4).toNat default).c (by kernel_rfl) (by simp [pfx4, Pre.c]) rfl rfl rfl ?_ (by omega) (by kernel_rfl) (by kernel_rfl) (by kernel_rfl) (by kernel_rfl) 34 (by kernel_rfl)
      (fun v => by kernel_rfl) (fun v => by kernel_rfl) (fun v => by kernel_rfl) (by kernel_rfl) (pfx4.getD (e.b % 4).toNat default).v rfl (by simp) (fun u2 => ?_)
    · have h5 : (e.b % 4).toNat < 4 := by omega
      generalize (e.b % 4).toNat = q at h5
      match q, h5 with
      | 0, _ => rfl
      | 1, _ => rfl
      | 2, _ => rfl
      | 3, _ => rfl
    refine SG.pack ?_; intro q3
    refine SG.put 39 (.int .i64 (bits .and .i64 e.c 3)) (.int .i64 (e.c % 4)) (fun ν => by kernel_rfl) (by rw [show (3 : Int) = 2 ^ 2 - 1 from rfl, and_mask _ _ (by omega)]; rfl) fun ν => ?_
    refine SG.test 43 (e.c % 4 == 2) (fun ν => by kernel_rfl) (fun h4 ν => ?_) (fun h4 ν => ?_)
    · refine SG.put 46 (.int .i64 (e.c.fdiv (2 ^ min (Int.toNat 2) IntKind.i64.bits))) (.int .i64 (e.c / 4)) (fun ν => by kernel_rfl) (by rw [Int.fdiv_eq_ediv_of_nonneg]; rfl; decide) fun ν => ?_
      refine SG.put 47 (.int .i64 (bits .and .i64 (e.c / 4) 7)) (.int .i64 (e.c / 4 % 8)) (fun ν => by kernel_rfl) (by rw [show (7 : Int) = 2 ^ 3 - 1 from rfl, and_mask _ _ (by omega)]; rfl) fun ν => ?_
      refine SG.run 400 fun ν => ?_
      refine SG.recell 6 [.int .u32 (pfx4.getD (e.b % 4).toNat default).a, .int .i64 (pfx4.getD (e.b % 4).toNat default).l, .int .i64 (e.c % 4), .int .i64 (e.c / 4 % 8)] (triE e).c 39 (by kernel_rfl) (by kernel_rfl) (by
        have : e.c % 4 = 2 := by simpa using h4
        simp [triE, Ent.c, this]) ?_
      refine SG.pack ?_; intro q4
      have hlen : rs.length = n := by
        have := congrArg List.length hrs
        simpa [fibs_len] using this
      have hir : triI n e < rs.length := by rw [hlen]; exact htri
      have hr := List.getElem?_eq_getElem hir
      generalize rs[triI n e] = r at hr
      refine SG.conv [2] [sepL (rs.map Row.ch)] [r.ch, sepL ((rs.map Row.ch).eraseIdx (triI n e))] (by kernel_rfl) (by kernel_rfl) (fun w hw => ?_) ?_
      · obtain ⟨q1, q2⟩ := sepL_out (w := w) (l := rs.map Row.ch) (k := triI n e) (c := r.ch) (by simp [hr]) (sepL_one.1 hw)
        exact ⟨q1, fun x hx => sepL_one_fp.2 (q2 x hx)⟩
      have hbound : ((r.es.map Ent.c).length + [(triE e).c].length) * 32 ≤ 140737488355328 := by
        have h6 : r.es ∈ fibsF n (l.take k) := by rw [← hrs]; exact List.mem_map_of_mem (List.mem_of_getElem? hr)
        have h7 := fibs_es n (l.take k) r.es h6
        simp only [List.length_map, List.length_singleton, List.length_take] at h7 ⊢
        omega
      refine SG.pack ?_; intro q5
      refine SG.drawH 9 [7, 8] (by kernel_rfl) (by kernel_rfl) (by kernel_rfl) ?_
      have hseq : ∀ w, (outerC (some ⟨g, 0, none⟩) n rs).holds w → SeqAt w (some ⟨g, 0, none⟩) n 1 (rs.map fun r => [r.v]) := fun w hw => seq_row hw
      have hrx : (rs.map fun r => [r.v])[triI n e]? = some [r.v] := by simp [hr]
      refine Hv.cons [(4, .v (.pointer (some ((⟨g, 0, none⟩ : Addr).add (triI n e * 1))))), (5, .v r.v)] (by kernel_rfl) (by kernel_rfl) ⟨OpTo.index 26 37 1 24 ⟨g, 0, none⟩ n n .i64 (triI n e) (triI n e) (by kernel_rfl) (by kernel_rfl) rfl htri (by kernel_rfl),
        OpTo.load (outerC (some ⟨g, 0, none⟩) n rs) (Has.at' 1 (by kernel_rfl)) 37 1 false ⟨g, 0, none⟩ n (triI n e) (rs.map fun r => [r.v]) [r.v] hseq hrx (by kernel_rfl) (by kernel_rfl) r.v rfl (fun _ => rfl) (by kernel_rfl), trivial⟩ fun rest L K => ?_
      refine SG.run 1 fun ν1 => ?_
      refine SG.done K (.v (.slice (some ⟨ν1 0, 0, none⟩) 1 1)) (by kernel_rfl) (by kernel_rfl) ?_
      refine Hv.cons [(4, .v (.pointer (some ((⟨g, 0, none⟩ : Addr).add (triI n e * 1))))), (5, .v r.v)] (by kernel_rfl) (by kernel_rfl) ⟨OpTo.index 26 37 1 24 ⟨g, 0, none⟩ n n .i64 (triI n e) (triI n e) (by kernel_rfl) (by kernel_rfl) rfl htri (by kernel_rfl),
        OpTo.load (outerC (some ⟨g, 0, none⟩) n rs) (Has.at' 1 (by kernel_rfl)) 37 1 false ⟨g, 0, none⟩ n (triI n e) (rs.map fun r => [r.v]) [r.v] hseq hrx (by kernel_rfl) (by kernel_rfl) r.v rfl (fun _ => rfl) (by kernel_rfl), trivial⟩ fun rest L K => ?_
      refine SG.append 7 (cellsC (ν1 0) (triE e).c 39) (Has.at' 9 (by kernel_rfl)) 37 39 4 32 r.A r.es.length r.cap (r.es.map Ent.c) (some ⟨ν1 0, 0, none⟩) 1 1 [(triE e).c] (r.es.map Ent.c ++ [(triE e).c]) (r.es.length + 1)
        rfl (by simp) rfl (by simp) (by kernel_rfl) (by kernel_rfl) (by kernel_rfl) (by kernel_rfl) (fun w hw => seq_cells hw (by simp [Ent.c]) (by simp)) (ent_one _) hbound (by kernel_rfl) (by kernel_rfl) fun B cap2 => ?_
      refine SG.done K (.v (.slice B (r.es.length + 1) cap2)) (by kernel_rfl) (by kernel_rfl) ?_
      refine Hv.nil [(4, .v (.pointer (some ((⟨g, 0, none⟩ : Addr).add (triI n e * 1)))))] (by kernel_rfl) (by kernel_rfl) ⟨OpTo.index 26 37 1 24 ⟨g, 0, none⟩ n n .i64 (triI n e) (triI n e) (by kernel_rfl) (by kernel_rfl) rfl htri (by kernel_rfl), trivial⟩ ?_
      refine SG.pack ?_; intro q6
      refine SG.index 26 37 1 24 ⟨g, 0, none⟩ n n .i64 (triI n e) (triI n e) (by kernel_rfl) (by kernel_rfl) rfl htri (by kernel_rfl) (by kernel_rfl) ?_
      refine SG.storeRow 1 37 37 1 false ⟨g, 0, none⟩ n (triI n e) (rs.map fun r => [r.v]) (.slice B (r.es.length + 1) cap2) [.slice B (r.es.length + 1) cap2] (by kernel_rfl) (by kernel_rfl) rfl rfl (by simp [Value.oneCell']) (by kernel_rfl) (by kernel_rfl) (by simpa using hir) (by kernel_rfl) ?_
      refine SG.conv [7, 8, 1] [rowC 39 4 B cap2 (r.es.map Ent.c ++ [(triE e).c]), sepL ((rs.map Row.ch).eraseIdx (triI n e)), rowC 37 1 (some ⟨g, 0, none⟩) n ((rs.map fun r => [r.v]).set (triI n e) [.slice B (r.es.length + 1) cap2])]
        [outerC (some ⟨g, 0, none⟩) n (rs.set (triI n e) ⟨B, cap2, r.es ++ [triE e]⟩), sepL ((rs.set (triI n e) ⟨B, cap2, r.es ++ [triE e]⟩).map Row.ch)] (by kernel_rfl) (by kernel_rfl) (conv_back _ n _ rs hir r B cap2 _ _ rfl) ?_
      refine SG.pack ?_; intro q7
      refine SG.move 1 10 0 (outerC (some ⟨g, 0, none⟩) n (rs.set (triI n e) ⟨B, cap2, r.es ++ [triE e]⟩)) (by kernel_rfl) (by kernel_rfl) (by kernel_rfl) (by kernel_rfl) ?_
      refine SG.move 2 11 0 (sepL ((rs.set (triI n e) ⟨B, cap2, r.es ++ [triE e]⟩).map Row.ch)) (by kernel_rfl) (by kernel_rfl) (by kernel_rfl) (by kernel_rfl) ?_
      refine SG.run 400 fun ν2 => ?_
      refine SG.inc 15 k (by kernel_rfl) (by omega) ?_
      exact SG.next (ih (k + 1, rs.set (triI n e) ⟨B, cap2, r.es ++ [triE e]⟩) ⟨hlt, by rw [fibs_next he, ← hrs, fibsStep, List.map_set, List.getD_eq_getElem?_getD, List.getElem?_map, hr]; rfl⟩ (by simp only; omega)) (by kernel_rfl) (by kernel_rfl) (by kernel_rfl) (by kernel_rfl)
    · refine SG.run 400 fun ν => ?_
      refine SG.recell 6 [.int .u32 (pfx4.getD (e.b % 4).toNat default).a, .int .i64 (pfx4.getD (e.b % 4).toNat default).l, .int .i64 (e.c % 4), .int .i64 0] (triE e).c 39 (by kernel_rfl) (by kernel_rfl) (by
        have : ¬ e.c % 4 = 2 := by simpa using h4
        simp [triE, Ent.c, this]) ?_
      refine SG.pack ?_; intro q4
      have hlen : rs.length = n := by
        have := congrArg List.length hrs
        simpa [fibs_len] using this
      have hir : triI n e < rs.length := by rw [hlen]; exact htri
      have hr := List.getElem?_eq_getElem hir
      generalize rs[triI n e] = r at hr
      refine SG.conv [2] [sepL (rs.map Row.ch)] [r.ch, sepL ((rs.map Row.ch).eraseIdx (triI n e))] (by kernel_rfl) (by kernel_rfl) (fun w hw => ?_) ?_
      · obtain ⟨q1, q2⟩ := sepL_out (w := w) (l := rs.map Row.ch) (k := triI n e) (c := r.ch) (by simp [hr]) (sepL_one.1 hw)
        exact ⟨q1, fun x hx => sepL_one_fp.2 (q2 x hx)⟩
      have hbound : ((r.es.map Ent.c).length + [(triE e).c].length) * 32 ≤ 140737488355328 := by
        have h6 : r.es ∈ fibsF n (l.take k) := by rw [← hrs]; exact List.mem_map_of_mem (List.mem_of_getElem? hr)
        have h7 := fibs_es n (l.take k) r.es h6
        simp only [List.length_map, List.length_singleton, List.length_take] at h7 ⊢
        omega
      refine SG.pack ?_; intro q5
      refine SG.drawH 9 [7, 8] (by kernel_rfl) (by kernel_rfl) (by kernel_rfl) ?_
      have hseq : ∀ w, (outerC (some ⟨g, 0, none⟩) n rs).holds w → SeqAt w (some ⟨g, 0, none⟩) n 1 (rs.map fun r => [r.v]) := fun w hw => seq_row hw
      have hrx : (rs.map fun r => [r.v])[triI n e]? = some [r.v] := by simp [hr]
      refine Hv.cons [(4, .v (.pointer (some ((⟨g, 0, none⟩ : Addr).add (triI n e * 1))))), (5, .v r.v)] (by kernel_rfl) (by kernel_rfl) ⟨OpTo.index 26 37 1 24 ⟨g, 0, none⟩ n n .i64 (triI n e) (triI n e) (by kernel_rfl) (by kernel_rfl) rfl htri (by kernel_rfl),
        OpTo.load (outerC (some ⟨g, 0, none⟩) n rs) (Has.at' 1 (by kernel_rfl)) 37 1 false ⟨g, 0, none⟩ n (triI n e) (rs.map fun r => [r.v]) [r.v] hseq hrx (by kernel_rfl) (by kernel_rfl) r.v rfl (fun _ => rfl) (by kernel_rfl), trivial⟩ fun rest L K => ?_
      refine SG.run 1 fun ν1 => ?_
      refine SG.done K (.v (.slice (some ⟨ν1 0, 0, none⟩) 1 1)) (by kernel_rfl) (by kernel_rfl) ?_
      refine Hv.cons [(4, .v (.pointer (some ((⟨g, 0, none⟩ : Addr).add (triI n e * 1))))), (5, .v r.v)] (by kernel_rfl) (by kernel_rfl) ⟨OpTo.index 26 37 1 24 ⟨g, 0, none⟩ n n .i64 (triI n e) (triI n e) (by kernel_rfl) (by kernel_rfl) rfl htri (by kernel_rfl),
        OpTo.load (outerC (some ⟨g, 0, none⟩) n rs) (Has.at' 1 (by kernel_rfl)) 37 1 false ⟨g, 0, none⟩ n (triI n e) (rs.map fun r => [r.v]) [r.v] hseq hrx (by kernel_rfl) (by kernel_rfl) r.v rfl (fun _ => rfl) (by kernel_rfl), trivial⟩ fun rest L K => ?_
      refine SG.append 7 (cellsC (ν1 0) (triE e).c 39) (Has.at' 9 (by kernel_rfl)) 37 39 4 32 r.A r.es.length r.cap (r.es.map Ent.c) (some ⟨ν1 0, 0, none⟩) 1 1 [(triE e).c] (r.es.map Ent.c ++ [(triE e).c]) (r.es.length + 1)
        rfl (by simp) rfl (by simp) (by kernel_rfl) (by kernel_rfl) (by kernel_rfl) (by kernel_rfl) (fun w hw => seq_cells hw (by simp [Ent.c]) (by simp)) (ent_one _) hbound (by kernel_rfl) (by kernel_rfl) fun B cap2 => ?_
      refine SG.done K (.v (.slice B (r.es.length + 1) cap2)) (by kernel_rfl) (by kernel_rfl) ?_
      refine Hv.nil [(4, .v (.pointer (some ((⟨g, 0, none⟩ : Addr).add (triI n e * 1)))))] (by kernel_rfl) (by kernel_rfl) ⟨OpTo.index 26 37 1 24 ⟨g, 0, none⟩ n n .i64 (triI n e) (triI n e) (by kernel_rfl) (by kernel_rfl) rfl htri (by kernel_rfl), trivial⟩ ?_
      refine SG.pack ?_; intro q6
      refine SG.index 26 37 1 24 ⟨g, 0, none⟩ n n .i64 (triI n e) (triI n e) (by kernel_rfl) (by kernel_rfl) rfl htri (by kernel_rfl) (by kernel_rfl) ?_
      refine SG.storeRow 1 37 37 1 false ⟨g, 0, none⟩ n (triI n e) (rs.map fun r => [r.v]) (.slice B (r.es.length + 1) cap2) [.slice B (r.es.length + 1) cap2] (by kernel_rfl) (by kernel_rfl) rfl rfl (by simp [Value.oneCell']) (by kernel_rfl) (by kernel_rfl) (by simpa using hir) (by kernel_rfl) ?_
      refine SG.conv [7, 8, 1] [rowC 39 4 B cap2 (r.es.map Ent.c ++ [(triE e).c]), sepL ((rs.map Row.ch).eraseIdx (triI n e)), rowC 37 1 (some ⟨g, 0, none⟩) n ((rs.map fun r => [r.v]).set (triI n e) [.slice B (r.es.length + 1) cap2])]
        [outerC (some ⟨g, 0, none⟩) n (rs.set (triI n e) ⟨B, cap2, r.es ++ [triE e]⟩), sepL ((rs.set (triI n e) ⟨B, cap2, r.es ++ [triE e]⟩).map Row.ch)] (by kernel_rfl) (by kernel_rfl) (conv_back _ n _ rs hir r B cap2 _ _ rfl) ?_
      refine SG.pack ?_; intro q7
      refine SG.move 1 10 0 (outerC (some ⟨g, 0, none⟩) n (rs.set (triI n e) ⟨B, cap2, r.es ++ [triE e]⟩)) (by kernel_rfl) (by kernel_rfl) (by kernel_rfl) (by kernel_rfl) ?_
      refine SG.move 2 11 0 (sepL ((rs.set (triI n e) ⟨B, cap2, r.es ++ [triE e]⟩).map Row.ch)) (by kernel_rfl) (by kernel_rfl) (by kernel_rfl) (by kernel_rfl) ?_
      refine SG.run 400 fun ν2 => ?_
      refine SG.inc 15 k (by kernel_rfl) (by omega) ?_
      exact SG.next (ih (k + 1, rs.set (triI n e) ⟨B, cap2, r.es ++ [triE e]⟩) ⟨hlt, by rw [fibs_next he, ← hrs, fibsStep, List.map_set, List.getD_eq_getElem?_getD, List.getElem?_map, hr]; rfl⟩ (by simp only; omega)) (by kernel_rfl) (by kernel_rfl) (by kernel_rfl) (by kernel_rfl)
  · have hk' : k = l.length := by have : ¬ k < l.length := by simpa using h
                                  omega
    subst hk'
    refine SG.run 400 fun ν => ?_
    refine SG.ret [1, 2] (.slice (some ⟨g, 0, none⟩) n n) (by kernel_rfl) (by kernel_rfl) (by kernel_rfl) (by kernel_rfl) (by kernel_rfl) ⟨_, rs, by rw [hrs, List.take_length], rfl, by kernel_rfl⟩
#print axioms fibs_spec
end Go.Proofs.Ytdholfagmlablaa
