/- The Go function LoopWalks answers true and turns nothing that was there (for every argument that reads as data). -/
import Derived.Test.YtdholfagmlablaaT17
import Derived.Test.YtdholfagmlablaaT9
import Derived.Test.YtdholfagmlablaaSxN
namespace Go.Proofs.Ytdholfagmlablaa
open Go.Sx Go.Proofs

set_option maxRecDepth 100000 in
set_option maxHeartbeats 4000000 in
theorem loopWalks_spec (n0 : Int) (L : Option Addr) (cap : Nat) (l : List Tri) (p0 : Int) (a : Nat) (ha : a < 2 ^ 32) (c : Chunk) (hc : ∀ w, c.holds w → SeqAt w L cap 3 (l.map Tri.l)) :
    CallSpec Try.prog 3 [.int .i64 n0, .slice L l.length cap, .int .i64 p0, .int .u32 a] [] [c] (fun v cs => v = .bool true ∧ cs = []) := by
  refine CallSpec.of [.v (.int .i64 n0), .v (.slice L l.length cap), .v (.int .i64 p0), .v (.int .u32 a)] [] (by kernel_rfl) (by kernel_rfl) (by kernel_rfl) (by kernel_rfl) fun w0 => ?_
  refine SG.run 7 fun ν0 => ?_
  refine SG.pack ?_; intro q1
  refine SG.call [] [] [] (head_spec) (by kernel_rfl) (by kernel_rfl) (by kernel_rfl) (by kernel_rfl) (by kernel_rfl) (by kernel_rfl) (by kernel_rfl) ?_
  rintro v1 cs1 ⟨rfl, rfl⟩
  refine SG.pack ?_; intro q1
  refine SG.run 8 fun ν2 => ?_
  refine SG.pack ?_; intro q3
  refine SG.call [] [] [] (few_spec (L) (List.length l) (cap)) (by kernel_rfl) (by kernel_rfl) (by kernel_rfl) (by kernel_rfl) (by kernel_rfl) (by kernel_rfl) (by kernel_rfl) ?_
  rintro v3 cs3 ⟨rfl, rfl⟩
  refine SG.pack ?_; intro q3
  refine SG.run 2 fun ν4 => ?_
  refine SG.split 21 (!decide ((↑(List.length l) : Int) ≤ 40)) (by kernel_rfl) (fun h5 => ?_) (fun h5 => ?_)
  · -- true
    refine SG.pack ?_; intro q5
    refine SG.run 5 fun ν6 => ?_
    refine SG.ret [] (Value.bool true) (by kernel_rfl) (by kernel_rfl) (by kernel_rfl) (by kernel_rfl) (by kernel_rfl) ?_
    exact ⟨by kernel_rfl, by kernel_rfl⟩
  · -- false
    refine SG.pack ?_; intro q5
    have hl : l.length ≤ 40 := by
      have : (decide ((l.length : Int) ≤ 40)) = true := by simpa using h5
      have := of_decide_eq_true this
      omega
    have hn0 : IntKind.wrap IntKind.i64 (1 + bits .and .i64 n0 7) = (((n0 % 8).toNat + 1 : Nat) : Int) := by
      rw [show (7 : Int) = 2 ^ 3 - 1 from rfl, and_mask _ _ (by omega), wrap_i64 (by omega) (by omega)]; omega
    generalize hN : (n0 % 8).toNat + 1 = n at hn0
    have h1 : 1 ≤ n := by omega
    have h2 : n ≤ 8 := by omega
    refine SG.put 24 (.int .i64 (IntKind.wrap IntKind.i64 (1 + bits .and .i64 n0 7))) (.int .i64 n) (fun ν => by kernel_rfl) (by rw [hn0]) fun ν7 => ?_
    refine SG.pack ?_; intro q6
    refine SG.run 6 fun ν8 => ?_
    refine SG.pack ?_; intro q8
    refine SG.call [] [] [0] (fibs_spec n h1 h2 L cap l hl c hc) (by kernel_rfl) (by kernel_rfl) (by kernel_rfl) (by kernel_rfl) (by kernel_rfl) (by kernel_rfl) (by kernel_rfl) ?_
    rintro v8 cs8 ⟨A, rs, hes, rfl, rfl⟩
    have hrl : rs.length = n := by
      have := congrArg List.length hes
      rwa [List.length_map, fibs_len] at this
    have hr40 : ∀ r ∈ rs, r.es.length ≤ 40 := fun r hr => by
      have := fibs_es n l r.es (by rw [← hes]; exact List.mem_map_of_mem hr)
      omega
    have hpfx : ∀ f ∈ rs.map Row.es, ∀ e ∈ f, e.p ∈ pfx4 := by rw [hes]; exact fibs_pfx n l
    have hw := walk_eq (rs.map Row.es) a ha hpfx (n + 1) [] p0
    have hlen := walk_len0 (rs.map Row.es) a (n + 1) p0
    have sp1 := walk_spec A n h2 rs hrl hr40 p0 a
    have sp2 := walk2_spec A n h2 rs hrl hr40 p0 a
    rw [hw] at sp2
    rw [List.length_map, hrl] at hlen
    generalize walkF (rs.map Row.es) a (n + 1) [] p0 = W at sp1 sp2 hlen
    refine SG.pack ?_; intro q9
    refine SG.run 7 fun ν10 => ?_
    refine SG.pack ?_; intro q11
    refine SG.call [] [0, 1] [] (sp1) (by kernel_rfl) (by kernel_rfl) (by kernel_rfl) (by kernel_rfl) (by kernel_rfl) (by kernel_rfl) (by kernel_rfl) ?_
    rintro v11 cs11 ⟨B13, cap12, rfl, rfl⟩
    refine SG.pack ?_; intro q11
    refine SG.run 13 fun ν14 => ?_
    refine SG.pack ?_; intro q15
    refine SG.call [] [0, 1] [] (sp2) (by kernel_rfl) (by kernel_rfl) (by kernel_rfl) (by kernel_rfl) (by kernel_rfl) (by kernel_rfl) (by kernel_rfl) ?_
    rintro v15 cs15 ⟨B17, cap16, rfl, rfl⟩
    refine SG.pack ?_; intro q15
    refine SG.run 15 fun ν18 => ?_
    refine SG.dec 47 (W.snd.fst != W.snd.fst) false (by first | assumption | (simp only [decide_eq_false_iff_not]; omega) | (simp; done) | (simp; omega)) (by kernel_rfl) ?_
    refine SG.run 5 fun ν19 => ?_
    refine SG.dec 52 (!W.snd.snd == W.snd.snd) false (by first | assumption | (simp only [decide_eq_false_iff_not]; omega) | (simp; done) | (simp; omega)) (by kernel_rfl) ?_
    refine SG.run 7 fun ν20 => ?_
    refine SG.dec 59 ((↑(List.length W.fst) : Int) != (↑(List.length W.fst) : Int)) false (by first | assumption | (simp only [decide_eq_false_iff_not]; omega) | (simp; done) | (simp; omega)) (by kernel_rfl) ?_
    refine SG.run 6 fun ν21 => ?_
    refine SG.dec 64 (decide ((↑(List.length W.fst) : Int) > (↑n : Int))) false (by first | assumption | (simp only [decide_eq_false_iff_not]; omega) | (simp; done) | (simp; omega)) (by kernel_rfl) ?_
    refine SG.run 10 fun ν22 => ?_
    refine SG.loopI (fun σ (k : Nat) => { σ with t := (67, .v (.int .i64 k)) :: keepT σ [8, 10, 13, 66], h := keepH σ [0, 1, 2, 3], n := 4 }) (fun k => k ≤ W.1.length) (fun k => W.1.length - k) (by kernel_rfl) 0 (by omega) (by kernel_rfl) (by kernel_rfl) (by kernel_rfl) ?_
    rintro k hk ih
    refine SG.pack ?_; intro q23
    refine SG.cases (decide ((k : Int) < (W.1.length : Int))) (fun hb8 => ?_) (fun hb8 => ?_)
    · have h8 := of_decide_eq_true hb8
      refine Exists.elim (show ∃ x, W.1[k]? = some x from ⟨_, List.getElem?_eq_getElem (by omega)⟩) fun x hx => ?_
      refine SG.run 5 fun ν30 => ?_
      refine SG.dec 68 (decide ((↑k : Int) < (↑(List.length W.fst) : Int))) true (by first | assumption | (simp only [decide_eq_true_eq]; omega) | (simp; done) | (simp; omega)) (by kernel_rfl) ?_
      refine SG.run 10 fun ν31 => ?_
      refine SG.pack ?_; intro q32
      refine SG.draw 9 [(2, .v (.pointer (some ((ad0 (B13)).add ((k) * 1))))), (3, .v (Value.int IntKind.i64 x)), (6, .v (.pointer (some ((ad0 (B17)).add ((k) * 1))))), (7, .v (Value.int IntKind.i64 x))] _ rfl (by kernel_rfl) (by kernel_rfl) (by kernel_rfl) (by kernel_rfl) (by kernel_rfl) ⟨OpTo.ixS (rowC 3 1 B13 cap12 (List.map intC W.fst)) (Has.at' 2 (by kernel_rfl)) (B13) (List.length W.fst) (cap12) IntKind.i64 (k) 1 (List.map intC W.fst) (fun w hw => seq_row hw) (by first | assumption | exact List.length_map _ | (show (List.map _ _).length = _; rw [List.length_map]; first | assumption | omega | (simp; omega)) | (simp only [List.length_set, List.length_append, List.length_cons, List.length_nil]; first | assumption | omega) | rfl | (simp; done) | (simp; omega) | (simp [*]; done)) (by first | assumption | omega | (simp; done) | (simp; omega) | (simp [*]; done) | (simp [*]; omega)) (by kernel_rfl) (by kernel_rfl), OpTo.ldS (rowC 3 1 B13 cap12 (List.map intC W.fst)) (Has.at' 2 (by kernel_rfl)) (B13) (cap12) (k) 1 (List.map intC W.fst) (intC x) (fun w hw => seq_row hw) (map_get hx) (by kernel_rfl) (by kernel_rfl) _ (by kernel_rfl), OpTo.ixS (rowC 3 1 B17 cap16 (List.map intC W.fst)) (Has.at' 3 (by kernel_rfl)) (B17) (List.length W.fst) (cap16) IntKind.i64 (k) 1 (List.map intC W.fst) (fun w hw => seq_row hw) (by first | assumption | exact List.length_map _ | (show (List.map _ _).length = _; rw [List.length_map]; first | assumption | omega | (simp; omega)) | (simp only [List.length_set, List.length_append, List.length_cons, List.length_nil]; first | assumption | omega) | rfl | (simp; done) | (simp; omega) | (simp [*]; done)) (by first | assumption | omega | (simp; done) | (simp; omega) | (simp [*]; done) | (simp [*]; omega)) (by kernel_rfl) (by kernel_rfl), OpTo.ldS (rowC 3 1 B17 cap16 (List.map intC W.fst)) (Has.at' 3 (by kernel_rfl)) (B17) (cap16) (k) 1 (List.map intC W.fst) (intC x) (fun w hw => seq_row hw) (map_get hx) (by kernel_rfl) (by kernel_rfl) _ (by kernel_rfl), trivial⟩ ?_
      refine SG.run 1 fun ν33 => ?_
      refine SG.dec 78 (x != x) false (by first | assumption | (simp only [decide_eq_false_iff_not]; omega) | (simp; done) | (simp; omega)) (by kernel_rfl) ?_
      refine SG.run 5 fun ν34 => ?_
      refine SG.nat 79 IntKind.i64 (IntKind.wrap IntKind.i64 ((↑k : Int) + 1)) (k + 1) (by kernel_rfl) (by (repeat first | rw [wrap_i64 (by omega) (by omega)] | rw [wrap_u64 (by omega) (by omega)]); first | done | omega) ?_
      refine SG.run 2 fun ν35 => ?_
      exact SG.next (ih (k + 1) (by omega) (by omega)) (by kernel_rfl) (by kernel_rfl) (by kernel_rfl) (by kernel_rfl)
    · refine SG.run 5 fun ν30 => ?_
      refine SG.dec 68 (decide ((↑k : Int) < (↑(List.length W.fst) : Int))) false (by first | assumption | (simp only [decide_eq_false_iff_not]; omega) | (simp; done) | (simp; omega)) (by kernel_rfl) ?_
      refine SG.run 6 fun ν31 => ?_
      refine SG.ret [] (Value.bool true) (by kernel_rfl) (by kernel_rfl) (by kernel_rfl) (by kernel_rfl) (by kernel_rfl) ?_
      exact ⟨by kernel_rfl, by kernel_rfl⟩#print axioms loopWalks_spec
end Go.Proofs.Ytdholfagmlablaa
