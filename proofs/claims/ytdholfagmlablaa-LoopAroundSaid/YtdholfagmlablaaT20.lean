/- The Go function LoopAround answers true and turns nothing that was there (for every argument that reads as data). -/
import Derived.Test.YtdholfagmlablaaT17
import Derived.Test.YtdholfagmlablaaT9
import Derived.Test.YtdholfagmlablaaSxN
import Derived.Test.YtdholfagmlablaaTR
namespace Go.Proofs.Ytdholfagmlablaa
open Go.Sx Go.Proofs

set_option maxRecDepth 100000 in
set_option maxHeartbeats 4000000 in
theorem loopAround_spec (n0 : Int) (L : Option Addr) (cap : Nat) (l : List Tri) (wh : Int) (c : Chunk) (hc : ∀ w, c.holds w → SeqAt w L cap 3 (l.map Tri.l)) :
    CallSpec Try.prog 4 [.int .i64 n0, .slice L l.length cap, .int .i64 wh] [] [c] (fun v cs => v = .bool true ∧ cs = []) := by
  refine CallSpec.of [.v (.int .i64 n0), .v (.slice L l.length cap), .v (.int .i64 wh)] [] (by kernel_rfl) (by kernel_rfl) (by kernel_rfl) (by kernel_rfl) fun w0 => ?_
  refine SG.run 7 fun ν0 => ?_
  refine SG.pack ?_; intro q1
  refine SG.call [] [] [] (head_spec) (by kernel_rfl) (by kernel_rfl) (by kernel_rfl) (by kernel_rfl) (by kernel_rfl) (by kernel_rfl) (by kernel_rfl) ?_
  rintro v1 cs1 ⟨rfl, rfl⟩
  refine SG.pack ?_; intro q1
  refine SG.run 8 fun ν2 => ?_
  refine SG.pack ?_; intro q3
  refine SG.call [] [] [] (few_spec (L) (List.length l) (cap)) (by kernel_rfl) (by kernel_rfl) (by kernel_rfl) (by kernel_rfl) (by kernel_rfl) (by kernel_rfl) (by kernel_rfl) ?_
  rintro v3 cs3 ⟨rfl, rfl⟩
  refine SG.pack ?_; intro q3
  refine SG.run 2 fun ν4 => ?_
  refine SG.split 22 (!decide ((↑(List.length l) : Int) ≤ 40)) (by kernel_rfl) (fun h5 => ?_) (fun h5 => ?_)
  · -- true
    refine SG.pack ?_; intro q5
    refine SG.run 5 fun ν6 => ?_
    refine SG.ret [] (Value.bool true) (by kernel_rfl) (by kernel_rfl) (by kernel_rfl) (by kernel_rfl) (by kernel_rfl) ?_
    exact ⟨by kernel_rfl, by kernel_rfl⟩
  · -- false
    refine SG.pack ?_; intro q5
    have hl : l.length ≤ 40 := by
      have : (decide ((l.length : Int) ≤ 40)) = true := by simpa using h5
      have := of_decide_eq_true this
      omega
    have hn0 : IntKind.wrap IntKind.i64 (1 + bits .and .i64 n0 7) = (((n0 % 8).toNat + 1 : Nat) : Int) := by
      rw [show (7 : Int) = 2 ^ 3 - 1 from rfl, and_mask _ _ (by omega), wrap_i64 (by omega) (by omega)]; omega
    generalize hN : (n0 % 8).toNat + 1 = n at hn0
    have h1 : 1 ≤ n := by omega
    have h2 : n ≤ 8 := by omega
    refine SG.put 25 (.int .i64 (IntKind.wrap IntKind.i64 (1 + bits .and .i64 n0 7))) (.int .i64 n) (fun ν => by kernel_rfl) (by rw [hn0]) fun ν7 => ?_
    refine SG.pack ?_; intro q6
    refine SG.run 6 fun ν8 => ?_
    refine SG.pack ?_; intro q8
    refine SG.call [] [] [0] (fibs_spec n h1 h2 L cap l hl c hc) (by kernel_rfl) (by kernel_rfl) (by kernel_rfl) (by kernel_rfl) (by kernel_rfl) (by kernel_rfl) (by kernel_rfl) ?_
    rintro v8 cs8 ⟨A, rs, hes, rfl, rfl⟩
    have hrl : rs.length = n := by
      have := congrArg List.length hes
      rwa [List.length_map, fibs_len] at this
    have hr40 : ∀ r ∈ rs, r.es.length ≤ 40 := fun r hr => by
      have := fibs_es n l r.es (by rw [← hes]; exact List.mem_map_of_mem hr)
      omega
    have hnn : ∀ (i : Nat) (r : Row), rs[i]? = some r → ∀ e ∈ r.es, 0 ≤ e.next := fun i r hr e he => fibs_nn n l r.es (by rw [← hes]; exact List.mem_map_of_mem (List.mem_of_getElem? hr)) e he
    have hpfx : ∀ f ∈ rs.map Row.es, ∀ e ∈ f, e.p ∈ pfx4 := by rw [hes]; exact fibs_pfx n l
    have hwh : bits .and .i64 wh 3 = (((wh % 4).toNat : Nat) : Int) := by
      rw [show (3 : Int) = 2 ^ 2 - 1 from rfl, and_mask _ _ (by omega)]; omega
    have hw4 : (wh % 4).toNat < 4 := by omega
    generalize (wh % 4).toNat = wk at hwh hw4
    have hpk : pfx4[wk]? = some (pfx4.getD wk default) := by
      rw [List.getD_eq_getElem?_getD, List.getElem?_eq_getElem (by simpa [pfx4] using hw4)]; rfl
    have hpm := List.mem_of_getElem? hpk
    generalize pfx4.getD wk default = p at hpk hpm
    refine SG.put 35 (.int .i64 (bits .and .i64 wh 3)) (.int .i64 (wk : Nat)) (fun ν => by kernel_rfl) (by rw [hwh]) fun ν10 => ?_
    refine SG.pack ?_; intro q10
    refine SG.el (cellsC (ν10 8) (pfx4.map Pre.c).flatten 34) (Has.at' 2 (by kernel_rfl)) (some ⟨ν10 8, 0, none⟩) 4 4 .i64 wk 2 (pfx4.map Pre.c) p.c (fun w hw => seq_cells hw (by simp [pfx4, Pre.c]) rfl) rfl (map_get hpk) (by kernel_rfl) (fun v => by kernel_rfl) fun u10 => ?_
    refine SG.run 6 fun ν11 => ?_
    refine SG.mk' IntKind.i64 IntKind.i64 (n) 8 (by kernel_rfl) (by kernel_rfl) (by kernel_rfl) (by first | assumption | omega | (simp; done) | (simp; omega) | (simp [*]; done) | (simp [*]; omega)) fun g12 => ?_
    refine SG.run 10 fun ν13 => ?_
    refine SG.reRow 4 3 1 (some ⟨g12, 0, none⟩) n (List.replicate n [.int .i64 0]) ((List.replicate n 0).map intC) (by kernel_rfl) (by kernel_rfl) (by rw [List.map_replicate]; rfl) ?_
    refine SG.loopI (fun σ (x : Nat × List Int) => { σ with t := (42, .v (.int .i64 x.1)) :: keepT σ [0, 6, 7, 8, 9, 41], h := (4, (0, .ab (rowC 3 1 (some ⟨g12, 0, none⟩) n (x.2.map intC)))) :: keepH σ [0, 1, 2, 3], n := 5 })
      (fun x => x.1 ≤ n ∧ x.2.length = n ∧ ∀ j r, j < x.1 → rs[j]? = some r → x.2[j]? = some (gF n p r.es)) (fun x => n - x.1) (by kernel_rfl) (0, List.replicate n 0) ⟨by simp, by simp, fun j r hj => by simp at hj⟩ (by kernel_rfl) (by kernel_rfl) (by kernel_rfl) ?_
    rintro ⟨i, ys⟩ ⟨hi, hyl, hyv⟩ ih
    simp only at hi hyl hyv
    refine SG.pack ?_; intro q13
    refine SG.cases (decide ((i : Int) < n)) (fun hb1 => ?_) (fun hb1 => ?_)
    · have h1 := of_decide_eq_true hb1
      refine Exists.elim (show ∃ r, rs[i]? = some r from ⟨_, List.getElem?_eq_getElem (by omega)⟩) fun r hr => ?_
      have hr4 := hr40 r (List.mem_of_getElem? hr)
      refine SG.run 5 fun ν20 => ?_
      refine SG.dec 43 (decide ((↑i : Int) < (↑n : Int))) true (by first | assumption | (simp only [decide_eq_true_eq]; omega) | (simp; done) | (simp; omega)) (by kernel_rfl) ?_
      refine SG.run 13 fun ν21 => ?_
      refine SG.ixS (rowC 3 1 (some { block := g12, off := 0 }) n (List.map intC ys)) (Has.at' 4 (by kernel_rfl)) (some { block := g12, off := 0 }) (n) (n) IntKind.i64 (i) 1 (List.map intC ys) (fun w hw => seq_row hw) (by first | assumption | exact List.length_map _ | (show (List.map _ _).length = _; rw [List.length_map]; first | assumption | omega | (simp; omega)) | (simp only [List.length_set, List.length_append, List.length_cons, List.length_nil]; first | assumption | omega) | rfl | (simp; done) | (simp; omega) | (simp [*]; done)) (by first | assumption | omega | (simp; done) | (simp; omega) | (simp [*]; done) | (simp [*]; omega)) (by kernel_rfl) (by kernel_rfl) ?_
      refine SG.sr 4 3 (1) (some { block := g12, off := 0 }) (n) (i) (List.map intC ys) (Value.int IntKind.i64 (-1)) [Value.int IntKind.i64 (-1)] (by kernel_rfl) rfl rfl (by simp [Value.oneCell']) (by kernel_rfl) (by first | omega | (simp only [List.length_map, List.length_set]; omega) | (simp; omega) | (simp [*]; omega)) (by kernel_rfl) ?_
      refine SG.run 6 fun ν22 => ?_
      refine SG.pack ?_; intro q23
      refine SG.el (outerC A n rs) (Has.at' 0 (by kernel_rfl)) (A) (n) (n) IntKind.i64 (i) 1 (List.map (fun r ↦ [Row.v r]) rs) ([Row.v r]) (fun w hw => seq_row hw) (by first | assumption | exact List.length_map _ | (show (List.map _ _).length = _; rw [List.length_map]; first | assumption | omega | (simp; omega)) | (simp only [List.length_set, List.length_append, List.length_cons, List.length_nil]; first | assumption | omega) | rfl | (simp; done) | (simp; omega) | (simp [*]; done)) (map_get hr) (by kernel_rfl) (fun v => by kernel_rfl) fun u23 => ?_
      refine SG.run 4 fun ν24 => ?_
      have hset : (List.map intC ys).set i [Value.int IntKind.i64 (-1)] = (ys.set i (-1)).map intC := by rw [List.map_set]; rfl
      refine SG.reRow 4 3 1 (some ⟨g12, 0, none⟩) n ((List.map intC ys).set i [Value.int IntKind.i64 (-1)]) ((ys.set i (next1 p (r.es.take 0))).map intC) (by kernel_rfl) (by kernel_rfl) hset ?_
      refine SG.loopI (fun σ (k : Nat) => { σ with t := (53, .v (.int .i64 k)) :: keepT σ [0, 6, 7, 8, 9, 10, 41, 42, 51, 52], h := (4, (0, .ab (rowC 3 1 (some ⟨g12, 0, none⟩) n ((ys.set i (next1 p (r.es.take k))).map intC)))) :: keepH σ [0, 1, 2, 3], n := 5 })
        (fun k => k ≤ r.es.length) (fun k => r.es.length - k) (by kernel_rfl) 0 (by omega) (by kernel_rfl) (by kernel_rfl) (by kernel_rfl) ?_
      rintro k hk ih2
      have hv : (ys.set i (next1 p (r.es.take k)))[i]? = some (next1 p (r.es.take k)) := by rw [List.getElem?_set_self (by omega)]
      have hsl : (ys.set i (next1 p (r.es.take k))).length = n := by rw [List.length_set, hyl]
      refine SG.pack ?_; intro q25
      refine SG.cases (decide ((k : Int) < r.es.length)) (fun hb2 => ?_) (fun hb2 => ?_)
      · have h2 := of_decide_eq_true hb2
        refine Exists.elim (show ∃ e, r.es[k]? = some e from ⟨_, List.getElem?_eq_getElem (by omega)⟩) fun e he => ?_
        have hpe : (e.p == p) = (e.p.a == p.a && (e.p.l == p.l && true)) := by
          rw [Bool.eq_iff_iff]
          obtain ⟨⟨ea, el⟩, _, _⟩ := e
          obtain ⟨pa, pl⟩ := p
          simp
        refine SG.run 5 fun ν30 => ?_
        refine SG.dec 54 (decide ((↑k : Int) < (↑(List.length r.es) : Int))) true (by first | assumption | (simp only [decide_eq_true_eq]; omega) | (simp; done) | (simp; omega)) (by kernel_rfl) ?_
        refine SG.run 6 fun ν31 => ?_
        refine SG.pack ?_; intro q32
        refine SG.el (sepL (List.map Row.ch rs)) (Has.at' 1 (by kernel_rfl)) (r.A) (List.length r.es) (r.cap) IntKind.i64 (k) 4 (List.map Ent.c r.es) (Ent.c e) (fun w hw => seq_row (sepL_get hr hw)) (by first | assumption | exact List.length_map _ | (show (List.map _ _).length = _; rw [List.length_map]; first | assumption | omega | (simp; omega)) | (simp only [List.length_set, List.length_append, List.length_cons, List.length_nil]; first | assumption | omega) | rfl | (simp; done) | (simp; omega) | (simp [*]; done)) (map_get he) (by kernel_rfl) (fun v => by kernel_rfl) fun u32 => ?_
        refine SG.run 8 fun ν33 => ?_
        refine SG.eqS 34 [Value.int IntKind.u32 e.p.a, Value.int IntKind.i64 e.p.l] [Value.int IntKind.u32 p.a, Value.int IntKind.i64 p.l] ((e.p.a == p.a) && ((e.p.l == p.l) && true)) (by kernel_rfl) (by kernel_rfl) (by kernel_rfl) (by kernel_rfl) (by kernel_rfl) ?_
        refine SG.run 1 fun ν34 => ?_
        refine SG.split 61 (e.p.a == p.a && (e.p.l == p.l && true)) (by kernel_rfl) (fun h35 => ?_) (fun h35 => ?_)
        · -- true
          refine SG.pack ?_; intro q35
          refine SG.run 5 fun ν36 => ?_
          refine SG.split 66 (e.how == 2) (by kernel_rfl) (fun h37 => ?_) (fun h37 => ?_)
          · -- true
            refine SG.pack ?_; intro q37
            refine SG.run 2 fun ν38 => ?_
            refine SG.pack ?_; intro q39
            refine SG.el (rowC 3 1 (some { block := g12, off := 0 }) n (List.map intC (List.set ys i (next1 p (List.take k r.es))))) (Has.at' 4 (by kernel_rfl)) (some { block := g12, off := 0 }) (n) (n) IntKind.i64 (i) 1 (List.map intC (List.set ys i (next1 p (List.take k r.es)))) (intC (next1 p (List.take k r.es))) (fun w hw => seq_row hw) (by first | assumption | exact List.length_map _ | (show (List.map _ _).length = _; rw [List.length_map]; first | assumption | omega | (simp; omega)) | (simp only [List.length_set, List.length_append, List.length_cons, List.length_nil]; first | assumption | omega) | rfl | (simp; done) | (simp; omega) | (simp [*]; done)) (map_get hv) (by kernel_rfl) (fun v => by kernel_rfl) fun u39 => ?_
            refine SG.run 3 fun ν40 => ?_
            refine SG.split 72 (decide (next1 p (List.take k r.es) < 0)) (by kernel_rfl) (fun h41 => ?_) (fun h41 => ?_)
            · -- true
              replace h41 := of_decide_eq_true h41
              refine SG.pack ?_; intro q41
              refine SG.run 6 fun ν42 => ?_
              refine SG.ixS (rowC 3 1 (some { block := g12, off := 0 }) n (List.map intC (List.set ys i (next1 p (List.take k r.es))))) (Has.at' 4 (by kernel_rfl)) (some { block := g12, off := 0 }) (n) (n) IntKind.i64 (i) 1 (List.map intC (List.set ys i (next1 p (List.take k r.es)))) (fun w hw => seq_row hw) (by first | assumption | exact List.length_map _ | (show (List.map _ _).length = _; rw [List.length_map]; first | assumption | omega | (simp; omega)) | (simp only [List.length_set, List.length_append, List.length_cons, List.length_nil]; first | assumption | omega) | rfl | (simp; done) | (simp; omega) | (simp [*]; done)) (by first | assumption | omega | (simp; done) | (simp; omega) | (simp [*]; done) | (simp [*]; omega)) (by kernel_rfl) (by kernel_rfl) ?_
              refine SG.sr 4 3 (1) (some { block := g12, off := 0 }) (n) (i) (List.map intC (List.set ys i (next1 p (List.take k r.es)))) (Value.int IntKind.i64 e.next) [Value.int IntKind.i64 e.next] (by kernel_rfl) rfl rfl (by simp [Value.oneCell']) (by kernel_rfl) (by first | omega | (simp only [List.length_map, List.length_set]; omega) | (simp; omega) | (simp [*]; omega)) (by kernel_rfl) ?_
              refine SG.run 4 fun ν43 => ?_
              refine SG.nat 78 IntKind.i64 (IntKind.wrap IntKind.i64 ((↑k : Int) + 1)) (k + 1) (by kernel_rfl) (by (repeat first | rw [wrap_i64 (by omega) (by omega)] | rw [wrap_u64 (by omega) (by omega)]); first | done | omega) ?_
              refine SG.run 2 fun ν44 => ?_
              have hnx : next1 p (r.es.take (k + 1)) = e.next := by rw [List.take_add_one, he, Option.toList_some, next1_snoc _ _ _ (fun e he => hnn i r hr e (List.mem_of_mem_take he)), hpe, if_pos ⟨h41, by rw [h35, h37]; rfl⟩]
              refine SG.reRow 4 3 1 (some ⟨g12, 0, none⟩) n (List.set (List.map intC (List.set ys i (next1 p (List.take k r.es)))) i [Value.int IntKind.i64 e.next]) ((ys.set i (next1 p (r.es.take (k + 1)))).map intC) (by kernel_rfl) (by kernel_rfl) (by rw [hnx]; simp [List.map_set, intC]) ?_
              exact SG.next (ih2 (k + 1) (by omega) (by omega)) (by kernel_rfl) (by kernel_rfl) (by kernel_rfl) (by kernel_rfl)
            · -- false
              replace h41 := of_decide_eq_false h41
              refine SG.pack ?_; intro q41
              refine SG.run 5 fun ν45 => ?_
              refine SG.nat 78 IntKind.i64 (IntKind.wrap IntKind.i64 ((↑k : Int) + 1)) (k + 1) (by kernel_rfl) (by (repeat first | rw [wrap_i64 (by omega) (by omega)] | rw [wrap_u64 (by omega) (by omega)]); first | done | omega) ?_
              refine SG.run 2 fun ν46 => ?_
              have hnx : next1 p (r.es.take (k + 1)) = next1 p (r.es.take k) := by rw [List.take_add_one, he, Option.toList_some, next1_snoc _ _ _ (fun e he => hnn i r hr e (List.mem_of_mem_take he)), hpe, if_neg (fun h => h41 h.1)]
              refine SG.reRow 4 3 1 (some ⟨g12, 0, none⟩) n (List.map intC (List.set ys i (next1 p (List.take k r.es)))) ((ys.set i (next1 p (r.es.take (k + 1)))).map intC) (by kernel_rfl) (by kernel_rfl) (by rw [hnx]) ?_
              exact SG.next (ih2 (k + 1) (by omega) (by omega)) (by kernel_rfl) (by kernel_rfl) (by kernel_rfl) (by kernel_rfl)
          · -- false
            refine SG.pack ?_; intro q37
            refine SG.run 12 fun ν47 => ?_
            refine SG.nat 78 IntKind.i64 (IntKind.wrap IntKind.i64 ((↑k : Int) + 1)) (k + 1) (by kernel_rfl) (by (repeat first | rw [wrap_i64 (by omega) (by omega)] | rw [wrap_u64 (by omega) (by omega)]); first | done | omega) ?_
            refine SG.run 2 fun ν48 => ?_
            have hnx : next1 p (r.es.take (k + 1)) = next1 p (r.es.take k) := by rw [List.take_add_one, he, Option.toList_some, next1_snoc _ _ _ (fun e he => hnn i r hr e (List.mem_of_mem_take he)), hpe, if_neg (fun h => by rw [h35, h37] at h; cases h.2)]
            refine SG.reRow 4 3 1 (some ⟨g12, 0, none⟩) n (List.map intC (List.set ys i (next1 p (List.take k r.es)))) ((ys.set i (next1 p (r.es.take (k + 1)))).map intC) (by kernel_rfl) (by kernel_rfl) (by rw [hnx]) ?_
            exact SG.next (ih2 (k + 1) (by omega) (by omega)) (by kernel_rfl) (by kernel_rfl) (by kernel_rfl) (by kernel_rfl)
        · -- false
          refine SG.pack ?_; intro q35
          refine SG.run 17 fun ν49 => ?_
          refine SG.nat 78 IntKind.i64 (IntKind.wrap IntKind.i64 ((↑k : Int) + 1)) (k + 1) (by kernel_rfl) (by (repeat first | rw [wrap_i64 (by omega) (by omega)] | rw [wrap_u64 (by omega) (by omega)]); first | done | omega) ?_
          refine SG.run 2 fun ν50 => ?_
          have hnx : next1 p (r.es.take (k + 1)) = next1 p (r.es.take k) := by rw [List.take_add_one, he, Option.toList_some, next1_snoc _ _ _ (fun e he => hnn i r hr e (List.mem_of_mem_take he)), hpe, if_neg (fun h => by rw [h35] at h; cases h.2)]
          refine SG.reRow 4 3 1 (some ⟨g12, 0, none⟩) n (List.map intC (List.set ys i (next1 p (List.take k r.es)))) ((ys.set i (next1 p (r.es.take (k + 1)))).map intC) (by kernel_rfl) (by kernel_rfl) (by rw [hnx]) ?_
          exact SG.next (ih2 (k + 1) (by omega) (by omega)) (by kernel_rfl) (by kernel_rfl) (by kernel_rfl) (by kernel_rfl)
      · have h2 := of_decide_eq_false hb2
        refine SG.run 5 fun ν30 => ?_
        refine SG.dec 54 (decide ((↑k : Int) < (↑(List.length r.es) : Int))) false (by first | assumption | (simp only [decide_eq_false_iff_not]; omega) | (simp; done) | (simp; omega)) (by kernel_rfl) ?_
        refine SG.run 6 fun ν31 => ?_
        refine SG.pack ?_; intro q32
        refine SG.el (rowC 3 1 (some { block := g12, off := 0 }) n (List.map intC (List.set ys i (next1 p (List.take k r.es))))) (Has.at' 4 (by kernel_rfl)) (some { block := g12, off := 0 }) (n) (n) IntKind.i64 (i) 1 (List.map intC (List.set ys i (next1 p (List.take k r.es)))) (intC (next1 p (List.take k r.es))) (fun w hw => seq_row hw) (by first | assumption | exact List.length_map _ | (show (List.map _ _).length = _; rw [List.length_map]; first | assumption | omega | (simp; omega)) | (simp only [List.length_set, List.length_append, List.length_cons, List.length_nil]; first | assumption | omega) | rfl | (simp; done) | (simp; omega) | (simp [*]; done)) (map_get hv) (by kernel_rfl) (fun v => by kernel_rfl) fun u32 => ?_
        refine SG.run 3 fun ν33 => ?_
        refine SG.split 84 (decide (next1 p (List.take k r.es) ≥ (↑n : Int))) (by kernel_rfl) (fun h34 => ?_) (fun h34 => ?_)
        · -- true
          replace h34 := of_decide_eq_true h34
          refine SG.pack ?_; intro q34
          refine SG.run 4 fun ν35 => ?_
          refine SG.ixS (rowC 3 1 (some { block := g12, off := 0 }) n (List.map intC (List.set ys i (next1 p (List.take k r.es))))) (Has.at' 4 (by kernel_rfl)) (some { block := g12, off := 0 }) (n) (n) IntKind.i64 (i) 1 (List.map intC (List.set ys i (next1 p (List.take k r.es)))) (fun w hw => seq_row hw) (by first | assumption | exact List.length_map _ | (show (List.map _ _).length = _; rw [List.length_map]; first | assumption | omega | (simp; omega)) | (simp only [List.length_set, List.length_append, List.length_cons, List.length_nil]; first | assumption | omega) | rfl | (simp; done) | (simp; omega) | (simp [*]; done)) (by first | assumption | omega | (simp; done) | (simp; omega) | (simp [*]; done) | (simp [*]; omega)) (by kernel_rfl) (by kernel_rfl) ?_
          refine SG.sr 4 3 (1) (some { block := g12, off := 0 }) (n) (i) (List.map intC (List.set ys i (next1 p (List.take k r.es)))) (Value.int IntKind.i64 (-1)) [Value.int IntKind.i64 (-1)] (by kernel_rfl) rfl rfl (by simp [Value.oneCell']) (by kernel_rfl) (by first | omega | (simp only [List.length_map, List.length_set]; omega) | (simp; omega) | (simp [*]; omega)) (by kernel_rfl) ?_
          refine SG.run 4 fun ν36 => ?_
          refine SG.nat 88 IntKind.i64 (IntKind.wrap IntKind.i64 ((↑i : Int) + 1)) (i + 1) (by kernel_rfl) (by (repeat first | rw [wrap_i64 (by omega) (by omega)] | rw [wrap_u64 (by omega) (by omega)]); first | done | omega) ?_
          refine SG.run 2 fun ν37 => ?_
          have hk2 : k = r.es.length := by omega
          have hg : gF n p r.es = -1 := by rw [hk2, List.take_length] at h34; unfold gF; rw [if_pos (by omega)]
          refine SG.reRow 4 3 1 (some ⟨g12, 0, none⟩) n (List.set (List.map intC (List.set ys i (next1 p (List.take k r.es)))) i [Value.int IntKind.i64 (-1)]) ((ys.set i (gF n p r.es)).map intC) (by kernel_rfl) (by kernel_rfl) (by rw [hg]; simp [List.map_set, intC]) ?_
          exact SG.next (ih (i + 1, ys.set i (gF n p r.es)) ⟨by simp only; omega, by simp only [List.length_set]; exact hyl, fun j r' hj hr' => by
            by_cases ej : j = i
            · subst ej; rw [hr] at hr'; cases hr'; exact List.getElem?_set_self (by omega)
            · simp only at hj ⊢; rw [List.getElem?_set_ne (fun e => ej e.symm)]; exact hyv j r' (by omega) hr'⟩ (by simp only; omega)) (by kernel_rfl) (by kernel_rfl) (by kernel_rfl) (by kernel_rfl)
        · -- false
          replace h34 := of_decide_eq_false h34
          refine SG.pack ?_; intro q34
          refine SG.run 5 fun ν38 => ?_
          refine SG.nat 88 IntKind.i64 (IntKind.wrap IntKind.i64 ((↑i : Int) + 1)) (i + 1) (by kernel_rfl) (by (repeat first | rw [wrap_i64 (by omega) (by omega)] | rw [wrap_u64 (by omega) (by omega)]); first | done | omega) ?_
          refine SG.run 2 fun ν39 => ?_
          have hk2 : k = r.es.length := by omega
          have hg : gF n p r.es = next1 p (r.es.take k) := by rw [hk2, List.take_length] at h34; unfold gF; rw [if_neg (by omega), hk2, List.take_length]
          refine SG.reRow 4 3 1 (some ⟨g12, 0, none⟩) n (List.map intC (List.set ys i (next1 p (List.take k r.es)))) ((ys.set i (gF n p r.es)).map intC) (by kernel_rfl) (by kernel_rfl) (by rw [hg]) ?_
          exact SG.next (ih (i + 1, ys.set i (gF n p r.es)) ⟨by simp only; omega, by simp only [List.length_set]; exact hyl, fun j r' hj hr' => by
            by_cases ej : j = i
            · subst ej; rw [hr] at hr'; cases hr'; exact List.getElem?_set_self (by omega)
            · simp only at hj ⊢; rw [List.getElem?_set_ne (fun e => ej e.symm)]; exact hyv j r' (by omega) hr'⟩ (by simp only; omega)) (by kernel_rfl) (by kernel_rfl) (by kernel_rfl) (by kernel_rfl)
    · refine SG.run 5 fun ν20 => ?_
      refine SG.dec 43 (decide ((↑i : Int) < (↑n : Int))) false (by first | assumption | (simp only [decide_eq_false_iff_not]; omega) | (simp; done) | (simp; omega)) (by kernel_rfl) ?_
      refine SG.run 8 fun ν21 => ?_
      have hin : i = n := by have := of_decide_eq_false hb1; omega
      have hgood : good n ys := ⟨hyl, fun x hx => by
        obtain ⟨j, hj⟩ := List.getElem?_of_mem hx
        have hjl := (List.getElem?_eq_some_iff.1 hj).1
        have hrj : rs[j]? = some rs[j] := List.getElem?_eq_getElem (by omega)
        have := hyv j _ (by omega) hrj
        rw [hj] at this
        cases this
        unfold gF; split <;> omega⟩
      refine SG.loopI (fun σ (k : Nat) => { σ with t := (13, .v (.int .i64 k)) :: keepT σ [0, 6, 7, 8, 9], h := (4, (0, .ab (rowC 3 1 (some ⟨g12, 0, none⟩) n ((swps n k ys).map intC)))) :: keepH σ [0, 1, 2, 3], n := 5 })
        (fun k => k ≤ n) (fun k => n - k) (by kernel_rfl) 0 (by omega) (by kernel_rfl) (by kernel_rfl) (by kernel_rfl) ?_
      rintro k hk ih3
      have hgk := swps_good hgood k
      refine SG.pack ?_; intro q30
      refine SG.cases (decide ((k : Int) < n)) (fun hb2 => ?_) (fun hb2 => ?_)
      · have h2' := of_decide_eq_true hb2
        refine SG.run 7 fun ν30 => ?_
        refine SG.dec 91 (decide ((↑k : Int) < (↑n : Int))) true (by first | assumption | (simp only [decide_eq_true_eq]; omega) | (simp; done) | (simp; omega)) (by kernel_rfl) ?_
        refine SG.run 11 fun ν31 => ?_
        refine SG.loopI (fun σ (j : Nat) => { σ with t := (96, .v (.int .i64 j)) :: keepT σ [0, 6, 7, 8, 9, 13, 95], h := (4, (0, .ab (rowC 3 1 (some ⟨g12, 0, none⟩) n ((sweepTo j (swps n k ys)).map intC)))) :: keepH σ [0, 1, 2, 3], n := 5 })
          (fun j => j ≤ n) (fun j => n - j) (by kernel_rfl) 0 (by omega) (by kernel_rfl) (by kernel_rfl) (by kernel_rfl) ?_
        rintro j hj ih4
        have hgj := sweep_good hgk j
        have hsn := sweep_next j (swps n k ys)
        generalize hzz : sweepTo j (swps n k ys) = zs at hgj hsn ⊢
        have hzl := hgj.1
        refine SG.pack ?_; intro q40
        refine SG.cases (decide ((j : Int) < n)) (fun hb3 => ?_) (fun hb3 => ?_)
        · have h3 := of_decide_eq_true hb3
          refine Exists.elim (show ∃ x, zs[j]? = some x from ⟨_, List.getElem?_eq_getElem (by omega)⟩) fun x hx => ?_
          have hxn := hgj.2 x (List.mem_of_getElem? hx)
          have hxd : zs.getD j (-1) = x := by rw [List.getD_eq_getElem?_getD, hx]; rfl
          refine SG.cases (decide (x ≥ 0)) (fun hb4 => ?_) (fun hb4 => ?_)
          · have h4 := of_decide_eq_true hb4
            refine Exists.elim (Int.eq_ofNat_of_zero_le h4) fun xn hxe => ?_
            subst hxe
            refine Exists.elim (show ∃ y, zs[xn]? = some y from ⟨_, List.getElem?_eq_getElem (by omega)⟩) fun y hy => ?_
            have hyd : zs.getD xn (-1) = y := by rw [List.getD_eq_getElem?_getD, hy]; rfl
            refine SG.cases (decide (y < 0)) (fun hb5 => ?_) (fun hb5 => ?_)
            · have h5' := of_decide_eq_true hb5
              have hsw : swp zs j = zs.set j (-1) := by rw [swp, hxd, Int.toNat_natCast, hyd, if_pos ⟨by omega, h5'⟩]
              refine SG.run 5 fun ν50 => ?_
              refine SG.dec 97 (decide ((↑j : Int) < (↑n : Int))) true (by first | assumption | (simp only [decide_eq_true_eq]; omega) | (simp; done) | (simp; omega)) (by kernel_rfl) ?_
              refine SG.run 13 fun ν51 => ?_
              refine SG.pack ?_; intro q52
              refine SG.el (rowC 3 1 (some { block := g12, off := 0 }) n (List.map intC zs)) (Has.at' 4 (by kernel_rfl)) (some { block := g12, off := 0 }) (n) (n) IntKind.i64 (j) 1 (List.map intC zs) (intC (↑xn : Int)) (fun w hw => seq_row hw) (by first | assumption | exact List.length_map _ | (show (List.map _ _).length = _; rw [List.length_map]; first | assumption | omega | (simp; omega)) | (simp only [List.length_set, List.length_append, List.length_cons, List.length_nil]; first | assumption | omega) | rfl | (simp; done) | (simp; omega) | (simp [*]; done)) (map_get hx) (by kernel_rfl) (fun v => by kernel_rfl) fun u52 => ?_
              refine SG.run 5 fun ν53 => ?_
              refine SG.pack ?_; intro q54
              refine SG.el (rowC 3 1 (some { block := g12, off := 0 }) n (List.map intC zs)) (Has.at' 4 (by kernel_rfl)) (some { block := g12, off := 0 }) (n) (n) IntKind.i64 (j) 1 (List.map intC zs) (intC (↑xn : Int)) (fun w hw => seq_row hw) (by first | assumption | exact List.length_map _ | (show (List.map _ _).length = _; rw [List.length_map]; first | assumption | omega | (simp; omega)) | (simp only [List.length_set, List.length_append, List.length_cons, List.length_nil]; first | assumption | omega) | rfl | (simp; done) | (simp; omega) | (simp [*]; done)) (map_get hx) (by kernel_rfl) (fun v => by kernel_rfl) fun u54 => ?_
              refine SG.pack ?_; intro q55
              refine SG.el (rowC 3 1 (some { block := g12, off := 0 }) n (List.map intC zs)) (Has.at' 4 (by kernel_rfl)) (some { block := g12, off := 0 }) (n) (n) IntKind.i64 (xn) 1 (List.map intC zs) (intC y) (fun w hw => seq_row hw) (by first | assumption | exact List.length_map _ | (show (List.map _ _).length = _; rw [List.length_map]; first | assumption | omega | (simp; omega)) | (simp only [List.length_set, List.length_append, List.length_cons, List.length_nil]; first | assumption | omega) | rfl | (simp; done) | (simp; omega) | (simp [*]; done)) (map_get hy) (by kernel_rfl) (fun v => by kernel_rfl) fun u55 => ?_
              refine SG.run 3 fun ν56 => ?_
              refine SG.dec 113 (decide (y < 0)) true (by first | assumption | (simp only [decide_eq_true_eq]; omega) | (simp; done) | (simp; omega)) (by kernel_rfl) ?_
              refine SG.run 4 fun ν57 => ?_
              refine SG.ixS (rowC 3 1 (some { block := g12, off := 0 }) n (List.map intC zs)) (Has.at' 4 (by kernel_rfl)) (some { block := g12, off := 0 }) (n) (n) IntKind.i64 (j) 1 (List.map intC zs) (fun w hw => seq_row hw) (by first | assumption | exact List.length_map _ | (show (List.map _ _).length = _; rw [List.length_map]; first | assumption | omega | (simp; omega)) | (simp only [List.length_set, List.length_append, List.length_cons, List.length_nil]; first | assumption | omega) | rfl | (simp; done) | (simp; omega) | (simp [*]; done)) (by first | assumption | omega | (simp; done) | (simp; omega) | (simp [*]; done) | (simp [*]; omega)) (by kernel_rfl) (by kernel_rfl) ?_
              refine SG.sr 4 3 (1) (some { block := g12, off := 0 }) (n) (j) (List.map intC zs) (Value.int IntKind.i64 (-1)) [Value.int IntKind.i64 (-1)] (by kernel_rfl) rfl rfl (by simp [Value.oneCell']) (by kernel_rfl) (by first | omega | (simp only [List.length_map, List.length_set]; omega) | (simp; omega) | (simp [*]; omega)) (by kernel_rfl) ?_
              refine SG.run 4 fun ν58 => ?_
              refine SG.nat 117 IntKind.i64 (IntKind.wrap IntKind.i64 ((↑j : Int) + 1)) (j + 1) (by kernel_rfl) (by (repeat first | rw [wrap_i64 (by omega) (by omega)] | rw [wrap_u64 (by omega) (by omega)]); first | done | omega) ?_
              refine SG.run 2 fun ν59 => ?_
              refine SG.reRow 4 3 1 (some ⟨g12, 0, none⟩) n (List.set (List.map intC zs) j [Value.int IntKind.i64 (-1)]) ((sweepTo (j + 1) (swps n k ys)).map intC) (by kernel_rfl) (by kernel_rfl) (by rw [hsn, hsw, List.map_set]; rfl) ?_
              exact SG.next (ih4 (j + 1) (by omega) (by omega)) (by kernel_rfl) (by kernel_rfl) (by kernel_rfl) (by kernel_rfl)
            · have h5' := of_decide_eq_false hb5
              have hsw : swp zs j = zs := by rw [swp, hxd, Int.toNat_natCast, hyd, if_neg (by omega)]
              refine SG.run 5 fun ν50 => ?_
              refine SG.dec 97 (decide ((↑j : Int) < (↑n : Int))) true (by first | assumption | (simp only [decide_eq_true_eq]; omega) | (simp; done) | (simp; omega)) (by kernel_rfl) ?_
              refine SG.run 13 fun ν51 => ?_
              refine SG.pack ?_; intro q52
              refine SG.el (rowC 3 1 (some { block := g12, off := 0 }) n (List.map intC zs)) (Has.at' 4 (by kernel_rfl)) (some { block := g12, off := 0 }) (n) (n) IntKind.i64 (j) 1 (List.map intC zs) (intC (↑xn : Int)) (fun w hw => seq_row hw) (by first | assumption | exact List.length_map _ | (show (List.map _ _).length = _; rw [List.length_map]; first | assumption | omega | (simp; omega)) | (simp only [List.length_set, List.length_append, List.length_cons, List.length_nil]; first | assumption | omega) | rfl | (simp; done) | (simp; omega) | (simp [*]; done)) (map_get hx) (by kernel_rfl) (fun v => by kernel_rfl) fun u52 => ?_
              refine SG.run 5 fun ν53 => ?_
              refine SG.pack ?_; intro q54
              refine SG.el (rowC 3 1 (some { block := g12, off := 0 }) n (List.map intC zs)) (Has.at' 4 (by kernel_rfl)) (some { block := g12, off := 0 }) (n) (n) IntKind.i64 (j) 1 (List.map intC zs) (intC (↑xn : Int)) (fun w hw => seq_row hw) (by first | assumption | exact List.length_map _ | (show (List.map _ _).length = _; rw [List.length_map]; first | assumption | omega | (simp; omega)) | (simp only [List.length_set, List.length_append, List.length_cons, List.length_nil]; first | assumption | omega) | rfl | (simp; done) | (simp; omega) | (simp [*]; done)) (map_get hx) (by kernel_rfl) (fun v => by kernel_rfl) fun u54 => ?_
              refine SG.pack ?_; intro q55
              refine SG.el (rowC 3 1 (some { block := g12, off := 0 }) n (List.map intC zs)) (Has.at' 4 (by kernel_rfl)) (some { block := g12, off := 0 }) (n) (n) IntKind.i64 (xn) 1 (List.map intC zs) (intC y) (fun w hw => seq_row hw) (by first | assumption | exact List.length_map _ | (show (List.map _ _).length = _; rw [List.length_map]; first | assumption | omega | (simp; omega)) | (simp only [List.length_set, List.length_append, List.length_cons, List.length_nil]; first | assumption | omega) | rfl | (simp; done) | (simp; omega) | (simp [*]; done)) (map_get hy) (by kernel_rfl) (fun v => by kernel_rfl) fun u55 => ?_
              refine SG.run 3 fun ν56 => ?_
              refine SG.dec 113 (decide (y < 0)) false (by first | assumption | (simp only [decide_eq_false_iff_not]; omega) | (simp; done) | (simp; omega)) (by kernel_rfl) ?_
              refine SG.run 5 fun ν57 => ?_
              refine SG.nat 117 IntKind.i64 (IntKind.wrap IntKind.i64 ((↑j : Int) + 1)) (j + 1) (by kernel_rfl) (by (repeat first | rw [wrap_i64 (by omega) (by omega)] | rw [wrap_u64 (by omega) (by omega)]); first | done | omega) ?_
              refine SG.run 2 fun ν58 => ?_
              refine SG.reRow 4 3 1 (some ⟨g12, 0, none⟩) n (List.map intC zs) ((sweepTo (j + 1) (swps n k ys)).map intC) (by kernel_rfl) (by kernel_rfl) (by rw [hsn, hsw]) ?_
              exact SG.next (ih4 (j + 1) (by omega) (by omega)) (by kernel_rfl) (by kernel_rfl) (by kernel_rfl) (by kernel_rfl)
          · have h4 := of_decide_eq_false hb4
            have hsw : swp zs j = zs := by rw [swp, hxd, if_neg (by omega)]
            refine SG.run 5 fun ν50 => ?_
            refine SG.dec 97 (decide ((↑j : Int) < (↑n : Int))) true (by first | assumption | (simp only [decide_eq_true_eq]; omega) | (simp; done) | (simp; omega)) (by kernel_rfl) ?_
            refine SG.run 13 fun ν51 => ?_
            refine SG.pack ?_; intro q52
            refine SG.el (rowC 3 1 (some { block := g12, off := 0 }) n (List.map intC zs)) (Has.at' 4 (by kernel_rfl)) (some { block := g12, off := 0 }) (n) (n) IntKind.i64 (j) 1 (List.map intC zs) (intC x) (fun w hw => seq_row hw) (by first | assumption | exact List.length_map _ | (show (List.map _ _).length = _; rw [List.length_map]; first | assumption | omega | (simp; omega)) | (simp only [List.length_set, List.length_append, List.length_cons, List.length_nil]; first | assumption | omega) | rfl | (simp; done) | (simp; omega) | (simp [*]; done)) (map_get hx) (by kernel_rfl) (fun v => by kernel_rfl) fun u52 => ?_
            refine SG.run 2 fun ν53 => ?_
            refine SG.dec 104 (decide (x ≥ 0)) false (by first | assumption | (simp only [decide_eq_false_iff_not]; omega) | (simp; done) | (simp; omega)) (by kernel_rfl) ?_
            refine SG.run 15 fun ν54 => ?_
            refine SG.nat 117 IntKind.i64 (IntKind.wrap IntKind.i64 ((↑j : Int) + 1)) (j + 1) (by kernel_rfl) (by (repeat first | rw [wrap_i64 (by omega) (by omega)] | rw [wrap_u64 (by omega) (by omega)]); first | done | omega) ?_
            refine SG.run 2 fun ν55 => ?_
            refine SG.reRow 4 3 1 (some ⟨g12, 0, none⟩) n (List.map intC zs) ((sweepTo (j + 1) (swps n k ys)).map intC) (by kernel_rfl) (by kernel_rfl) (by rw [hsn, hsw]) ?_
            exact SG.next (ih4 (j + 1) (by omega) (by omega)) (by kernel_rfl) (by kernel_rfl) (by kernel_rfl) (by kernel_rfl)
        · have h3 := of_decide_eq_false hb3
          refine SG.run 5 fun ν50 => ?_
          refine SG.dec 97 (decide ((↑j : Int) < (↑n : Int))) false (by first | assumption | (simp only [decide_eq_false_iff_not]; omega) | (simp; done) | (simp; omega)) (by kernel_rfl) ?_
          refine SG.run 6 fun ν51 => ?_
          refine SG.nat 93 IntKind.i64 (IntKind.wrap IntKind.i64 ((↑k : Int) + 1)) (k + 1) (by kernel_rfl) (by (repeat first | rw [wrap_i64 (by omega) (by omega)] | rw [wrap_u64 (by omega) (by omega)]); first | done | omega) ?_
          refine SG.run 2 fun ν52 => ?_
          have hjn : j = n := by omega
          refine SG.reRow 4 3 1 (some ⟨g12, 0, none⟩) n (List.map intC zs) ((swps n (k + 1) ys).map intC) (by kernel_rfl) (by kernel_rfl) (by rw [← hzz, hjn]; rfl) ?_
          exact SG.next (ih3 (k + 1) (by omega) (by omega)) (by kernel_rfl) (by kernel_rfl) (by kernel_rfl) (by kernel_rfl)
      · have h2' := of_decide_eq_false hb2
        refine SG.run 7 fun ν30 => ?_
        refine SG.dec 91 (decide ((↑k : Int) < (↑n : Int))) false (by first | assumption | (simp only [decide_eq_false_iff_not]; omega) | (simp; done) | (simp; omega)) (by kernel_rfl) ?_
        refine SG.run 14 fun ν31 => ?_
        have hzl : (swps n k ys).length = n := hgk.1
        refine SG.loopI (fun σ (j : Nat) => { σ with t := (120, .v (.int .i64 j)) :: (15, .v (.bool (((swps n k ys).take j).any fun x => decide (x ≥ 0)))) :: keepT σ [6, 7, 8, 118, 119], h := keepH σ [0, 1, 2, 3, 4], n := 5 })
          (fun j => j ≤ n) (fun j => n - j) (by kernel_rfl) 0 (by omega) (by kernel_rfl) (by kernel_rfl) (by kernel_rfl) ?_
        rintro j hj ih4
        refine SG.pack ?_; intro q40
        refine SG.cases (decide ((j : Int) < n)) (fun hb3 => ?_) (fun hb3 => ?_)
        · have h3 := of_decide_eq_true hb3
          refine Exists.elim (show ∃ x, (swps n k ys)[j]? = some x from ⟨_, List.getElem?_eq_getElem (by omega)⟩) fun x hx => ?_
          have hany : (((swps n k ys).take (j + 1)).any fun x => decide (x ≥ 0)) = ((((swps n k ys).take j).any fun x => decide (x ≥ 0)) || decide (x ≥ 0)) := by
            rw [List.take_add_one, hx]; simp
          refine SG.run 5 fun ν50 => ?_
          refine SG.dec 121 (decide ((↑j : Int) < (↑n : Int))) true (by first | assumption | (simp only [decide_eq_true_eq]; omega) | (simp; done) | (simp; omega)) (by kernel_rfl) ?_
          refine SG.run 6 fun ν51 => ?_
          refine SG.pack ?_; intro q52
          refine SG.el (rowC 3 1 (some { block := g12, off := 0 }) n (List.map intC (swps n k ys))) (Has.at' 4 (by kernel_rfl)) (some { block := g12, off := 0 }) (n) (n) IntKind.i64 (j) 1 (List.map intC (swps n k ys)) (intC x) (fun w hw => seq_row hw) (by first | assumption | exact List.length_map _ | (show (List.map _ _).length = _; rw [List.length_map]; first | assumption | omega | (simp; omega)) | (simp only [List.length_set, List.length_append, List.length_cons, List.length_nil]; first | assumption | omega) | rfl | (simp; done) | (simp; omega) | (simp [*]; done)) (map_get hx) (by kernel_rfl) (fun v => by kernel_rfl) fun u52 => ?_
          refine SG.run 5 fun ν53 => ?_
          refine SG.split 125 (List.any (List.take j (swps n k ys)) fun x ↦ decide (x ≥ 0)) (by kernel_rfl) (fun h54 => ?_) (fun h54 => ?_)
          · -- true
            refine SG.pack ?_; intro q54
            refine SG.run 8 fun ν55 => ?_
            refine SG.nat 129 IntKind.i64 (IntKind.wrap IntKind.i64 ((↑j : Int) + 1)) (j + 1) (by kernel_rfl) (by (repeat first | rw [wrap_i64 (by omega) (by omega)] | rw [wrap_u64 (by omega) (by omega)]); first | done | omega) ?_
            refine SG.run 2 fun ν56 => ?_
            refine SG.slot 15 (.v (.bool true)) (.v (.bool (((swps n k ys).take (j + 1)).any fun x => decide (x ≥ 0)))) (by kernel_rfl) (by rw [hany, h54]; rfl) trivial ?_
            exact SG.next (ih4 (j + 1) (by omega) (by omega)) (by kernel_rfl) (by kernel_rfl) (by kernel_rfl) (by kernel_rfl)
          · -- false
            refine SG.pack ?_; intro q54
            refine SG.run 8 fun ν57 => ?_
            refine SG.nat 129 IntKind.i64 (IntKind.wrap IntKind.i64 ((↑j : Int) + 1)) (j + 1) (by kernel_rfl) (by (repeat first | rw [wrap_i64 (by omega) (by omega)] | rw [wrap_u64 (by omega) (by omega)]); first | done | omega) ?_
            refine SG.run 2 fun ν58 => ?_
            refine SG.slot 15 (.v (.bool (decide (x ≥ 0)))) (.v (.bool (((swps n k ys).take (j + 1)).any fun x => decide (x ≥ 0)))) (by kernel_rfl) (by rw [hany, h54]; rfl) trivial ?_
            exact SG.next (ih4 (j + 1) (by omega) (by omega)) (by kernel_rfl) (by kernel_rfl) (by kernel_rfl) (by kernel_rfl)
        · have h3 := of_decide_eq_false hb3
          have hjn : j = (swps n k ys).length := by omega
          have htk : ((swps n k ys).take j).any (fun x => decide (x ≥ 0)) = (swps n k ys).any (fun x => decide (x ≥ 0)) := by rw [hjn, List.take_length]
          have hkn : k = n := by omega
          have hpure : aroundF n (rs.map Row.es) p = (swps n k ys).any (fun x => decide (x ≥ 0)) := by
            rw [hkn]
            refine around_ring n (rs.map Row.es) p (by rw [List.length_map, hrl]) (fun f hf e he => ?_) ys hyl (fun j f hj => ?_)
            · obtain ⟨r, hr, rfl⟩ := List.mem_map.1 hf
              obtain ⟨i', hi'⟩ := List.getElem?_of_mem hr
              exact hnn i' r hi' e he
            · rw [List.getElem?_map, Option.map_eq_some_iff] at hj
              obtain ⟨r, hr, rfl⟩ := hj
              exact hyv j r (by have := (List.getElem?_eq_some_iff.1 hr).1; omega) hr
          have sp := around_spec A n h2 rs hrl hr40 p
          refine SG.run 5 fun ν50 => ?_
          refine SG.dec 121 (decide ((↑j : Int) < (↑n : Int))) false (by first | assumption | (simp only [decide_eq_false_iff_not]; omega) | (simp; done) | (simp; omega)) (by kernel_rfl) ?_
          refine SG.run 6 fun ν51 => ?_
          refine SG.pack ?_; intro q52
          refine SG.call [] [0, 1] [] (sp) (by kernel_rfl) (by kernel_rfl) (by kernel_rfl) (by kernel_rfl) (by kernel_rfl) (by kernel_rfl) (by kernel_rfl) ?_
          rintro v52 cs52 ⟨rfl, rfl⟩
          refine SG.pack ?_; intro q52
          refine SG.run 3 fun ν53 => ?_
          refine SG.split 135 (aroundF n (List.map Row.es rs) p == List.any (List.take j (swps n k ys)) fun x ↦ decide (x ≥ 0)) (by kernel_rfl) (fun h54 => ?_) (fun h54 => ?_)
          · -- true
            refine SG.pack ?_; intro q54
            refine SG.run 1 fun ν55 => ?_
            refine SG.pack ?_; intro q56
            refine SG.call [] [] [] (right2_spec (p)) (by kernel_rfl) (by kernel_rfl) (by kernel_rfl) (by kernel_rfl) (by kernel_rfl) (by kernel_rfl) (by kernel_rfl) ?_
            rintro v56 cs56 ⟨rfl, rfl⟩
            refine SG.pack ?_; intro q56
            refine SG.run 3 fun ν57 => ?_
            refine SG.ret [] (Value.bool (right2 p)) (by kernel_rfl) (by kernel_rfl) (by kernel_rfl) (by kernel_rfl) (by kernel_rfl) ?_
            rw [right2_pfx p hpm]
            exact ⟨rfl, by kernel_rfl⟩
          · -- false
            refine SG.pack ?_; intro q54
            refine SG.run 5 fun ν58 => ?_
            refine SG.ret [] (Value.bool false) (by kernel_rfl) (by kernel_rfl) (by kernel_rfl) (by kernel_rfl) (by kernel_rfl) ?_
            rw [htk, hpure] at h54
            simp at h54
end Go.Proofs.Ytdholfagmlablaa
