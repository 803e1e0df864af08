/- What slices.Compact at uint32 does: up to a million numbers. -/
import Derived.Test.YtdholfagmlablaaT14
import Derived.Test.YtdholfagmlablaaSxN
namespace Go.Proofs.Ytdholfagmlablaa
open Go.Sx Go.Proofs

/-- Like ones side by side are one. -/
def dd (R : List Int) (x : Int) : List Int := if R.getLast? = some x then R else R ++ [x]
def dedupF (ys : List Int) : List Int := ys.foldl dd []
theorem dd_last (R : List Int) (x : Int) : (dd R x).getLast? = some x := by
  unfold dd; split
  · assumption
  · simp
theorem dedup_next {ys : List Int} {m : Nat} {x : Int} (h : ys[m]? = some x) : dedupF (ys.take (m + 1)) = dd (dedupF (ys.take m)) x := by
  rw [List.take_add_one, h, Option.toList_some, dedupF, List.foldl_append]; rfl
theorem dedup_last {ys : List Int} {m : Nat} {y : Int} (h : ys[m]? = some y) : (dedupF (ys.take (m + 1))).getLast? = some y := by
  rw [dedup_next h, dd_last]
theorem dedup_same {ys : List Int} {m : Nat} {x y : Int} (hy : ys[m]? = some y) (hx : ys[m + 1]? = some x) (h : x = y) : dedupF (ys.take (m + 1 + 1)) = dedupF (ys.take (m + 1)) := by
  rw [dedup_next hx, dd, if_pos (by rw [dedup_last hy, h])]
theorem dedup_more {ys : List Int} {m : Nat} {x y : Int} (hy : ys[m]? = some y) (hx : ys[m + 1]? = some x) (h : x ≠ y) : dedupF (ys.take (m + 1 + 1)) = dedupF (ys.take (m + 1)) ++ [x] := by
  rw [dedup_next hx, dd, if_neg (by rw [dedup_last hy]; simp; exact fun e => h e.symm)]

set_option maxRecDepth 100000 in
set_option maxHeartbeats 4000000 in
theorem compact_spec (A : Option Addr) (cap : Nat) (ys : List Int) (n : Nat) (hn : ys.length = n) (hb : n ≤ 1000000) :
    CallSpec Try.prog 87 [.slice A n cap] [rowC 23 1 A cap (u32s ys)] [] (fun v cs => v = .slice A (dedupF ys).length cap ∧ cs = [rowC 23 1 A cap (u32s (dedupF ys))]) := by
  refine CallSpec.of [.v (.slice A n cap)] [(0, .ab (rowC 23 1 A cap (u32s ys)))] (by kernel_rfl) (by kernel_rfl) (by kernel_rfl) (by kernel_rfl) fun w0 => ?_
  refine SG.rowCap 0 23 1 A cap (u32s ys) (by kernel_rfl) fun hcap => ?_
  rw [u32s, List.length_map] at hcap
  have hyu : (u32s ys).length = n := by rw [u32s, List.length_map, hn]
  refine SG.run 11 fun ν0 => ?_
  refine SG.split 8 (decide ((↑n : Int) < 2)) (by kernel_rfl) (fun h1 => ?_) (fun h1 => ?_)
  · -- true
    replace h1 := of_decide_eq_true h1
    refine SG.pack ?_; intro q1
    refine SG.run 6 fun ν2 => ?_
    have hd : dedupF ys = ys := by
      match ys, hn with
      | [], _ => rfl
      | [y], _ => rfl
      | y :: z :: l, hn => simp at hn; omega
    refine SG.ret [0] (Value.slice A n cap) (by kernel_rfl) (by kernel_rfl) (by kernel_rfl) (by kernel_rfl) (by kernel_rfl) ?_
    rw [hd, hn]
    exact ⟨rfl, by kernel_rfl⟩
  · -- false
    replace h1 := of_decide_eq_false h1
    refine SG.pack ?_; intro q1
    refine SG.run 8 fun ν3 => ?_
    refine SG.loopI (fun σ (k : Nat) => { σ with t := (3, .v (.int .i64 k)) :: keepT σ [0, 2], h := keepH σ [0], n := 1 }) (fun k => 1 ≤ k ∧ k ≤ n ∧ dedupF (ys.take k) = ys.take k) (fun k => n - k) (by kernel_rfl) 1 ⟨by omega, by omega, by
      match ys, hn with
      | [], _ => rfl
      | y :: l, _ => rfl⟩ (by kernel_rfl) (by kernel_rfl) (by kernel_rfl) ?_
    rintro k ⟨hk1, hkn, hdd⟩ ih
    refine SG.pack ?_; intro q4
    refine SG.cases (decide ((k : Int) < n)) (fun hb5 => ?_) (fun hb5 => ?_)
    · have h5 := of_decide_eq_true hb5
      refine Exists.elim (show ∃ x, ys[k]? = some x from ⟨_, List.getElem?_eq_getElem (by omega)⟩) fun x hx => ?_
      refine Exists.elim (show ∃ y, ys[k - 1]? = some y from ⟨_, List.getElem?_eq_getElem (by omega)⟩) fun y hy => ?_
      have hk' : k - 1 + 1 = k := by omega
      refine SG.cases (x == y) (fun hxy => ?_) (fun hxy => ?_)
      · have hxy' : x = y := by simpa using hxy
        refine SG.run 8 fun ν10 => ?_
        refine SG.dec 13 (decide ((↑k : Int) < (↑n : Int))) true (by first | assumption | (simp only [decide_eq_true_eq]; omega) | (simp; done) | (simp; omega)) (by kernel_rfl) ?_
        refine SG.run 5 fun ν11 => ?_
        refine SG.pack ?_; intro q12
        refine SG.draw 10 [(2, .v (.pointer (some ((ad0 (A)).add ((k) * 1))))), (3, .v (Value.int IntKind.u32 x)), (6, .v (.int IntKind.i64 (((k - 1) : Nat) : Int))), (7, .v (.pointer (some ((ad0 (A)).add ((k - 1) * 1))))), (8, .v (Value.int IntKind.u32 y))] _ rfl (by kernel_rfl) (by kernel_rfl) (by kernel_rfl) (by kernel_rfl) (by kernel_rfl) ⟨OpTo.ixS (rowC 23 1 A cap (u32s ys)) (Has.at' 0 (by kernel_rfl)) (A) (n) (cap) IntKind.i64 (k) 1 (u32s ys) (fun w hw => seq_row hw) (by first | assumption | exact List.length_map _ | (show (List.map _ _).length = _; rw [List.length_map]; first | assumption | omega | (simp; omega)) | (simp only [List.length_set, List.length_append, List.length_cons, List.length_nil]; first | assumption | omega) | rfl | (simp; done) | (simp; omega) | (simp [*]; done)) (by first | assumption | omega | (simp; done) | (simp; omega) | (simp [*]; done) | (simp [*]; omega)) (by kernel_rfl) (by kernel_rfl), OpTo.ldS (rowC 23 1 A cap (u32s ys)) (Has.at' 0 (by kernel_rfl)) (A) (cap) (k) 1 (u32s ys) ([Value.int IntKind.u32 x]) (fun w hw => seq_row hw) (map_get hx) (by kernel_rfl) (by kernel_rfl) _ (by kernel_rfl), OpTo.nat IntKind.i64 (IntKind.wrap IntKind.i64 ((↑k : Int) - 1)) (k - 1) (by kernel_rfl) (by (repeat first | rw [wrap_i64 (by omega) (by omega)] | rw [wrap_u64 (by omega) (by omega)]); first | done | omega), OpTo.ixS (rowC 23 1 A cap (u32s ys)) (Has.at' 0 (by kernel_rfl)) (A) (n) (cap) IntKind.i64 (k - 1) 1 (u32s ys) (fun w hw => seq_row hw) (by first | assumption | exact List.length_map _ | (show (List.map _ _).length = _; rw [List.length_map]; first | assumption | omega | (simp; omega)) | (simp only [List.length_set, List.length_append, List.length_cons, List.length_nil]; first | assumption | omega) | rfl | (simp; done) | (simp; omega) | (simp [*]; done)) (by first | assumption | omega | (simp; done) | (simp; omega) | (simp [*]; done) | (simp [*]; omega)) (by kernel_rfl) (by kernel_rfl), OpTo.ldS (rowC 23 1 A cap (u32s ys)) (Has.at' 0 (by kernel_rfl)) (A) (cap) (k - 1) 1 (u32s ys) ([Value.int IntKind.u32 y]) (fun w hw => seq_row hw) (map_get hy) (by kernel_rfl) (by kernel_rfl) _ (by kernel_rfl), trivial⟩ ?_
        refine SG.run 1 fun ν13 => ?_
        refine SG.dec 25 (x == y) true (by first | assumption | (simp only [decide_eq_true_eq]; omega) | (simp; done) | (simp; omega)) (by kernel_rfl) ?_
        refine SG.run 5 fun ν14 => ?_
        refine SG.slLo (A) (n) (cap) IntKind.i64 (k) 1 (by kernel_rfl) (by kernel_rfl) (by first | assumption | omega | (simp; done) | (simp; omega) | (simp [*]; done) | (simp [*]; omega)) (by first | assumption | omega | (simp; done) | (simp; omega) | (simp [*]; done) | (simp [*]; omega)) ?_
        refine SG.run 8 fun ν15 => ?_
        refine SG.reRow 0 23 1 A cap (u32s ys) (u32s (ys.take k ++ ys.drop (ys.take k).length)) (by kernel_rfl) (by kernel_rfl) (by rw [List.length_take, Nat.min_eq_left (by omega), List.take_append_drop]) ?_
        have hfirst : dedupF (ys.take (k + 1)) = ys.take k := by
          have := dedup_same (m := k - 1) hy (by rw [hk']; exact hx) hxy'
          rw [hk'] at this; rw [this, hdd]
        refine SG.nat 3 .i64 (↑k) ((ys.take k).length) (by kernel_rfl) (by rw [List.length_take]; congr 1; omega) ?_
        refine SG.loopI (fun σ (z : Nat × List Int) => { σ with t := (5, .v (.int .i64 z.1)) :: (3, .v (.int .i64 z.2.length)) :: keepT σ [0, 2, 4], h := [(0, (0, .ab (rowC 23 1 A cap (u32s (z.2 ++ ys.drop z.2.length)))))], n := 1 })
          (fun z => 1 ≤ z.1 ∧ k + z.1 ≤ n ∧ dedupF (ys.take (k + z.1)) = z.2 ∧ k ≤ z.2.length ∧ z.2.length < k + z.1) (fun z => n - z.1) (by kernel_rfl) (1, ys.take k) ⟨by simp, by simp only; omega, hfirst, by simp; omega, by simp; omega⟩ (by kernel_rfl) (by kernel_rfl) (by kernel_rfl) ?_
        rintro ⟨m, R⟩ ⟨hm1, hmn, hR, hRk, hRm⟩ ih2
        simp only at hm1 hmn hR hRk hRm
        have hzl : (R ++ ys.drop R.length).length = n := by rw [List.length_append, List.length_drop]; omega
        have hzu : (u32s (R ++ ys.drop R.length)).length = n := by rw [u32s, List.length_map, hzl]
        have hdl : ((u32s (R ++ ys.drop R.length)).drop k).length = n - k := by rw [List.length_drop, hzu]
        refine SG.cases (decide ((m : Int) < ((n - k : Nat) : Int))) (fun hb6 => ?_) (fun hb6 => ?_)
        · have h6 := of_decide_eq_true hb6
          refine Exists.elim (show ∃ a, ys[k + m]? = some a from ⟨_, List.getElem?_eq_getElem (by omega)⟩) fun a ha => ?_
          refine Exists.elim (show ∃ b, ys[k + m - 1]? = some b from ⟨_, List.getElem?_eq_getElem (by omega)⟩) fun b hbb => ?_
          have ha2 : ((u32s (R ++ ys.drop R.length)).drop k)[m]? = some [.int .u32 a] := by
            rw [List.getElem?_drop, u32s, List.getElem?_map, List.getElem?_append_right (by omega), List.getElem?_drop, show R.length + (k + m - R.length) = k + m by omega, ha]; rfl
          have hb2 : ((u32s (R ++ ys.drop R.length)).drop k)[m - 1]? = some [.int .u32 b] := by
            rw [List.getElem?_drop, u32s, List.getElem?_map, List.getElem?_append_right (by omega), List.getElem?_drop, show R.length + (k + (m - 1) - R.length) = k + m - 1 by omega, hbb]; rfl
          refine SG.cases (a != b) (fun hab => ?_) (fun hab => ?_)
          · have hab' : a ≠ b := by simpa using hab
            refine SG.run 8 fun ν30 => ?_
            refine SG.dec 32 (decide ((↑m : Int) < (↑(n - k) : Int))) true (by first | assumption | (simp only [decide_eq_true_eq]; omega) | (simp; done) | (simp; omega)) (by kernel_rfl) ?_
            refine SG.run 5 fun ν31 => ?_
            refine SG.pack ?_; intro q32
            refine SG.draw 10 [(2, .v (.pointer (some ((ad0 (Option.map (fun x ↦ Addr.add x (k * 1)) A)).add ((m) * 1))))), (3, .v (Value.int IntKind.u32 a)), (6, .v (.int IntKind.i64 (((m - 1) : Nat) : Int))), (7, .v (.pointer (some ((ad0 (Option.map (fun x ↦ Addr.add x (k * 1)) A)).add ((m - 1) * 1))))), (8, .v (Value.int IntKind.u32 b))] _ rfl (by kernel_rfl) (by kernel_rfl) (by kernel_rfl) (by kernel_rfl) (by kernel_rfl) ⟨OpTo.ixS (rowC 23 1 A cap (u32s (R ++ List.drop (List.length R) ys))) (Has.at' 0 (by kernel_rfl)) (Option.map (fun x ↦ Addr.add x (k * 1)) A) (n - k) (cap - k) IntKind.i64 (m) 1 (List.drop k (u32s (R ++ List.drop (List.length R) ys))) (fun w hw => SeqAt.drop (k) ((fun w hw => seq_row hw) w hw)) (by first | assumption | exact List.length_map _ | (show (List.map _ _).length = _; rw [List.length_map]; first | assumption | omega | (simp; omega)) | (simp only [List.length_set, List.length_append, List.length_cons, List.length_nil]; first | assumption | omega) | rfl | (simp; done) | (simp; omega) | (simp [*]; done)) (by first | assumption | omega | (simp; done) | (simp; omega) | (simp [*]; done) | (simp [*]; omega)) (by kernel_rfl) (by kernel_rfl), OpTo.ldS (rowC 23 1 A cap (u32s (R ++ List.drop (List.length R) ys))) (Has.at' 0 (by kernel_rfl)) (Option.map (fun x ↦ Addr.add x (k * 1)) A) (cap - k) (m) 1 (List.drop k (u32s (R ++ List.drop (List.length R) ys))) ([Value.int IntKind.u32 a]) (fun w hw => SeqAt.drop (k) ((fun w hw => seq_row hw) w hw)) ha2 (by kernel_rfl) (by kernel_rfl) _ (by kernel_rfl), OpTo.nat IntKind.i64 (IntKind.wrap IntKind.i64 ((↑m : Int) - 1)) (m - 1) (by kernel_rfl) (by (repeat first | rw [wrap_i64 (by omega) (by omega)] | rw [wrap_u64 (by omega) (by omega)]); first | done | omega), OpTo.ixS (rowC 23 1 A cap (u32s (R ++ List.drop (List.length R) ys))) (Has.at' 0 (by kernel_rfl)) (Option.map (fun x ↦ Addr.add x (k * 1)) A) (n - k) (cap - k) IntKind.i64 (m - 1) 1 (List.drop k (u32s (R ++ List.drop (List.length R) ys))) (fun w hw => SeqAt.drop (k) ((fun w hw => seq_row hw) w hw)) (by first | assumption | exact List.length_map _ | (show (List.map _ _).length = _; rw [List.length_map]; first | assumption | omega | (simp; omega)) | (simp only [List.length_set, List.length_append, List.length_cons, List.length_nil]; first | assumption | omega) | rfl | (simp; done) | (simp; omega) | (simp [*]; done)) (by first | assumption | omega | (simp; done) | (simp; omega) | (simp [*]; done) | (simp [*]; omega)) (by kernel_rfl) (by kernel_rfl), OpTo.ldS (rowC 23 1 A cap (u32s (R ++ List.drop (List.length R) ys))) (Has.at' 0 (by kernel_rfl)) (Option.map (fun x ↦ Addr.add x (k * 1)) A) (cap - k) (m - 1) 1 (List.drop k (u32s (R ++ List.drop (List.length R) ys))) ([Value.int IntKind.u32 b]) (fun w hw => SeqAt.drop (k) ((fun w hw => seq_row hw) w hw)) hb2 (by kernel_rfl) (by kernel_rfl) _ (by kernel_rfl), trivial⟩ ?_
            refine SG.run 1 fun ν33 => ?_
            refine SG.dec 44 (a != b) true (by first | assumption | (simp only [decide_eq_true_eq]; omega) | (simp; done) | (simp; omega)) (by kernel_rfl) ?_
            refine SG.run 7 fun ν34 => ?_
            refine SG.pack ?_; intro q35
            refine SG.el (rowC 23 1 A cap (u32s (R ++ List.drop (List.length R) ys))) (Has.at' 0 (by kernel_rfl)) (Option.map (fun x ↦ Addr.add x (k * 1)) A) (n - k) (cap - k) IntKind.i64 (m) 1 (List.drop k (u32s (R ++ List.drop (List.length R) ys))) ([Value.int IntKind.u32 a]) (fun w hw => SeqAt.drop (k) ((fun w hw => seq_row hw) w hw)) (by first | assumption | exact List.length_map _ | (show (List.map _ _).length = _; rw [List.length_map]; first | assumption | omega | (simp; omega)) | (simp only [List.length_set, List.length_append, List.length_cons, List.length_nil]; first | assumption | omega) | rfl | (simp; done) | (simp; omega) | (simp [*]; done)) ha2 (by kernel_rfl) (fun v => by kernel_rfl) fun u35 => ?_
            refine SG.ixS (rowC 23 1 A cap (u32s (R ++ List.drop (List.length R) ys))) (Has.at' 0 (by kernel_rfl)) (A) (n) (cap) IntKind.i64 (List.length R) 1 (u32s (R ++ List.drop (List.length R) ys)) (fun w hw => seq_row hw) (by first | assumption | exact List.length_map _ | (show (List.map _ _).length = _; rw [List.length_map]; first | assumption | omega | (simp; omega)) | (simp only [List.length_set, List.length_append, List.length_cons, List.length_nil]; first | assumption | omega) | rfl | (simp; done) | (simp; omega) | (simp [*]; done)) (by first | assumption | omega | (simp; done) | (simp; omega) | (simp [*]; done) | (simp [*]; omega)) (by kernel_rfl) (by kernel_rfl) ?_
            refine SG.sr 0 23 (1) (A) (cap) (List.length R) (u32s (R ++ List.drop (List.length R) ys)) (Value.int IntKind.u32 a) [Value.int IntKind.u32 a] (by kernel_rfl) rfl rfl (by simp [Value.oneCell']) (by kernel_rfl) (by first | omega | (simp only [List.length_map, List.length_set]; omega) | (simp; omega) | (simp [*]; omega)) (by kernel_rfl) ?_
            refine SG.run 4 fun ν36 => ?_
            refine SG.nat 53 IntKind.i64 (IntKind.wrap IntKind.i64 ((↑(List.length R) : Int) + 1)) (List.length R + 1) (by kernel_rfl) (by (repeat first | rw [wrap_i64 (by omega) (by omega)] | rw [wrap_u64 (by omega) (by omega)]); first | done | omega) ?_
            refine SG.run 6 fun ν37 => ?_
            refine SG.nat 34 IntKind.i64 (IntKind.wrap IntKind.i64 ((↑m : Int) + 1)) (m + 1) (by kernel_rfl) (by (repeat first | rw [wrap_i64 (by omega) (by omega)] | rw [wrap_u64 (by omega) (by omega)]); first | done | omega) ?_
            refine SG.run 2 fun ν38 => ?_
            refine SG.nat 3 .i64 (↑(R.length + 1)) ((R ++ [a]).length) (by kernel_rfl) (by simp) ?_
            refine SG.reRow 0 23 1 A cap (List.set (u32s (R ++ List.drop (List.length R) ys)) (List.length R) [Value.int IntKind.u32 a]) (u32s ((R ++ [a]) ++ ys.drop (R ++ [a]).length)) (by kernel_rfl) (by kernel_rfl) (by
              rw [u32s, u32s, List.length_append, List.length_singleton, List.append_assoc, List.singleton_append]
              have e : ys.drop R.length = ys[R.length]'(by omega) :: ys.drop (R.length + 1) := List.drop_eq_getElem_cons _
              rw [e, List.map_append, List.map_append, List.map_cons, List.map_cons, List.set_append_right _ _ (by simp)]
              simp) ?_
            exact SG.next (ih2 (m + 1, R ++ [a]) ⟨by simp only; omega, by simp only; omega, by
              have := dedup_more (m := k + m - 1) hbb (by rw [show k + m - 1 + 1 = k + m by omega]; exact ha) hab'
              simp only
              rw [show k + m - 1 + 1 = k + m by omega, hR] at this; exact this, by simp; omega, by simp; omega⟩ (by simp only; omega)) (by kernel_rfl) (by kernel_rfl) (by kernel_rfl) (by kernel_rfl)
          · have hab' : a = b := by simpa using hab
            refine SG.run 8 fun ν30 => ?_
            refine SG.dec 32 (decide ((↑m : Int) < (↑(n - k) : Int))) true (by first | assumption | (simp only [decide_eq_true_eq]; omega) | (simp; done) | (simp; omega)) (by kernel_rfl) ?_
            refine SG.run 5 fun ν31 => ?_
            refine SG.pack ?_; intro q32
            refine SG.draw 10 [(2, .v (.pointer (some ((ad0 (Option.map (fun x ↦ Addr.add x (k * 1)) A)).add ((m) * 1))))), (3, .v (Value.int IntKind.u32 a)), (6, .v (.int IntKind.i64 (((m - 1) : Nat) : Int))), (7, .v (.pointer (some ((ad0 (Option.map (fun x ↦ Addr.add x (k * 1)) A)).add ((m - 1) * 1))))), (8, .v (Value.int IntKind.u32 b))] _ rfl (by kernel_rfl) (by kernel_rfl) (by kernel_rfl) (by kernel_rfl) (by kernel_rfl) ⟨OpTo.ixS (rowC 23 1 A cap (u32s (R ++ List.drop (List.length R) ys))) (Has.at' 0 (by kernel_rfl)) (Option.map (fun x ↦ Addr.add x (k * 1)) A) (n - k) (cap - k) IntKind.i64 (m) 1 (List.drop k (u32s (R ++ List.drop (List.length R) ys))) (fun w hw => SeqAt.drop (k) ((fun w hw => seq_row hw) w hw)) (by first | assumption | exact List.length_map _ | (show (List.map _ _).length = _; rw [List.length_map]; first | assumption | omega | (simp; omega)) | (simp only [List.length_set, List.length_append, List.length_cons, List.length_nil]; first | assumption | omega) | rfl | (simp; done) | (simp; omega) | (simp [*]; done)) (by first | assumption | omega | (simp; done) | (simp; omega) | (simp [*]; done) | (simp [*]; omega)) (by kernel_rfl) (by kernel_rfl), OpTo.ldS (rowC 23 1 A cap (u32s (R ++ List.drop (List.length R) ys))) (Has.at' 0 (by kernel_rfl)) (Option.map (fun x ↦ Addr.add x (k * 1)) A) (cap - k) (m) 1 (List.drop k (u32s (R ++ List.drop (List.length R) ys))) ([Value.int IntKind.u32 a]) (fun w hw => SeqAt.drop (k) ((fun w hw => seq_row hw) w hw)) ha2 (by kernel_rfl) (by kernel_rfl) _ (by kernel_rfl), OpTo.nat IntKind.i64 (IntKind.wrap IntKind.i64 ((↑m : Int) - 1)) (m - 1) (by kernel_rfl) (by (repeat first | rw [wrap_i64 (by omega) (by omega)] | rw [wrap_u64 (by omega) (by omega)]); first | done | omega), OpTo.ixS (rowC 23 1 A cap (u32s (R ++ List.drop (List.length R) ys))) (Has.at' 0 (by kernel_rfl)) (Option.map (fun x ↦ Addr.add x (k * 1)) A) (n - k) (cap - k) IntKind.i64 (m - 1) 1 (List.drop k (u32s (R ++ List.drop (List.length R) ys))) (fun w hw => SeqAt.drop (k) ((fun w hw => seq_row hw) w hw)) (by first | assumption | exact List.length_map _ | (show (List.map _ _).length = _; rw [List.length_map]; first | assumption | omega | (simp; omega)) | (simp only [List.length_set, List.length_append, List.length_cons, List.length_nil]; first | assumption | omega) | rfl | (simp; done) | (simp; omega) | (simp [*]; done)) (by first | assumption | omega | (simp; done) | (simp; omega) | (simp [*]; done) | (simp [*]; omega)) (by kernel_rfl) (by kernel_rfl), OpTo.ldS (rowC 23 1 A cap (u32s (R ++ List.drop (List.length R) ys))) (Has.at' 0 (by kernel_rfl)) (Option.map (fun x ↦ Addr.add x (k * 1)) A) (cap - k) (m - 1) 1 (List.drop k (u32s (R ++ List.drop (List.length R) ys))) ([Value.int IntKind.u32 b]) (fun w hw => SeqAt.drop (k) ((fun w hw => seq_row hw) w hw)) hb2 (by kernel_rfl) (by kernel_rfl) _ (by kernel_rfl), trivial⟩ ?_
            refine SG.run 1 fun ν33 => ?_
            refine SG.dec 44 (a != b) false (by first | assumption | (simp only [decide_eq_false_iff_not]; omega) | (simp; done) | (simp; omega)) (by kernel_rfl) ?_
            refine SG.run 6 fun ν34 => ?_
            refine SG.nat 34 IntKind.i64 (IntKind.wrap IntKind.i64 ((↑m : Int) + 1)) (m + 1) (by kernel_rfl) (by (repeat first | rw [wrap_i64 (by omega) (by omega)] | rw [wrap_u64 (by omega) (by omega)]); first | done | omega) ?_
            refine SG.run 2 fun ν35 => ?_
            exact SG.next (ih2 (m + 1, R) ⟨by simp only; omega, by simp only; omega, by
              have := dedup_same (m := k + m - 1) hbb (by rw [show k + m - 1 + 1 = k + m by omega]; exact ha) hab'
              simp only
              rw [show k + m - 1 + 1 = k + m by omega, hR] at this; exact this, by simp only; omega, by simp only; omega⟩ (by simp only; omega)) (by kernel_rfl) (by kernel_rfl) (by kernel_rfl) (by kernel_rfl)
        · have h6 := of_decide_eq_false hb6
          refine SG.run 8 fun ν30 => ?_
          refine SG.dec 32 (decide ((↑m : Int) < (↑(n - k) : Int))) false (by first | assumption | (simp only [decide_eq_false_iff_not]; omega) | (simp; done) | (simp; omega)) (by kernel_rfl) ?_
          refine SG.run 6 fun ν31 => ?_
          refine SG.slLo (A) (n) (cap) IntKind.i64 (List.length R) 1 (by kernel_rfl) (by kernel_rfl) (by first | assumption | omega | (simp; done) | (simp; omega) | (simp [*]; done) | (simp [*]; omega)) (by first | assumption | omega | (simp; done) | (simp; omega) | (simp [*]; done) | (simp [*]; omega)) ?_
          refine SG.clearTail 0 23 1 A cap R.length (n - R.length) (cap - R.length) (u32s (R ++ List.drop (List.length R) ys)) (by kernel_rfl) (by kernel_rfl) (by rw [hzu]; omega) (by kernel_rfl) [.int .u32 0] (by kernel_rfl) (by simp [Value.oneCell']) ?_
          refine SG.reRow 0 23 1 A cap ((u32s (R ++ List.drop (List.length R) ys)).take R.length) (u32s R) (by kernel_rfl) (by kernel_rfl) (by
            rw [u32s, u32s, List.map_append, List.take_append_of_le_length (by simp), List.take_of_length_le (by simp)]) ?_
          have hfin : R = dedupF ys := by
            rw [← hR, show k + m = ys.length by omega, List.take_length]
          refine SG.run 5 fun ν40 => ?_
          refine SG.slHi (A) (n) (cap) IntKind.i64 (List.length R) 1 (by kernel_rfl) (by kernel_rfl) (by first | assumption | omega | (simp; done) | (simp; omega) | (simp [*]; done) | (simp [*]; omega)) ?_
          refine SG.run 2 fun ν41 => ?_
          refine SG.ret [0] (Value.slice A (List.length R) cap) (by kernel_rfl) (by kernel_rfl) (by kernel_rfl) (by kernel_rfl) (by kernel_rfl) ?_
          rw [← hfin]
          exact ⟨rfl, by kernel_rfl⟩
      · have hxy' : x ≠ y := by simpa using hxy
        refine SG.run 8 fun ν10 => ?_
        refine SG.dec 13 (decide ((↑k : Int) < (↑n : Int))) true (by first | assumption | (simp only [decide_eq_true_eq]; omega) | (simp; done) | (simp; omega)) (by kernel_rfl) ?_
        refine SG.run 5 fun ν11 => ?_
        refine SG.pack ?_; intro q12
        refine SG.draw 10 [(2, .v (.pointer (some ((ad0 (A)).add ((k) * 1))))), (3, .v (Value.int IntKind.u32 x)), (6, .v (.int IntKind.i64 (((k - 1) : Nat) : Int))), (7, .v (.pointer (some ((ad0 (A)).add ((k - 1) * 1))))), (8, .v (Value.int IntKind.u32 y))] _ rfl (by kernel_rfl) (by kernel_rfl) (by kernel_rfl) (by kernel_rfl) (by kernel_rfl) ⟨OpTo.ixS (rowC 23 1 A cap (u32s ys)) (Has.at' 0 (by kernel_rfl)) (A) (n) (cap) IntKind.i64 (k) 1 (u32s ys) (fun w hw => seq_row hw) (by first | assumption | exact List.length_map _ | (show (List.map _ _).length = _; rw [List.length_map]; first | assumption | omega | (simp; omega)) | (simp only [List.length_set, List.length_append, List.length_cons, List.length_nil]; first | assumption | omega) | rfl | (simp; done) | (simp; omega) | (simp [*]; done)) (by first | assumption | omega | (simp; done) | (simp; omega) | (simp [*]; done) | (simp [*]; omega)) (by kernel_rfl) (by kernel_rfl), OpTo.ldS (rowC 23 1 A cap (u32s ys)) (Has.at' 0 (by kernel_rfl)) (A) (cap) (k) 1 (u32s ys) ([Value.int IntKind.u32 x]) (fun w hw => seq_row hw) (map_get hx) (by kernel_rfl) (by kernel_rfl) _ (by kernel_rfl), OpTo.nat IntKind.i64 (IntKind.wrap IntKind.i64 ((↑k : Int) - 1)) (k - 1) (by kernel_rfl) (by (repeat first | rw [wrap_i64 (by omega) (by omega)] | rw [wrap_u64 (by omega) (by omega)]); first | done | omega), OpTo.ixS (rowC 23 1 A cap (u32s ys)) (Has.at' 0 (by kernel_rfl)) (A) (n) (cap) IntKind.i64 (k - 1) 1 (u32s ys) (fun w hw => seq_row hw) (by first | assumption | exact List.length_map _ | (show (List.map _ _).length = _; rw [List.length_map]; first | assumption | omega | (simp; omega)) | (simp only [List.length_set, List.length_append, List.length_cons, List.length_nil]; first | assumption | omega) | rfl | (simp; done) | (simp; omega) | (simp [*]; done)) (by first | assumption | omega | (simp; done) | (simp; omega) | (simp [*]; done) | (simp [*]; omega)) (by kernel_rfl) (by kernel_rfl), OpTo.ldS (rowC 23 1 A cap (u32s ys)) (Has.at' 0 (by kernel_rfl)) (A) (cap) (k - 1) 1 (u32s ys) ([Value.int IntKind.u32 y]) (fun w hw => seq_row hw) (map_get hy) (by kernel_rfl) (by kernel_rfl) _ (by kernel_rfl), trivial⟩ ?_
        refine SG.run 1 fun ν13 => ?_
        refine SG.dec 25 (x == y) false (by first | assumption | (simp only [decide_eq_false_iff_not]; omega) | (simp; done) | (simp; omega)) (by kernel_rfl) ?_
        refine SG.run 6 fun ν14 => ?_
        refine SG.nat 15 IntKind.i64 (IntKind.wrap IntKind.i64 ((↑k : Int) + 1)) (k + 1) (by kernel_rfl) (by (repeat first | rw [wrap_i64 (by omega) (by omega)] | rw [wrap_u64 (by omega) (by omega)]); first | done | omega) ?_
        refine SG.run 2 fun ν15 => ?_
        exact SG.next (ih (k + 1) ⟨by omega, by omega, by
          have := dedup_more (m := k - 1) hy (by rw [hk']; exact hx) hxy'
          rw [hk'] at this; rw [this, hdd, List.take_add_one, hx]; rfl⟩ (by omega)) (by kernel_rfl) (by kernel_rfl) (by kernel_rfl) (by kernel_rfl)
    · refine SG.run 8 fun ν10 => ?_
      refine SG.dec 13 (decide ((↑k : Int) < (↑n : Int))) false (by first | assumption | (simp only [decide_eq_false_iff_not]; omega) | (simp; done) | (simp; omega)) (by kernel_rfl) ?_
      refine SG.run 7 fun ν11 => ?_
      refine SG.ret [0] (Value.slice A n cap) (by kernel_rfl) (by kernel_rfl) (by kernel_rfl) (by kernel_rfl) (by kernel_rfl) ?_
      have hkn' : k = n := by have := of_decide_eq_false hb5; omega
      have hd : dedupF ys = ys := by
        rw [hkn', ← hn, List.take_length] at hdd; exact hdd
      rw [hd, hn]
      exact ⟨rfl, by kernel_rfl⟩
end Go.Proofs.Ytdholfagmlablaa
