/- What cmp.Less at uint32 and insertion sort at uint32 do: up to twelve numbers. -/
import Derived.Test.YtdholfagmlablaaT11
import Derived.Test.YtdholfagmlablaaSxM
namespace Go.Proofs.Ytdholfagmlablaa
open Go.Sx Go.Proofs

theorem nan_spec (a : Int) : CallSpec Try.prog 92 [.int .u32 a] [] [] (fun v cs => v = .bool false ∧ cs = []) := by
  refine CallSpec.of [.v (.int .u32 a)] [] (by kernel_rfl) (by kernel_rfl) (by kernel_rfl) (by kernel_rfl) fun w0 => ?_
  refine SG.run 11 fun ν0 => ?_
  refine SG.ret [] (Value.bool (a != a)) (by kernel_rfl) (by kernel_rfl) (by kernel_rfl) (by kernel_rfl) (by kernel_rfl) ?_
  exact ⟨by simp, rfl⟩

theorem less_spec (a b : Int) : CallSpec Try.prog 126 [.int .u32 a, .int .u32 b] [] [] (fun v cs => v = .bool (decide (a < b)) ∧ cs = []) := by
  refine CallSpec.of [.v (.int .u32 a), .v (.int .u32 b)] [] (by kernel_rfl) (by kernel_rfl) (by kernel_rfl) (by kernel_rfl) fun w0 => ?_
  refine SG.run 7 fun ν0 => ?_
  refine SG.call [] [] [] (nan_spec (a)) (by kernel_rfl) (by kernel_rfl) (by kernel_rfl) (by kernel_rfl) (by kernel_rfl) (by kernel_rfl) (by kernel_rfl) ?_
  rintro v1 cs1 ⟨rfl, rfl⟩
  refine SG.run 12 fun ν2 => ?_
  refine SG.ret [] (Value.bool (decide (a < b))) (by kernel_rfl) (by kernel_rfl) (by kernel_rfl) (by kernel_rfl) (by kernel_rfl) ?_
  exact ⟨rfl, rfl⟩

def u32s (xs : List Int) : List (List Value) := xs.map fun x => [.int .u32 x]
/-- The list stands the wrong way round: x goes to its place. -/
def insV : List Int → Int → List Int
  | [], x => [x]
  | y :: l, x => if x < y then y :: insV l x else x :: y :: l
def insortF (xs : List Int) : List Int := (xs.foldl insV []).reverse
theorem insV_len (l : List Int) (x : Int) : (insV l x).length = l.length + 1 := by
  induction l with
  | nil => rfl
  | cons y l ih => unfold insV; split <;> simp [ih]
theorem foldV_len (xs : List Int) : ∀ acc : List Int, (xs.foldl insV acc).length = acc.length + xs.length := by
  induction xs with
  | nil => intro acc; rfl
  | cons x xs ih => intro acc; rw [List.foldl_cons, ih, insV_len, List.length_cons]; omega
theorem swap_list (l R : List Int) (x y : Int) : ((l.reverse ++ y :: x :: R).set (l.length + 1) y).set l.length x = l.reverse ++ x :: y :: R := by
  have e1 : (l.reverse ++ y :: x :: R).set (l.length + 1) y = l.reverse ++ y :: y :: R := by
    rw [List.set_append_right _ _ (by simp)]; simp
  rw [e1, List.set_append_right _ _ (by simp)]; simp
/-- The round's end. -/
theorem ins_end {xs ys l bs : List Int} {i n : Nat} {x : Int} (hl : ys.length = n) (hi : i < n) (hs : ys = ((xs.take i).foldl insV []).reverse ++ xs.drop i) (hx : ys[i]? = some x) (hb : insV (ys.take i).reverse x = bs.reverse ++ insV l x) (hstop : insV l x = x :: l) :
    l.reverse ++ x :: (bs ++ ys.drop (i + 1)) = ((xs.take (i + 1)).foldl insV []).reverse ++ xs.drop (i + 1) := by
  have hxl : n ≤ xs.length ∧ i < xs.length := by
    have h1 := congrArg List.length hs
    rw [List.length_append, List.length_reverse, foldV_len, List.length_take, List.length_drop, List.length_nil] at h1
    omega
  have hF : ((xs.take i).foldl insV []).length = i := by rw [foldV_len, List.length_take, List.length_nil]; omega
  have h1 : (ys.take i).reverse = (xs.take i).foldl insV [] := by
    rw [hs, List.take_append_of_le_length (by rw [List.length_reverse, hF]; exact Nat.le_refl _), List.take_of_length_le (by rw [List.length_reverse, hF]; exact Nat.le_refl _), List.reverse_reverse]
  have h2 : ys.drop i = xs.drop i := by
    rw [hs, List.drop_append_of_le_length (by rw [List.length_reverse, hF]; exact Nat.le_refl _), List.drop_of_length_le (by rw [List.length_reverse, hF]; exact Nat.le_refl _), List.nil_append]
  have h3 : ys.drop (i + 1) = xs.drop (i + 1) := by
    rw [← List.drop_drop, ← List.drop_drop, h2]
  have h4 : xs[i]? = some x := by
    have := congrArg (fun l => l[0]?) h2
    simp only [List.getElem?_drop, Nat.add_zero] at this
    rw [← this, hx]
  rw [h3, List.take_add_one, h4, Option.toList_some, List.foldl_append, List.foldl_cons, List.foldl_nil, ← h1, hb, hstop]
  simp
set_option maxRecDepth 100000 in
set_option maxHeartbeats 4000000 in
theorem insort_spec (A : Option Addr) (cap : Nat) (xs : List Int) (n : Nat) (hn : xs.length = n) (h12 : n ≤ 12) :
    CallSpec Try.prog 120 [.slice A n cap, .int .i64 0, .int .i64 n] [rowC 23 1 A cap (u32s xs)] [] (fun v cs => v = .tuple #[] ∧ cs = [rowC 23 1 A cap (u32s (insortF xs))]) := by
  refine CallSpec.of [.v (.slice A n cap), .v (.int .i64 0), .v (.int .i64 n)] [(0, .ab (rowC 23 1 A cap (u32s xs)))] (by kernel_rfl) (by kernel_rfl) (by kernel_rfl) (by kernel_rfl) fun w0 => ?_
  refine SG.run 7 fun ν0 => ?_
  refine SG.loopI (fun σ (x : Nat × List Int) => { σ with t := (6, .v (.int .i64 x.1)) :: keepT σ [0, 1, 2], h := (0, (0, .ab (rowC 23 1 A cap (u32s x.2)))) :: [], n := 1 })
    (fun x => x.2.length = n ∧ 1 ≤ x.1 ∧ (x.1 ≤ n ∨ n = 0) ∧ x.2 = ((xs.take x.1).foldl insV []).reverse ++ xs.drop x.1) (fun x => n - x.1) (by kernel_rfl) (1, xs) ⟨hn, by simp, by simp; omega, by cases xs <;> simp [insV]⟩ (by kernel_rfl) (by kernel_rfl) (by kernel_rfl) ?_
  rintro ⟨i, ys⟩ ⟨hl, hi1, hi2, hs⟩ ih
  simp only at hl hi1 hi2 hs
  refine SG.run 7 fun ν1 => ?_
  refine SG.split 12 (decide ((↑i : Int) < (↑n : Int))) (by kernel_rfl) (fun h2 => ?_) (fun h2 => ?_)
  · -- true
    replace h2 := of_decide_eq_true h2
    refine SG.pack ?_; intro q2
    refine SG.run 10 fun ν3 => ?_
    refine Exists.elim (show ∃ x, ys[i]? = some x from ⟨_, List.getElem?_eq_getElem (by omega)⟩) fun x hx => ?_
    refine SG.reRow 0 23 1 A cap (u32s ys) (u32s ((ys.take i).reverse.reverse ++ x :: ([] ++ ys.drop (i + 1)))) (by kernel_rfl) (by kernel_rfl) (by rw [List.reverse_reverse, List.nil_append]; exact congrArg u32s (list_part hx)) ?_
    refine SG.loopI (fun σ (z : Nat × List Int × List Int) => { σ with t := (7, .v (.int .i64 z.1)) :: keepT σ [0, 1, 2, 6], h := (0, (0, .ab (rowC 23 1 A cap (u32s (z.2.1.reverse ++ x :: (z.2.2 ++ ys.drop (i + 1))))))) :: [], n := 1 })
      (fun z => insV (ys.take i).reverse x = z.2.2.reverse ++ insV z.2.1 x ∧ z.2.1.length = z.1 ∧ z.1 + z.2.2.length = i) (fun z => z.1) (by kernel_rfl) (i, (ys.take i).reverse, []) ⟨by simp, by simp; omega, by simp⟩ (by kernel_rfl) (by kernel_rfl) (by kernel_rfl) ?_
    rintro ⟨j, l, bs⟩ ⟨hi3, hi4, hi5⟩ ih2
    simp only at hi3 hi4 hi5
    generalize hzs : l.reverse ++ x :: (bs ++ ys.drop (i + 1)) = zs
    have hzl : zs.length = n := by rw [← hzs]; simp; omega
    have hx1 : zs[j]? = some x := by rw [← hzs, ← hi4]; simp
    refine SG.run 2 fun ν10 => ?_
    refine SG.pack ?_; intro q10
    refine SG.cases (decide ((j : Int) > 0)) (fun hb11 => ?_) (fun hb11 => ?_)
    · have hj0 := of_decide_eq_true hb11
      refine Exists.elim (show ∃ y l', l = y :: l' by cases l with | nil => (simp at hi4; omega) | cons y l' => exact ⟨y, l', rfl⟩) fun y hy => Exists.elim hy fun l' hy => ?_
      have hx2 : zs[j - 1]? = some y := by rw [← hzs, ← hi4, hy]; simp [List.getElem?_append]
      have hzu : (u32s zs).length = n := by rw [u32s, List.length_map, hzl]
      refine SG.pack ?_; intro q12
      refine SG.draw 15 [(3, .v (.bool true)), (6, .v (.pointer (some ((ad0 (A)).add ((j) * 1))))), (7, .v (Value.int IntKind.u32 x)), (10, .v (.int IntKind.i64 (((j - 1) : Nat) : Int))), (11, .v (.pointer (some ((ad0 (A)).add ((j - 1) * 1))))), (12, .v (Value.int IntKind.u32 y)), (13, .v (Value.bool (decide (x < y))))] _ rfl (by kernel_rfl) (by kernel_rfl) (by kernel_rfl) (by kernel_rfl) (by kernel_rfl) ⟨OpTo.test true (by kernel_rfl) hb11, OpTo.ixS (rowC 23 1 A cap (u32s zs)) (Has.at' 0 (by kernel_rfl)) (A) (n) (cap) IntKind.i64 (j) 1 (u32s zs) (fun w hw => seq_row hw) (by first | assumption | exact List.length_map _ | (show (List.map _ _).length = _; rw [List.length_map]; first | assumption | omega | (simp; omega)) | (simp only [List.length_set, List.length_append, List.length_cons, List.length_nil]; first | assumption | omega) | rfl | (simp; done) | (simp; omega) | (simp [*]; done)) (by first | assumption | omega | (simp; done) | (simp; omega) | (simp [*]; done) | (simp [*]; omega)) (by kernel_rfl) (by kernel_rfl), OpTo.ldS (rowC 23 1 A cap (u32s zs)) (Has.at' 0 (by kernel_rfl)) (A) (cap) (j) 1 (u32s zs) ([Value.int IntKind.u32 x]) (fun w hw => seq_row hw) (map_get hx1) (by kernel_rfl) (by kernel_rfl) _ (by kernel_rfl), OpTo.nat IntKind.i64 (IntKind.wrap IntKind.i64 ((↑j : Int) - 1)) (j - 1) (by kernel_rfl) (by (repeat rw [wrap_i64 (by omega) (by omega)]); omega), OpTo.ixS (rowC 23 1 A cap (u32s zs)) (Has.at' 0 (by kernel_rfl)) (A) (n) (cap) IntKind.i64 (j - 1) 1 (u32s zs) (fun w hw => seq_row hw) (by first | assumption | exact List.length_map _ | (show (List.map _ _).length = _; rw [List.length_map]; first | assumption | omega | (simp; omega)) | (simp only [List.length_set, List.length_append, List.length_cons, List.length_nil]; first | assumption | omega) | rfl | (simp; done) | (simp; omega) | (simp [*]; done)) (by first | assumption | omega | (simp; done) | (simp; omega) | (simp [*]; done) | (simp [*]; omega)) (by kernel_rfl) (by kernel_rfl), OpTo.ldS (rowC 23 1 A cap (u32s zs)) (Has.at' 0 (by kernel_rfl)) (A) (cap) (j - 1) 1 (u32s zs) ([Value.int IntKind.u32 y]) (fun w hw => seq_row hw) (map_get hx2) (by kernel_rfl) (by kernel_rfl) _ (by kernel_rfl), OpTo.call [] [] ((less_spec (x) (y)).mono fun _ _ h => h.1) (by kernel_rfl) (by kernel_rfl) (by kernel_rfl), trivial⟩ ?_
      refine SG.run 1 fun ν13 => ?_
      refine SG.split 30 (decide (x < y)) (by kernel_rfl) (fun h14 => ?_) (fun h14 => ?_)
      · -- true
        replace h14 := of_decide_eq_true h14
        refine SG.pack ?_; intro q14
        refine SG.run 4 fun ν15 => ?_
        refine SG.pack ?_; intro q16
        refine SG.drawH 18 [15, 17] (by kernel_rfl) (by kernel_rfl) (by kernel_rfl) ?_
        refine Hv.cons [(7, .v (.int IntKind.i64 (((j - 1) : Nat) : Int))), (8, .v (.pointer (some ((ad0 (A)).add ((j - 1) * 1))))), (9, .v (Value.int IntKind.u32 y)), (12, .v (.pointer (some ((ad0 (A)).add ((j) * 1))))), (13, .v (Value.int IntKind.u32 x)), (14, .v (.pointer (some ((ad0 (A)).add ((j) * 1))))), (4, .v (.int IntKind.i64 (((j - 1) : Nat) : Int))), (16, .v (.pointer (some ((ad0 (A)).add ((j - 1) * 1)))))] (by kernel_rfl) (by kernel_rfl) ⟨OpTo.nat IntKind.i64 (IntKind.wrap IntKind.i64 ((↑j : Int) - 1)) (j - 1) (by kernel_rfl) (by (repeat rw [wrap_i64 (by omega) (by omega)]); omega), OpTo.ixS (rowC 23 1 A cap (u32s zs)) (Has.at' 0 (by kernel_rfl)) (A) (n) (cap) IntKind.i64 (j - 1) 1 (u32s zs) (fun w hw => seq_row hw) (by first | assumption | exact List.length_map _ | (show (List.map _ _).length = _; rw [List.length_map]; first | assumption | omega | (simp; omega)) | (simp only [List.length_set, List.length_append, List.length_cons, List.length_nil]; first | assumption | omega) | rfl | (simp; done) | (simp; omega) | (simp [*]; done)) (by first | assumption | omega | (simp; done) | (simp; omega) | (simp [*]; done) | (simp [*]; omega)) (by kernel_rfl) (by kernel_rfl), OpTo.ldS (rowC 23 1 A cap (u32s zs)) (Has.at' 0 (by kernel_rfl)) (A) (cap) (j - 1) 1 (u32s zs) ([Value.int IntKind.u32 y]) (fun w hw => seq_row hw) (map_get hx2) (by kernel_rfl) (by kernel_rfl) _ (by kernel_rfl), OpTo.ixS (rowC 23 1 A cap (u32s zs)) (Has.at' 0 (by kernel_rfl)) (A) (n) (cap) IntKind.i64 (j) 1 (u32s zs) (fun w hw => seq_row hw) (by first | assumption | exact List.length_map _ | (show (List.map _ _).length = _; rw [List.length_map]; first | assumption | omega | (simp; omega)) | (simp only [List.length_set, List.length_append, List.length_cons, List.length_nil]; first | assumption | omega) | rfl | (simp; done) | (simp; omega) | (simp [*]; done)) (by first | assumption | omega | (simp; done) | (simp; omega) | (simp [*]; done) | (simp [*]; omega)) (by kernel_rfl) (by kernel_rfl), OpTo.ldS (rowC 23 1 A cap (u32s zs)) (Has.at' 0 (by kernel_rfl)) (A) (cap) (j) 1 (u32s zs) ([Value.int IntKind.u32 x]) (fun w hw => seq_row hw) (map_get hx1) (by kernel_rfl) (by kernel_rfl) _ (by kernel_rfl), OpTo.ixS (rowC 23 1 A cap (u32s zs)) (Has.at' 0 (by kernel_rfl)) (A) (n) (cap) IntKind.i64 (j) 1 (u32s zs) (fun w hw => seq_row hw) (by first | assumption | exact List.length_map _ | (show (List.map _ _).length = _; rw [List.length_map]; first | assumption | omega | (simp; omega)) | (simp only [List.length_set, List.length_append, List.length_cons, List.length_nil]; first | assumption | omega) | rfl | (simp; done) | (simp; omega) | (simp [*]; done)) (by first | assumption | omega | (simp; done) | (simp; omega) | (simp [*]; done) | (simp [*]; omega)) (by kernel_rfl) (by kernel_rfl), OpTo.nat IntKind.i64 (IntKind.wrap IntKind.i64 ((↑j : Int) - 1)) (j - 1) (by kernel_rfl) (by (repeat rw [wrap_i64 (by omega) (by omega)]); omega), OpTo.ixS (rowC 23 1 A cap (u32s zs)) (Has.at' 0 (by kernel_rfl)) (A) (n) (cap) IntKind.i64 (j - 1) 1 (u32s zs) (fun w hw => seq_row hw) (by first | assumption | exact List.length_map _ | (show (List.map _ _).length = _; rw [List.length_map]; first | assumption | omega | (simp; omega)) | (simp only [List.length_set, List.length_append, List.length_cons, List.length_nil]; first | assumption | omega) | rfl | (simp; done) | (simp; omega) | (simp [*]; done)) (by first | assumption | omega | (simp; done) | (simp; omega) | (simp [*]; done) | (simp [*]; omega)) (by kernel_rfl) (by kernel_rfl), trivial⟩ fun rest17 L17 K17 => ?_
        refine SG.sr 0 23 (1) (A) (cap) (j) (u32s zs) (Value.int IntKind.u32 y) [Value.int IntKind.u32 y] (by kernel_rfl) rfl rfl (by simp [Value.oneCell']) (by kernel_rfl) (by first | omega | (simp only [List.length_map, List.length_set]; omega) | (simp; omega) | (simp [*]; omega)) (by kernel_rfl) ?_
        refine SG.done K17 (SV.v undef) (by kernel_rfl) (by kernel_rfl) ?_
        refine Hv.cons [(12, .v (.pointer (some ((ad0 (A)).add ((j) * 1))))), (4, .v (.int IntKind.i64 (((j - 1) : Nat) : Int))), (16, .v (.pointer (some ((ad0 (A)).add ((j - 1) * 1)))))] (by kernel_rfl) (by kernel_rfl) ⟨OpTo.ixS (rowC 23 1 A cap (List.set (u32s zs) j [Value.int IntKind.u32 y])) (Has.at' 0 (by kernel_rfl)) (A) (n) (cap) IntKind.i64 (j) 1 (List.set (u32s zs) j [Value.int IntKind.u32 y]) (fun w hw => seq_row hw) (by first | assumption | exact List.length_map _ | (show (List.map _ _).length = _; rw [List.length_map]; first | assumption | omega | (simp; omega)) | (simp only [List.length_set, List.length_append, List.length_cons, List.length_nil]; first | assumption | omega) | rfl | (simp; done) | (simp; omega) | (simp [*]; done)) (by first | assumption | omega | (simp; done) | (simp; omega) | (simp [*]; done) | (simp [*]; omega)) (by kernel_rfl) (by kernel_rfl), OpTo.nat IntKind.i64 (IntKind.wrap IntKind.i64 ((↑j : Int) - 1)) (j - 1) (by kernel_rfl) (by (repeat rw [wrap_i64 (by omega) (by omega)]); omega), OpTo.ixS (rowC 23 1 A cap (List.set (u32s zs) j [Value.int IntKind.u32 y])) (Has.at' 0 (by kernel_rfl)) (A) (n) (cap) IntKind.i64 (j - 1) 1 (List.set (u32s zs) j [Value.int IntKind.u32 y]) (fun w hw => seq_row hw) (by first | assumption | exact List.length_map _ | (show (List.map _ _).length = _; rw [List.length_map]; first | assumption | omega | (simp; omega)) | (simp only [List.length_set, List.length_append, List.length_cons, List.length_nil]; first | assumption | omega) | rfl | (simp; done) | (simp; omega) | (simp [*]; done)) (by first | assumption | omega | (simp; done) | (simp; omega) | (simp [*]; done) | (simp [*]; omega)) (by kernel_rfl) (by kernel_rfl), trivial⟩ fun rest19 L19 K19 => ?_
        refine SG.sr 0 23 (1) (A) (cap) (j - 1) (List.set (u32s zs) j [Value.int IntKind.u32 y]) (Value.int IntKind.u32 x) [Value.int IntKind.u32 x] (by kernel_rfl) rfl rfl (by simp [Value.oneCell']) (by kernel_rfl) (by first | omega | (simp only [List.length_map, List.length_set]; omega) | (simp; omega) | (simp [*]; omega)) (by kernel_rfl) ?_
        refine SG.done K19 (SV.v undef) (by kernel_rfl) (by kernel_rfl) ?_
        refine Hv.nil [] (by kernel_rfl) (by kernel_rfl) trivial ?_
        refine SG.run 7 fun ν21 => ?_
        refine SG.nat 7 IntKind.i64 (IntKind.wrap IntKind.i64 ((↑j : Int) - 1)) (j - 1) (by kernel_rfl) (by (repeat rw [wrap_i64 (by omega) (by omega)]); omega) ?_
        refine SG.nat 32 IntKind.i64 (IntKind.wrap IntKind.i64 ((↑j : Int) - 1)) (j - 1) (by kernel_rfl) (by (repeat rw [wrap_i64 (by omega) (by omega)]); omega) ?_
        subst hy
        have hj1 : j = l'.length + 1 := by simp at hi4; omega
        refine SG.reRow 0 23 1 A cap (List.set (List.set (u32s zs) j [Value.int IntKind.u32 y]) (j - 1) [Value.int IntKind.u32 x]) (u32s (l'.reverse ++ x :: ((y :: bs) ++ ys.drop (i + 1)))) (by kernel_rfl) (by kernel_rfl) (by
          have e := swap_list l' (bs ++ ys.drop (i + 1)) x y
          rw [List.cons_append, ← e, u32s, u32s, List.map_set, List.map_set, ← hzs, hj1]; simp) ?_
        exact SG.next (ih2 (j - 1, l', y :: bs) ⟨by simp only; rw [hi3, insV, if_pos h14]; simp, by simp only; omega, by simp only [List.length_cons]; omega⟩ (by simp only; omega)) (by kernel_rfl) (by kernel_rfl) (by kernel_rfl) (by kernel_rfl)
      · -- false
        replace h14 := of_decide_eq_false h14
        refine SG.pack ?_; intro q14
        refine SG.run 8 fun ν22 => ?_
        refine SG.nat 6 IntKind.i64 (IntKind.wrap IntKind.i64 ((↑i : Int) + 1)) (i + 1) (by kernel_rfl) (by (repeat rw [wrap_i64 (by omega) (by omega)]); omega) ?_
        refine SG.nat 14 IntKind.i64 (IntKind.wrap IntKind.i64 ((↑i : Int) + 1)) (i + 1) (by kernel_rfl) (by (repeat rw [wrap_i64 (by omega) (by omega)]); omega) ?_
        have he := ins_end (n := n) hl (by omega) hs hx hi3 (by rw [hy, insV, if_neg h14])
        rw [hzs] at he
        exact SG.next (ih (i + 1, zs) ⟨hzl, by simp only; omega, by simp only; omega, he⟩ (by simp only; omega)) (by kernel_rfl) (by kernel_rfl) (by kernel_rfl) (by kernel_rfl)
    · refine SG.pack ?_; intro q12
      refine SG.draw 15 [(3, .v (.bool false))] _ rfl (by kernel_rfl) (by kernel_rfl) (by kernel_rfl) (by kernel_rfl) (by kernel_rfl) ⟨OpTo.test false (by kernel_rfl) hb11, trivial⟩ ?_
      refine SG.run 9 fun ν13 => ?_
      refine SG.nat 6 IntKind.i64 (IntKind.wrap IntKind.i64 ((↑i : Int) + 1)) (i + 1) (by kernel_rfl) (by (repeat rw [wrap_i64 (by omega) (by omega)]); omega) ?_
      refine SG.nat 14 IntKind.i64 (IntKind.wrap IntKind.i64 ((↑i : Int) + 1)) (i + 1) (by kernel_rfl) (by (repeat rw [wrap_i64 (by omega) (by omega)]); omega) ?_
      have hl0 : l = [] := by
        have := of_decide_eq_false hb11
        exact List.eq_nil_of_length_eq_zero (by omega)
      have he := ins_end (n := n) hl (by omega) hs hx hi3 (by rw [hl0]; rfl)
      rw [hzs] at he
      exact SG.next (ih (i + 1, zs) ⟨hzl, by simp only; omega, by simp only; omega, he⟩ (by simp only; omega)) (by kernel_rfl) (by kernel_rfl) (by kernel_rfl) (by kernel_rfl)
  · -- false
    replace h2 := of_decide_eq_false h2
    refine SG.pack ?_; intro q2
    refine SG.run 2 fun ν4 => ?_
    refine SG.ret [0] (Value.tuple #[]) (by kernel_rfl) (by kernel_rfl) (by kernel_rfl) (by kernel_rfl) (by kernel_rfl) ?_
    have hf : ys = insortF xs := by
      rw [hs, insortF, List.take_of_length_le (by omega), List.drop_of_length_le (by omega), List.append_nil]
    rw [← hf]
    exact ⟨rfl, by kernel_rfl⟩
end Go.Proofs.Ytdholfagmlablaa
