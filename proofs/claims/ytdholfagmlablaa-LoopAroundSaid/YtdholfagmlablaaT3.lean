/- What slices.Index, slices.Contains at ints and loop.Walk do: up to eight machines, up to forty entries each. -/
import Derived.Test.YtdholfagmlablaaT2
namespace Go.Proofs.Ytdholfagmlablaa
open Go.Sx Go.Proofs

def intC (x : Int) : List Value := [.int .i64 x]

set_option maxRecDepth 10000 in
theorem index_spec (A : Option Addr) (cap : Nat) (l : List Int) (x : Int) (hl : l.length ≤ 4611686018427387904) (c : Chunk) (hc : ∀ w, c.holds w → SeqAt w A cap 1 (l.map intC)) :
    CallSpec Try.prog 67 [.slice A l.length cap, .int .i64 x] [] [c] (fun v cs => (∃ i : Int, v = .int .i64 i ∧ (0 ≤ i ↔ x ∈ l)) ∧ cs = []) := by
  refine CallSpec.of [.v (.slice A l.length cap), .v (.int .i64 x)] [] (by kernel_rfl) (by kernel_rfl) (by kernel_rfl) (by kernel_rfl) fun w0 => ?_
  refine SG.run 400 fun ν => ?_
  refine SG.loopI (fun σ (k : Nat) => { σ with t := (8, .v (.int .i64 k)) :: keepT σ [0, 1, 6, 7] })
    (fun k => k ≤ l.length ∧ ∀ j, j < k → l[j]? ≠ some x) (fun k => l.length - k) (by kernel_rfl) 0 ⟨by omega, fun j hj => by omega⟩ (by kernel_rfl) (by kernel_rfl) (by kernel_rfl) ?_
  rintro k ⟨hk, hno⟩ ih
  refine SG.test 9 (decide ((k : Int) < (l.length : Int))) (fun ν => by kernel_rfl) (fun h ν => ?_) (fun h ν => ?_)
  · have hlt : k < l.length := by simpa using h
    have he := List.getElem?_eq_getElem hlt
    generalize l[k] = e at he
    refine SG.pack ?_; intro q0
    refine SG.run 16 fun ν => ?_
    refine SG.elem c (Has.ro' 0 (by kernel_rfl) (by kernel_rfl)) 28 3 1 8 3 false A l.length cap .i64 k k (l.map intC) (intC e) hc (by simp) (by simp [he]) rfl (by kernel_rfl) (by kernel_rfl) (by kernel_rfl) (by kernel_rfl) 14 (by kernel_rfl)
      (fun v => by kernel_rfl) (fun v => by kernel_rfl) (fun v => by kernel_rfl) (by kernel_rfl) (.int .i64 e) rfl (fun _ => rfl) (fun u => ?_)
    refine SG.test 16 (x == e) (fun ν => by kernel_rfl) (fun h2 ν => ?_) (fun h2 ν => ?_)
    · refine SG.run 400 fun ν => ?_
      refine SG.ret [] (.int .i64 k) (by kernel_rfl) (by kernel_rfl) (by kernel_rfl) (by kernel_rfl) (by kernel_rfl) ⟨⟨k, rfl, ?_⟩, rfl⟩
      have : x = e := by simpa using h2
      subst this
      exact ⟨fun _ => List.mem_of_getElem? he, fun _ => Int.natCast_nonneg _⟩
    · refine SG.run 400 fun ν => ?_
      refine SG.inc 8 k (by kernel_rfl) (by omega) ?_
      refine SG.next (ih (k + 1) ⟨hlt, fun j hj => ?_⟩ (by omega)) (by kernel_rfl) (by kernel_rfl) (by kernel_rfl) (by kernel_rfl)
      by_cases hjk : j = k
      · subst hjk
        have : ¬ x = e := by simpa using h2
        rw [he]; simp only [ne_eq, Option.some.injEq]; exact fun h => this h.symm
      · exact hno j (by omega)
  · have hk' : k = l.length := by have : ¬ k < l.length := by simpa using h
                                  omega
    subst hk'
    refine SG.run 400 fun ν => ?_
    refine SG.ret [] (.int .i64 (-1)) (by kernel_rfl) (by kernel_rfl) (by kernel_rfl) (by kernel_rfl) (by kernel_rfl) ⟨⟨-1, rfl, ?_⟩, rfl⟩
    refine ⟨fun h => absurd h (by decide), fun h => ?_⟩
    obtain ⟨j, hj⟩ := List.getElem?_of_mem h
    exact absurd hj (hno j (List.getElem?_eq_some_iff.1 hj).1)

theorem contains_spec (A : Option Addr) (cap : Nat) (l : List Int) (x : Int) (hl : l.length ≤ 4611686018427387904) (c : Chunk) (hc : ∀ w, c.holds w → SeqAt w A cap 1 (l.map intC)) :
    CallSpec Try.prog 37 [.slice A l.length cap, .int .i64 x] [] [c] (fun v cs => v = .bool (decide (x ∈ l)) ∧ cs = []) := by
  refine CallSpec.of [.v (.slice A l.length cap), .v (.int .i64 x)] [] (by kernel_rfl) (by kernel_rfl) (by kernel_rfl) (by kernel_rfl) fun w0 => ?_
  refine SG.run 400 fun ν => ?_
  refine SG.call [] [] [0] (index_spec A cap l x hl c hc) (by kernel_rfl) (by kernel_rfl) (by kernel_rfl) (by kernel_rfl) (by kernel_rfl) (by kernel_rfl) (by kernel_rfl) ?_
  rintro v cs ⟨⟨i, rfl, hi⟩, rfl⟩
  refine SG.run 400 fun ν => ?_
  refine SG.ret [] (.bool (decide (i ≥ 0))) (by kernel_rfl) (by kernel_rfl) (by kernel_rfl) (by kernel_rfl) (by kernel_rfl) ⟨by simp [hi], rfl⟩

/-- The walk, step by step. -/
def free (n : Nat) (path : List Int) : Nat := ((List.range n).filter fun (i : Nat) => !decide ((i : Int) ∈ path)).length
def walkF (fs : List (List Ent)) (a : Int) : Nat → List Int → Int → List Int × Int × Bool
  | 0, path, _ => (path, 0, true)
  | m + 1, path, p => if p < 0 ∨ (fs.length : Int) ≤ p then (path, 0, true) else if p ∈ path then (path, 2, false) else
    let e := lookupF (fs.getD p.toNat []) a
    if e.how ≠ 2 then (path ++ [p], e.how, true) else walkF fs a m (path ++ [p]) e.next

theorem filter_split (q q' : Nat → Bool) (p : Nat) (hq : q p = true) (hq' : q' p = false) (hne : ∀ i, i ≠ p → q' i = q i) : ∀ n, ((List.range n).filter q').length + (if p < n then 1 else 0) = ((List.range n).filter q).length
  | 0 => by simp
  | n + 1 => by
    have ih := filter_split q q' p hq hq' hne n
    rw [List.range_succ, List.filter_append, List.filter_append, List.length_append, List.length_append]
    by_cases e : p = n
    · subst e
      have h0 : ¬ p < p := by omega
      simp only [h0, if_false] at ih
      simp [hq, hq', ← ih]
    · have h1 := hne n (fun h => e h.symm)
      by_cases hp : p < n
      · have hp' : p < n + 1 := by omega
        simp only [hp, if_true] at ih
        simp only [hp', if_true]
        cases hqn : q n <;> simp [h1, hqn] <;> omega
      · have hp' : ¬ p < n + 1 := by omega
        simp only [hp, if_false] at ih
        simp only [hp', if_false]
        cases hqn : q n <;> simp [h1, hqn] <;> omega

theorem free_step {n : Nat} {path : List Int} {p : Int} (h0 : 0 ≤ p) (hn : p < n) (hp : p ∉ path) : free n (path ++ [p]) + 1 = free n path := by
  obtain ⟨q, rfl⟩ : ∃ q : Nat, p = q := ⟨p.toNat, by omega⟩
  have := filter_split (fun (i : Nat) => !decide ((i : Int) ∈ path)) (fun (i : Nat) => !decide ((i : Int) ∈ path ++ [(q : Int)])) q (by simp [hp]) (by simp) (fun i hi => by
    have : ¬ (i : Int) = (q : Int) := by omega
    simp [this]) n
  rw [if_pos (by omega)] at this
  exact this
theorem free_nil (n : Nat) : free n [] = n := by
  unfold free
  rw [List.filter_eq_self.2 (by simp), List.length_range]

def inC (rs : List Row) : Chunk := sepL (rs.map Row.ch)
theorem inC_at {rs : List Row} {k : Nat} {r : Row} (h : rs[k]? = some r) (w : World) (hw : (inC rs).holds w) : SeqAt w r.A r.cap 4 (r.es.map Ent.c) :=
  seq_row (sepL_mem _ hw k r.ch (by simp [h])).1
theorem outer_seq {A : Option Addr} {n : Nat} {rs : List Row} (w : World) (h : (outerC A n rs).holds w) : SeqAt w A n 1 (rs.map fun r => [Row.v r]) := seq_row h
theorem int_one (x : Int) : ∀ u ∈ [intC x].flatten, u.oneCell' = true := by
  intro u hu
  simp only [List.flatten_cons, List.flatten_nil, List.append_nil, intC, List.mem_cons, List.not_mem_nil, or_false] at hu
  rw [hu]; rfl

structure WS where
  path : List Int
  p : Int
  A : Option Addr
  cap : Nat
  m : Nat

set_option maxRecDepth 10000 in
theorem walk_spec (A : Option Addr) (n : Nat) (hn8 : n ≤ 8) (rs : List Row) (hrs : rs.length = n) (hes : ∀ r ∈ rs, r.es.length ≤ 40) (p0 a : Int) :
    CallSpec Try.prog 10 [.slice A n n, .int .i64 p0, .int .u32 a] [] [outerC A n rs, inC rs]
      (fun v cs => ∃ B cap, v = .tuple #[.slice B (walkF (rs.map Row.es) a (n + 1) [] p0).1.length cap, .int .i64 (walkF (rs.map Row.es) a (n + 1) [] p0).2.1, .bool (walkF (rs.map Row.es) a (n + 1) [] p0).2.2] ∧
        cs = [rowC 3 1 B cap ((walkF (rs.map Row.es) a (n + 1) [] p0).1.map intC)]) := by
  generalize hW : walkF (rs.map Row.es) a (n + 1) [] p0 = W
  refine CallSpec.of [.v (.slice A n n), .v (.int .i64 p0), .v (.int .u32 a)] [] (by kernel_rfl) (by kernel_rfl) (by kernel_rfl) (by kernel_rfl) fun w0 => ?_
  refine SG.conv [] [] [rowC 3 1 none 0 []] (by kernel_rfl) (by kernel_rfl) (fun w _ => ⟨sepL_one.2 (row_nil w 3 1), fun x hx => by
    have := sepL_one_fp.1 hx
    simp [rowC, Value.ownBlock] at this⟩) ?_
  refine SG.run 400 fun ν => ?_
  refine SG.loopI (fun σ (x : WS) => { σ with t := (1, .v (.int .i64 x.p)) :: (9, .v (.slice x.A x.path.length x.cap)) :: keepT σ [0, 2], h := [(0, (0, .ab (rowC 3 1 x.A x.cap (x.path.map intC))))], n := 1 })
    (fun x => walkF (rs.map Row.es) a x.m x.path x.p = W ∧ free n x.path < x.m ∧ x.path.length + free n x.path = n) (fun x => x.m) (by kernel_rfl) ⟨[], p0, none, 0, n + 1⟩ ⟨hW, by simp [free_nil], by simp [free_nil]⟩ (by kernel_rfl) (by kernel_rfl) (by kernel_rfl) ?_
  rintro ⟨path, p, B, cap, m⟩ ⟨hw, hfree, hlen⟩ ih
  simp only at hw hfree hlen
  obtain ⟨m, rfl⟩ : ∃ m', m = m' + 1 := ⟨m - 1, by omega⟩
  refine SG.pack ?_; intro q0
  refine SG.test 12 (decide (p < 0)) (fun ν => by kernel_rfl) (fun h1 ν => ?_) (fun h1 ν => ?_)
  · refine SG.run 400 fun ν => ?_
    refine SG.ret [0] (.tuple #[.slice B path.length cap, .int .i64 0, .bool true]) (by kernel_rfl) (by kernel_rfl) (by kernel_rfl) (by kernel_rfl) (by kernel_rfl) ⟨B, cap, ?_⟩
    have : p < 0 := by simpa using h1
    rw [← hw, walkF, if_pos (.inl this)]
    exact ⟨rfl, by kernel_rfl⟩
  · refine SG.test 17 (decide (p ≥ (n : Int))) (fun ν => by kernel_rfl) (fun h2 ν => ?_) (fun h2 ν => ?_)
    · refine SG.run 400 fun ν => ?_
      refine SG.ret [0] (.tuple #[.slice B path.length cap, .int .i64 0, .bool true]) (by kernel_rfl) (by kernel_rfl) (by kernel_rfl) (by kernel_rfl) (by kernel_rfl) ⟨B, cap, ?_⟩
      have : (n : Int) ≤ p := by simpa using h2
      rw [← hw, walkF, if_pos (.inr (by simpa [hrs] using this))]
      exact ⟨rfl, by kernel_rfl⟩
    · refine SG.run 400 fun ν => ?_
      refine SG.pack ?_; intro q1
      have hr0 : 0 ≤ p := by have : ¬ p < 0 := by simpa using h1
                             omega
      have hrn : p < n := by have : ¬ (n : Int) ≤ p := by simpa using h2
                             omega
      refine SG.call [] [0] [] (contains_spec B cap path p (by omega) (rowC 3 1 B cap (path.map intC)) (fun w h => seq_row h)) (by kernel_rfl) (by kernel_rfl) (by kernel_rfl) (by kernel_rfl) (by kernel_rfl) (by kernel_rfl) (by kernel_rfl) ?_
      rintro v cs ⟨rfl, rfl⟩
      have hin : ¬ (p < 0 ∨ ((rs.map Row.es).length : Int) ≤ p) := by rw [List.length_map, hrs]; omega
      refine SG.pack ?_; intro q2
      refine SG.split 22 (decide (p ∈ path)) (by kernel_rfl) (fun h3 => ?_) (fun h3 => ?_)
      · refine SG.run 400 fun ν => ?_
        refine SG.ret [0] (.tuple #[.slice B path.length cap, .int .i64 2, .bool false]) (by kernel_rfl) (by kernel_rfl) (by kernel_rfl) (by kernel_rfl) (by kernel_rfl) ⟨B, cap, ?_⟩
        rw [← hw, walkF, if_neg hin, if_pos (by simpa using h3)]
        exact ⟨rfl, by kernel_rfl⟩
      · have h3' : p ∉ path := by simpa using h3
        refine SG.run 8 fun ν => ?_
        refine SG.append 0 (cellsC (ν 7) (intC p) 3) (Has.at' 1 (by kernel_rfl)) 28 3 1 8 B path.length cap (path.map intC) (some ⟨ν 7, 0, none⟩) 1 1 [intC p] ((path ++ [p]).map intC) (path ++ [p]).length
          (by simp) (by simp) rfl (by simp) (by kernel_rfl) (by kernel_rfl) (by kernel_rfl) (by kernel_rfl) (fun w hw => seq_cells hw (by simp [intC]) rfl) (int_one p) (by simp only [List.length_map, List.length_singleton]; omega) (by kernel_rfl) (by kernel_rfl) fun B2 cap2 => ?_
        refine SG.pack ?_; intro q3
        have hlt : p.toNat < rs.length := by omega
        have hr := List.getElem?_eq_getElem hlt
        generalize rs[p.toNat] = r at hr
        refine SG.run 6 fun ν2 => ?_
        refine SG.elem (outerC A n rs) (Has.ro' 0 (by kernel_rfl) (by kernel_rfl)) 26 37 1 24 37 false A n n .i64 p p.toNat (rs.map fun r => [Row.v r]) [r.v] outer_seq (by simpa using hrs) (by simp [hr]) (by omega) (by kernel_rfl) (by kernel_rfl) (by kernel_rfl) (by kernel_rfl) 30 (by kernel_rfl)
          (fun v => by kernel_rfl) (fun v => by kernel_rfl) (fun v => by kernel_rfl) (by kernel_rfl) r.v rfl (fun _ => rfl) (fun u => ?_)
        refine SG.run 400 fun ν3 => ?_
        refine SG.pack ?_; intro q4
        have hrm : r ∈ rs := List.mem_of_getElem? hr
        refine SG.call [] [] [1] (lookup_spec r.A r.cap r.es a (inC rs) (inC_at hr) (by have := hes r hrm; omega)) (by kernel_rfl) (by kernel_rfl) (by kernel_rfl) (by kernel_rfl) (by kernel_rfl) (by kernel_rfl) (by kernel_rfl) ?_
        rintro v cs ⟨rfl, rfl⟩
        have hlk : lookupF ((rs.map Row.es).getD p.toNat []) a = lookupF r.es a := by
          rw [List.getD_eq_getElem?_getD, List.getElem?_map, hr]; rfl
        generalize lookupF r.es a = e at hlk ⊢
        refine SG.pack ?_; intro q5
        refine SG.test 36 (e.how != 2) (fun ν => by kernel_rfl) (fun h4 ν => ?_) (fun h4 ν => ?_)
        · have h4' : e.how ≠ 2 := by simpa using h4
          refine SG.run 3 fun ν => ?_
          refine SG.pack ?_; intro q6
          refine SG.draw 6 [] _ rfl (by kernel_rfl) (by kernel_rfl) (by kernel_rfl) (by kernel_rfl) (by kernel_rfl) trivial ?_
          refine SG.run 400 fun ν => ?_
          refine SG.ret [0] (.tuple #[.slice B2 (path ++ [p]).length cap2, .int .i64 e.how, .bool true]) (by kernel_rfl) (by kernel_rfl) (by kernel_rfl) (by kernel_rfl) (by kernel_rfl) ⟨B2, cap2, ?_⟩
          rw [← hw, walkF, if_neg hin, if_neg h3', hlk]
          simp only [h4', ne_eq, not_false_iff, if_true]
          exact ⟨trivial, by kernel_rfl⟩
        · refine SG.run 400 fun ν => ?_
          refine SG.next (ih ⟨path ++ [p], e.next, B2, cap2, m⟩ ⟨?_, ?_, ?_⟩ (by simp only; omega)) (by kernel_rfl) (by kernel_rfl) (by kernel_rfl) (by kernel_rfl)
          · simp only
            rw [← hw, walkF, if_neg hin, if_neg h3', hlk]
            have : ¬ e.how ≠ 2 := by simpa using h4
            simp only [this, if_false]
          · have := free_step hr0 hrn h3'
            simp only; omega
          · have := free_step hr0 hrn h3'
            simp only [List.length_append, List.length_singleton]; omega
#print axioms walk_spec
end Go.Proofs.Ytdholfagmlablaa
