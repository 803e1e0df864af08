/- From what a law's function does to its row: arguments read as data, and as they read before. -/
import Derived.Test.YtdholfagmlablaaSxN
import Derived.WalkKit
import Derived.ProofKit
import Derived.OpenShut
import Derived.WideKeyArgs
import Derived.Deep.Slices
namespace Go.Sx
open Go.ChangeShapes Go.WideShapes Go.ChangeAt Go.RowKit

theorem Upd.heapAt {w w' : World} (h : Upd (fun _ => False) w w') {b : Nat} (hb : b < w.heap.size) : w'.heap[b]? = w.heap[b]? := h.block b hb id
theorem Upd.sameAt {w w' : World} (h : Upd (fun _ => False) w w') (p : MemPlace) (hp : p.block < w.heap.size) : w.sameAt w' p := by
  cases p with
  | cell b off => exact World.cell?_of_block (a := ⟨b, off, none⟩) (h.heapAt hp)
  | map b => exact h.heapAt hp
theorem Upd.keptBut {w w' : World} (h : Upd (fun _ => False) w w') (may : MemPlace → Prop) : w.keptBut w' may := by
  refine ⟨h.os, h.output, fun i hi => ?_⟩
  rw [h.heapAt hi]
  cases ho : w.heap[i]? with
  | none => trivial
  | some o => cases o <;> simp

section
variable {H : Type} {enc : TypeId × Value → H} {P : Program}

theorem trodAll_stays {W W' : World} {sp' : Nat → Bool} (hl : laidOutB P = true) : ∀ {ts : List TypeId} {vs : List Value} {ds : List (DataW H)} {ps : List MemPlace}, (ts.all fun t => P.readableRec t && decide (t < P.types.size)) = true →
    DataW.TrodAll enc P W 0 (fun _ => true) true ts vs ds ps → (∀ p ∈ ps, W.sameAt W' p) → (∀ p ∈ ps, sp' p.block = true) → DataW.TrodAll enc P W' 0 sp' true ts vs ds ps
  | [], [], [], _, _, h, _, _ => h
  | t :: ts, v :: vs, d :: ds, ps, ht, h, hsame, hs => by
    obtain ⟨p, q, h1, h2, e⟩ := h
    simp only [List.all_cons, Bool.and_eq_true, decide_eq_true_eq] at ht
    subst e
    exact ⟨p, q, WideElems.Trod_stays hl ht.1.1 ht.1.2 h1 (fun x hx => hsame x (List.mem_append_left _ hx)) (fun x hx => hs x (List.mem_append_left _ hx)),
      trodAll_stays hl ht.2 h2 (fun x hx => hsame x (List.mem_append_right _ hx)) (fun x hx => hs x (List.mem_append_right _ hx)), rfl⟩
  | [], _ :: _, _, _, _, h, _, _ => h.elim
  | [], [], _ :: _, _, _, h, _, _ => h.elim
  | _ :: _, [], _, _, _, h, _, _ => h.elim
  | _ :: _, _ :: _, [], _, _, h, _, _ => h.elim

/-- The law's answer, and its arguments as they were. -/
theorem post_law {f : Func} {s : ChangeSpec} {W W' : World} {args : Array Value} {ds gs : List (DataW H)} {before : List MemPlace} {tb : TypeId} (hvars : s.vars = []) (hl : laidOutB P = true)
    (hts : (f.params.toList.all fun t => P.readableRec t && decide (t < P.types.size)) = true) (hr : f.resultTypes = #[tb]) (htb : P.underlying tb = some .bool)
    (hfn : s.fn H ds = { results := [.lit (.bool true)], args := ds }) (hW : DataW.Whole enc P f.params.toList s.vars false W args.toList ds gs before) (hu : Upd (fun _ => False) W W') :
    s.post enc P f false true false false W args (.bool true) W' := by
  have hlt : ∀ p ∈ before, p.block < W.heap.size := fun p hp => hW.lt p hp
  have hW' := hW
  obtain ⟨p, q, hA, hV, hpq, _, _⟩ := hW
  rw [hvars] at hV
  obtain ⟨hgs, rfl⟩ := trodVars_none hV
  rw [List.append_nil] at hpq
  subst hpq
  subst hgs
  have hfn' : s.fn H (ds ++ []) = { results := [.lit (.bool true)], args := ds } := by rw [List.append_nil]; exact hfn
  refine ⟨ds, [], before, [], before, [], hW', ?_, ?_, ?_, hu.keptBut _, fun h => by cases h⟩
  · rw [hfn', hr]
    exact trodAll_cons_mk (shut_bool htb true) trodAll_mk0
  · rw [hfn']
    exact trodAll_stays hl hts hA (fun x hx => hu.sameAt x (hlt x hx)) (fun x hx => by simpa using hlt x hx)
  · rw [hvars, hfn']; rfl

theorem list_choice {α : Type} {n : Nat} {p : Nat → α → Prop} (h : ∀ i, i < n → ∃ x, p i x) : ∃ l : List α, l.length = n ∧ ∀ i x, l[i]? = some x → p i x := by
  induction n with
  | zero => exact ⟨[], rfl, fun i x hx => by simp at hx⟩
  | succ n ih =>
    obtain ⟨l, hl, hp⟩ := ih fun i hi => h i (by omega)
    obtain ⟨x, hx⟩ := h n (by omega)
    refine ⟨l ++ [x], by simp [hl], fun i y hy => ?_⟩
    by_cases hi : i < l.length
    · rw [List.getElem?_append_left hi] at hy; exact hp i y hy
    · rw [List.getElem?_append_right (by omega)] at hy
      have : i - l.length = 0 := by
        have := (List.getElem?_eq_some_iff.1 hy).1
        simp at this; omega
      rw [this] at hy
      simp only [List.getElem?_cons_zero, Option.some.injEq] at hy
      subst hy
      rw [show i = n by omega]; exact hx

/-- A slice among the arguments, element by element: c x are the cells of the element x. -/
theorem open_seq {α : Type} (c : α → List Value) {w : World} {fuel : Nat} {t e : TypeId} {sz : Nat} {cs : List Value} {x : DataW H × List MemPlace} (ht : P.underlying t = some (.slice e)) (hC : P.cellsOf e = sz)
    (hel : ∀ (n : Nat) (cs' : List Value) (y : DataW H × List MemPlace), cs'.length = sz → DataW.trod enc P w 0 (fun _ => true) true n e cs' = some y → ∃ z : α, cs' = c z)
    (h : DataW.trod enc P w 0 (fun _ => true) true fuel t cs = some x) :
    ∃ (A : Option Addr) (cap : Nat) (l : List α), cs = [.slice A l.length cap] ∧ SeqAt w A cap sz (l.map c) ∧ cap ≤ maxLen := by
  rcases Deep.open_slice ht h with ⟨rfl, _⟩ | ⟨a, len, cap, m, n, D, Pl, rfl, _, hl, hm, hmm, _, hi⟩
  · exact ⟨none, 0, [], rfl, ⟨by simp, by simp, .inl ⟨rfl, rfl⟩⟩, Nat.zero_le _⟩
  · simp only [if_true] at hmm
    subst hmm
    have hch : ∀ i, i < len → ∃ z : α, w.cells? 0 (a.add (i * P.cellsOf e)) (P.cellsOf e) = some (c z) ∧ (c z).length = sz := fun i hil => by
      obtain ⟨cs', hc, htr⟩ := hi i (by omega)
      have hlen := (World.cells?_some hc).2.1
      rw [hC] at hlen
      obtain ⟨z, rfl⟩ := hel n cs' _ hlen htr
      exact ⟨z, hc, hlen⟩
    obtain ⟨l, hll, hp⟩ := list_choice hch
    refine ⟨some a, m, l, by rw [hll], ⟨by rw [List.length_map, hll]; exact hl, ?_, .inr ⟨a, rfl, fun j u hj => ?_⟩⟩, hm⟩
    · intro y hy
      obtain ⟨z, hz, rfl⟩ := List.mem_map.1 hy
      obtain ⟨k, hk⟩ := List.getElem?_of_mem hz
      exact (hp k z hk).2
    · have hxl : ∀ y ∈ l.map c, y.length = sz := by
        intro y hy
        obtain ⟨z, hz, rfl⟩ := List.mem_map.1 hy
        obtain ⟨k, hk⟩ := List.getElem?_of_mem hz
        exact (hp k z hk).2
      have hjl : j < (l.map c).flatten.length := (List.getElem?_eq_some_iff.1 hj).1
      rw [flatten_len hxl, List.length_map] at hjl
      have hsz : 0 < sz := by
        rcases Nat.eq_zero_or_pos sz with h0 | h0
        · rw [h0] at hjl; simp at hjl
        · exact h0
      have hk : j / sz < l.length := Nat.div_lt_of_lt_mul (by rw [Nat.mul_comm]; exact hjl)
      have hz : l[j / sz]? = some l[j / sz] := List.getElem?_eq_getElem hk
      obtain ⟨hc, hlz⟩ := hp _ _ hz
      obtain ⟨_, _, hat⟩ := World.cells?_some hc
      have hmod : j % sz < sz := Nat.mod_lt _ hsz
      have hat' := hat (j % sz) (by rw [hC]; exact hmod)
      rw [addr_add_add, hC] at hat'
      have hu : (c l[j / sz])[j % sz]? = some (c l[j / sz])[j % sz] := List.getElem?_eq_getElem (by rw [hlz]; exact hmod)
      have hfl := flatten_at hxl (k := j / sz) (x := c l[j / sz]) (by rw [List.getElem?_map, hz]; rfl) hu
      rw [Nat.div_add_mod'] at hfl hat'
      rw [hj] at hfl
      rw [hat', hu]
      exact hfl.symm
end
end Go.Sx
