/-
  No cell of these rows narrows 'for every input' (looked for: loops, veiled, ifaces, maps, wideKeys, modest, calm, conditions, laid).
  DERIVED. THE GIVEN ROWS OF THIS SEAT. 4 by the template 'for every input the law returns true; each argument reads behind the call as it read before'; 0 by the template 'total and deterministic' (their statements: YtdholfagmlablaaTotals.lean).
  GIVEN WITH THE SEED: the statements are not yours to turn. If you find one false, say at which input.
  Laid BY PROGRAM, IN A SANDBOX (cutbox-rows.mjs): the forced cells as the released guide's own fill.sh prints them over the translation 6308fc8292c85fc6… (all of the seat's roots in one cut). By AI agents, Wed Nov 11 2026. No macro, syntax, notation, axiom, sorry.
-/
import Derived.Test.YtdholfagmlablaaChecked
import GoSem.Claim
import GoSem.ClaimJoined
import GoSem.ClaimMapViews
import Derived.JoinedTies
import Derived.KernelRfl
namespace Go.Proofs.Ytdholfagmlablaa
/- THE CELL 'sum', in the pinned program and in every row, IS THE sha256 OF THE DUMP (.gsa) THAT YtdholfagmlablaaProg.lean LOADS. Nothing in Lean hashes anything: it is a label: what it is worth is what the hold of that sum in a sandbox is worth. -/
noncomputable def Try.pinned : Pinned := { name := "ytdholfagmlablaa", sum := "6308fc8292c85fc6f0c12ca089883463c8c38123af6bc20657e85eed072d16a9", checked := Try.checked }
namespace Rows
def none {H : Type} : Left H := { results := [], args := [] }

/-- 'wayfarerlaw13.LoopWalks': WHATEVER THE INPUT: true; the input reads as it did. -/
def loopWalksSpec : ChangeSpec := { name := "loopWalks", fn := fun _ => fun
  | [d1, d2, d3, d4] => { results := [.lit (.bool true)], args := [d1, d2, d3, d4] }
  | _ => none }
def loopWalksRow : OpenClaim := { program := "ytdholfagmlablaa", sum := "6308fc8292c85fc6f0c12ca089883463c8c38123af6bc20657e85eed072d16a9", func := "wayfarer/wayfarerlaw13.LoopWalks", spec := "loopWalks", unfollowed := true, recurses := true, plainKeys := false, apart := false }
def LoopWalksSaid : Prop := loopWalksRow.holds Try.pinned (OpenSpec.ofChange loopWalksSpec)

/-- ITS FALSE NEIGHBOUR: 'it returns false'. Refute it at one input. -/
def loopWalksWrong : ChangeSpec := { name := "loopWalks", fn := fun _ => fun
  | [d1, d2, d3, d4] => { results := [.lit (.bool false)], args := [d1, d2, d3, d4] }
  | _ => none }
def LoopWalksWrongFalsely : Prop := loopWalksRow.holds Try.pinned (OpenSpec.ofChange loopWalksWrong)

/-- 'wayfarerlaw13.LoopAround': WHATEVER THE INPUT: true; the input reads as it did. -/
def loopAroundSpec : ChangeSpec := { name := "loopAround", fn := fun _ => fun
  | [d1, d2, d3] => { results := [.lit (.bool true)], args := [d1, d2, d3] }
  | _ => none }
def loopAroundRow : OpenClaim := { program := "ytdholfagmlablaa", sum := "6308fc8292c85fc6f0c12ca089883463c8c38123af6bc20657e85eed072d16a9", func := "wayfarer/wayfarerlaw13.LoopAround", spec := "loopAround", unfollowed := true, recurses := true, plainKeys := false, apart := false }
def LoopAroundSaid : Prop := loopAroundRow.holds Try.pinned (OpenSpec.ofChange loopAroundSpec)

/-- ITS FALSE NEIGHBOUR: 'it returns false'. Refute it at one input. -/
def loopAroundWrong : ChangeSpec := { name := "loopAround", fn := fun _ => fun
  | [d1, d2, d3] => { results := [.lit (.bool false)], args := [d1, d2, d3] }
  | _ => none }
def LoopAroundWrongFalsely : Prop := loopAroundRow.holds Try.pinned (OpenSpec.ofChange loopAroundWrong)

/-- 'wayfarerlaw09.RouteActs': WHATEVER THE INPUT: true; the input reads as it did. -/
def routeActsSpec : ChangeSpec := { name := "routeActs", fn := fun _ => fun
  | [d1, d2, d3] => { results := [.lit (.bool true)], args := [d1, d2, d3] }
  | _ => none }
def routeActsRow : OpenClaim := { program := "ytdholfagmlablaa", sum := "6308fc8292c85fc6f0c12ca089883463c8c38123af6bc20657e85eed072d16a9", func := "wayfarer/wayfarerlaw09.RouteActs", spec := "routeActs", unfollowed := true, recurses := true, plainKeys := false, apart := false }
def RouteActsSaid : Prop := routeActsRow.holds Try.pinned (OpenSpec.ofChange routeActsSpec)

/-- ITS FALSE NEIGHBOUR: 'it returns false'. Refute it at one input. -/
def routeActsWrong : ChangeSpec := { name := "routeActs", fn := fun _ => fun
  | [d1, d2, d3] => { results := [.lit (.bool false)], args := [d1, d2, d3] }
  | _ => none }
def RouteActsWrongFalsely : Prop := routeActsRow.holds Try.pinned (OpenSpec.ofChange routeActsWrong)

/-- 'wayfarerlaw07.WalSmall': WHATEVER THE INPUT: true; the input reads as it did. -/
def walSmallSpec : ChangeSpec := { name := "walSmall", fn := fun _ => fun
  | [d1, d2] => { results := [.lit (.bool true)], args := [d1, d2] }
  | _ => none }
def walSmallRow : OpenClaim := { program := "ytdholfagmlablaa", sum := "6308fc8292c85fc6f0c12ca089883463c8c38123af6bc20657e85eed072d16a9", func := "wayfarer/wayfarerlaw07.WalSmall", spec := "walSmall", unfollowed := true, recurses := true, plainKeys := false, apart := false }
def WalSmallSaid : Prop := walSmallRow.holds Try.pinned (OpenSpec.ofChange walSmallSpec)

/-- ITS FALSE NEIGHBOUR: 'it returns false'. Refute it at one input. -/
def walSmallWrong : ChangeSpec := { name := "walSmall", fn := fun _ => fun
  | [d1, d2] => { results := [.lit (.bool false)], args := [d1, d2] }
  | _ => none }
def WalSmallWrongFalsely : Prop := walSmallRow.holds Try.pinned (OpenSpec.ofChange walSmallWrong)

/- THE SECOND FORM. 'bulk': how many values and letters a reading holds, each counted each time it is reached (what is shared counts as often as it is met; a slice's spare places count too). A statement '..UptoSaid' is the law's where the arguments, and the package variables that the reading takes, are together of bulk at most 1048576: NARROWER than '..Said'. Prove '..Said' where nothing that the law and all that it calls make is longer than what came in: it says more and counts as full. Else prove '..UptoSaid'. A law counts once. -/
mutual
def uptoBulk {H : Type} : DataW H → Nat
  | .lit (.string bytes) => bytes.length + 1
  | .lit _ => 1
  | .nil => 1
  | .ptr d => uptoBulk d + 1
  | .slice elems spare => uptoBulkAll elems + uptoBulkAll spare + 1
  | .agg parts => uptoBulkAll parts + 1
  | .iface _ d => uptoBulk d + 1
  | .map entries => uptoBulkEntries entries + 1
  | .held _ => 1
def uptoBulkAll {H : Type} : List (DataW H) → Nat
  | [] => 0
  | d :: r => uptoBulk d + uptoBulkAll r
def uptoBulkEntries {H : Type} : List (Lit × DataW H) → Nat
  | [] => 0
  | x :: r => uptoBulkEntry x + uptoBulkEntries r
def uptoBulkEntry {H : Type} : Lit × DataW H → Nat
  | (.string bytes, d) => bytes.length + uptoBulk d + 1
  | (_, d) => uptoBulk d + 1
 end
def uptoSmall : (H : Type) → List (DataW H) → Bool := fun _ ds => decide (uptoBulkAll ds ≤ 1048576)
def OpenSpec.upto (s : _root_.Go.ChangeSpec) : _root_.Go.OpenSpec := { _root_.Go.OpenSpec.ofChange s with cond := some uptoSmall }

/-- 'wayfarerlaw13.LoopWalks', WHERE WHAT IT READS IS OF BULK AT MOST 1048576: true; the input reads as it did. -/
def loopWalksUptoRow : OpenClaim := { program := "ytdholfagmlablaa", sum := "6308fc8292c85fc6f0c12ca089883463c8c38123af6bc20657e85eed072d16a9", func := "wayfarer/wayfarerlaw13.LoopWalks", spec := "loopWalks", unfollowed := true, recurses := true, plainKeys := false, apart := false, narrowed := true }
def LoopWalksUptoSaid : Prop := loopWalksUptoRow.holds Try.pinned (OpenSpec.upto loopWalksSpec)

/-- 'wayfarerlaw13.LoopAround', WHERE WHAT IT READS IS OF BULK AT MOST 1048576: true; the input reads as it did. -/
def loopAroundUptoRow : OpenClaim := { program := "ytdholfagmlablaa", sum := "6308fc8292c85fc6f0c12ca089883463c8c38123af6bc20657e85eed072d16a9", func := "wayfarer/wayfarerlaw13.LoopAround", spec := "loopAround", unfollowed := true, recurses := true, plainKeys := false, apart := false, narrowed := true }
def LoopAroundUptoSaid : Prop := loopAroundUptoRow.holds Try.pinned (OpenSpec.upto loopAroundSpec)

/-- 'wayfarerlaw09.RouteActs', WHERE WHAT IT READS IS OF BULK AT MOST 1048576: true; the input reads as it did. -/
def routeActsUptoRow : OpenClaim := { program := "ytdholfagmlablaa", sum := "6308fc8292c85fc6f0c12ca089883463c8c38123af6bc20657e85eed072d16a9", func := "wayfarer/wayfarerlaw09.RouteActs", spec := "routeActs", unfollowed := true, recurses := true, plainKeys := false, apart := false, narrowed := true }
def RouteActsUptoSaid : Prop := routeActsUptoRow.holds Try.pinned (OpenSpec.upto routeActsSpec)

/-- 'wayfarerlaw07.WalSmall', WHERE WHAT IT READS IS OF BULK AT MOST 1048576: true; the input reads as it did. -/
def walSmallUptoRow : OpenClaim := { program := "ytdholfagmlablaa", sum := "6308fc8292c85fc6f0c12ca089883463c8c38123af6bc20657e85eed072d16a9", func := "wayfarer/wayfarerlaw07.WalSmall", spec := "walSmall", unfollowed := true, recurses := true, plainKeys := false, apart := false, narrowed := true }
def WalSmallUptoSaid : Prop := walSmallUptoRow.holds Try.pinned (OpenSpec.upto walSmallSpec)

end Rows
end Go.Proofs.Ytdholfagmlablaa
