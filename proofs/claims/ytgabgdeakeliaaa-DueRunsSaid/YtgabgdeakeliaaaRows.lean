/-
  No cell of these rows narrows 'for every input' (looked for: loops, veiled, ifaces, maps, wideKeys, modest, calm, conditions, laid).
  DERIVED. THE GIVEN ROWS OF THIS SEAT. 3 by the template 'for every input the law returns true; each argument reads behind the call as it read before'; 0 by the template 'total and deterministic' (their statements: YtgabgdeakeliaaaTotals.lean).
  GIVEN WITH THE SEED: the statements are not yours to turn. If you find one false, say at which input.
  Laid BY PROGRAM, IN A SANDBOX (cutbox-rows.mjs): the forced cells as the released guide's own fill.sh prints them over the translation 3f3ce644fd108169… (all of the seat's roots in one cut). By AI agents, Wed Nov 11 2026. No macro, syntax, notation, axiom, sorry.
-/
import Derived.Test.YtgabgdeakeliaaaChecked
import GoSem.Claim
import GoSem.ClaimJoined
import GoSem.ClaimMapViews
import Derived.JoinedTies
import Derived.KernelRfl
namespace Go.Proofs.Ytgabgdeakeliaaa
/- THE CELL 'sum', in the pinned program and in every row, IS THE sha256 OF THE DUMP (.gsa) THAT YtgabgdeakeliaaaProg.lean LOADS. Nothing in Lean hashes anything: it is a label: what it is worth is what the hold of that sum in a sandbox is worth. -/
noncomputable def Try.pinned : Pinned := { name := "ytgabgdeakeliaaa", sum := "3f3ce644fd10816944b429cb8a0e91e503fdc70c530225f37be79b05c10c91e7", checked := Try.checked }
namespace Rows
def none {H : Type} : Left H := { results := [], args := [] }

/-- 'dockmasterlaw03.DueOrder': WHATEVER THE INPUT: true; the input reads as it did. -/
def dueOrderSpec : ChangeSpec := { name := "dueOrder", fn := fun _ => fun
  | [d] => { results := [.lit (.bool true)], args := [d] }
  | _ => none }
def dueOrderRow : OpenClaim := { program := "ytgabgdeakeliaaa", sum := "3f3ce644fd10816944b429cb8a0e91e503fdc70c530225f37be79b05c10c91e7", func := "dockmaster/dockmasterlaw03.DueOrder", spec := "dueOrder", unfollowed := true, recurses := true, plainKeys := false, apart := false }
def DueOrderSaid : Prop := dueOrderRow.holds Try.pinned (OpenSpec.ofChange dueOrderSpec)

/-- ITS FALSE NEIGHBOUR: 'it returns false'. Refute it at one input. -/
def dueOrderWrong : ChangeSpec := { name := "dueOrder", fn := fun _ => fun
  | [d] => { results := [.lit (.bool false)], args := [d] }
  | _ => none }
def DueOrderWrongFalsely : Prop := dueOrderRow.holds Try.pinned (OpenSpec.ofChange dueOrderWrong)

/-- 'dockmasterlaw03.DueTimes': WHATEVER THE INPUT: true; the input reads as it did. -/
def dueTimesSpec : ChangeSpec := { name := "dueTimes", fn := fun _ => fun
  | [d1, d2] => { results := [.lit (.bool true)], args := [d1, d2] }
  | _ => none }
def dueTimesRow : OpenClaim := { program := "ytgabgdeakeliaaa", sum := "3f3ce644fd10816944b429cb8a0e91e503fdc70c530225f37be79b05c10c91e7", func := "dockmaster/dockmasterlaw03.DueTimes", spec := "dueTimes", unfollowed := true, recurses := true, plainKeys := false, apart := false }
def DueTimesSaid : Prop := dueTimesRow.holds Try.pinned (OpenSpec.ofChange dueTimesSpec)

/-- ITS FALSE NEIGHBOUR: 'it returns false'. Refute it at one input. -/
def dueTimesWrong : ChangeSpec := { name := "dueTimes", fn := fun _ => fun
  | [d1, d2] => { results := [.lit (.bool false)], args := [d1, d2] }
  | _ => none }
def DueTimesWrongFalsely : Prop := dueTimesRow.holds Try.pinned (OpenSpec.ofChange dueTimesWrong)

/-- 'dockmasterlaw03.DueRuns': WHATEVER THE INPUT: true; the input reads as it did. -/
def dueRunsSpec : ChangeSpec := { name := "dueRuns", fn := fun _ => fun
  | [d] => { results := [.lit (.bool true)], args := [d] }
  | _ => none }
def dueRunsRow : OpenClaim := { program := "ytgabgdeakeliaaa", sum := "3f3ce644fd10816944b429cb8a0e91e503fdc70c530225f37be79b05c10c91e7", func := "dockmaster/dockmasterlaw03.DueRuns", spec := "dueRuns", unfollowed := true, recurses := true, plainKeys := false, apart := false }
def DueRunsSaid : Prop := dueRunsRow.holds Try.pinned (OpenSpec.ofChange dueRunsSpec)

/-- ITS FALSE NEIGHBOUR: 'it returns false'. Refute it at one input. -/
def dueRunsWrong : ChangeSpec := { name := "dueRuns", fn := fun _ => fun
  | [d] => { results := [.lit (.bool false)], args := [d] }
  | _ => none }
def DueRunsWrongFalsely : Prop := dueRunsRow.holds Try.pinned (OpenSpec.ofChange dueRunsWrong)

/- THE SECOND FORM. 'bulk': how many values and letters a reading holds, each counted each time it is reached (what is shared counts as often as it is met; a slice's spare places count too). A statement '..UptoSaid' is the law's where the arguments, and the package variables that the reading takes, are together of bulk at most 1048576: NARROWER than '..Said'. Prove '..Said' where nothing that the law and all that it calls make is longer than what came in: it says more and counts as full. Else prove '..UptoSaid'. A law counts once. -/
mutual
def uptoBulk {H : Type} : DataW H → Nat
  | .lit (.string bytes) => bytes.length + 1
  | .lit _ => 1
  | .nil => 1
  | .ptr d => uptoBulk d + 1
  | .slice elems spare => uptoBulkAll elems + uptoBulkAll spare + 1
  | .agg parts => uptoBulkAll parts + 1
  | .iface _ d => uptoBulk d + 1
  | .map entries => uptoBulkEntries entries + 1
  | .held _ => 1
def uptoBulkAll {H : Type} : List (DataW H) → Nat
  | [] => 0
  | d :: r => uptoBulk d + uptoBulkAll r
def uptoBulkEntries {H : Type} : List (Lit × DataW H) → Nat
  | [] => 0
  | x :: r => uptoBulkEntry x + uptoBulkEntries r
def uptoBulkEntry {H : Type} : Lit × DataW H → Nat
  | (.string bytes, d) => bytes.length + uptoBulk d + 1
  | (_, d) => uptoBulk d + 1
 end
def uptoSmall : (H : Type) → List (DataW H) → Bool := fun _ ds => decide (uptoBulkAll ds ≤ 1048576)
def OpenSpec.upto (s : _root_.Go.ChangeSpec) : _root_.Go.OpenSpec := { _root_.Go.OpenSpec.ofChange s with cond := some uptoSmall }

/-- 'dockmasterlaw03.DueOrder', WHERE WHAT IT READS IS OF BULK AT MOST 1048576: true; the input reads as it did. -/
def dueOrderUptoRow : OpenClaim := { program := "ytgabgdeakeliaaa", sum := "3f3ce644fd10816944b429cb8a0e91e503fdc70c530225f37be79b05c10c91e7", func := "dockmaster/dockmasterlaw03.DueOrder", spec := "dueOrder", unfollowed := true, recurses := true, plainKeys := false, apart := false, narrowed := true }
def DueOrderUptoSaid : Prop := dueOrderUptoRow.holds Try.pinned (OpenSpec.upto dueOrderSpec)

/-- 'dockmasterlaw03.DueTimes', WHERE WHAT IT READS IS OF BULK AT MOST 1048576: true; the input reads as it did. -/
def dueTimesUptoRow : OpenClaim := { program := "ytgabgdeakeliaaa", sum := "3f3ce644fd10816944b429cb8a0e91e503fdc70c530225f37be79b05c10c91e7", func := "dockmaster/dockmasterlaw03.DueTimes", spec := "dueTimes", unfollowed := true, recurses := true, plainKeys := false, apart := false, narrowed := true }
def DueTimesUptoSaid : Prop := dueTimesUptoRow.holds Try.pinned (OpenSpec.upto dueTimesSpec)

/-- 'dockmasterlaw03.DueRuns', WHERE WHAT IT READS IS OF BULK AT MOST 1048576: true; the input reads as it did. -/
def dueRunsUptoRow : OpenClaim := { program := "ytgabgdeakeliaaa", sum := "3f3ce644fd10816944b429cb8a0e91e503fdc70c530225f37be79b05c10c91e7", func := "dockmaster/dockmasterlaw03.DueRuns", spec := "dueRuns", unfollowed := true, recurses := true, plainKeys := false, apart := false, narrowed := true }
def DueRunsUptoSaid : Prop := dueRunsUptoRow.holds Try.pinned (OpenSpec.upto dueRunsSpec)

end Rows
end Go.Proofs.Ytgabgdeakeliaaa
