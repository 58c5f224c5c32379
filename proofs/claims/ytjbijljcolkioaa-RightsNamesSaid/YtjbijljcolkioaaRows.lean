/-
  No cell of these rows narrows 'for every input' (looked for: loops, veiled, ifaces, maps, wideKeys, modest, calm, conditions, laid).
  DERIVED. THE GIVEN ROWS OF THIS SEAT. 5 by the template 'for every input the law returns true; each argument reads behind the call as it read before'; 0 by the template 'total and deterministic' (their statements: YtjbijljcolkioaaTotals.lean).
  GIVEN WITH THE SEED: the statements are not yours to turn. If you find one false, say at which input.
  Laid BY PROGRAM, IN A SANDBOX (cutbox-rows.mjs): the forced cells as the released guide's own fill.sh prints them over the translation dc4d1b2df2643875… (all of the seat's roots in one cut). By AI agents, Wed Nov 11 2026. No macro, syntax, notation, axiom, sorry.
-/
import Derived.Test.YtjbijljcolkioaaChecked
import GoSem.Claim
import GoSem.ClaimJoined
import GoSem.ClaimMapViews
import Derived.JoinedTies
import Derived.KernelRfl
namespace Go.Proofs.Ytjbijljcolkioaa
/- THE CELL 'sum', in the pinned program and in every row, IS THE sha256 OF THE DUMP (.gsa) THAT YtjbijljcolkioaaProg.lean LOADS. Nothing in Lean hashes anything: it is a label: what it is worth is what the hold of that sum in a sandbox is worth. -/
noncomputable def Try.pinned : Pinned := { name := "ytjbijljcolkioaa", sum := "dc4d1b2df2643875593d49015cbe694dc8b1bf7cc371101677a94560ea91b466", checked := Try.checked }
namespace Rows
def none {H : Type} : Left H := { results := [], args := [] }

/-- 'allotmentlaw16.RightsHas': WHATEVER THE INPUT: true; the input reads as it did. -/
def rightsHasSpec : ChangeSpec := { name := "rightsHas", fn := fun _ => fun
  | [d1, d2, d3] => { results := [.lit (.bool true)], args := [d1, d2, d3] }
  | _ => none }
def rightsHasRow : OpenClaim := { program := "ytjbijljcolkioaa", sum := "dc4d1b2df2643875593d49015cbe694dc8b1bf7cc371101677a94560ea91b466", func := "allotment/allotmentlaw16.RightsHas", spec := "rightsHas", apart := false }
def RightsHasSaid : Prop := rightsHasRow.holds Try.pinned (OpenSpec.ofChange rightsHasSpec)

/-- ITS FALSE NEIGHBOUR: 'it returns false'. Refute it at one input. -/
def rightsHasWrong : ChangeSpec := { name := "rightsHas", fn := fun _ => fun
  | [d1, d2, d3] => { results := [.lit (.bool false)], args := [d1, d2, d3] }
  | _ => none }
def RightsHasWrongFalsely : Prop := rightsHasRow.holds Try.pinned (OpenSpec.ofChange rightsHasWrong)

/-- 'allotmentlaw16.RightsMay': WHATEVER THE INPUT: true; the input reads as it did. -/
def rightsMaySpec : ChangeSpec := { name := "rightsMay", fn := fun _ => fun
  | [d] => { results := [.lit (.bool true)], args := [d] }
  | _ => none }
def rightsMayRow : OpenClaim := { program := "ytjbijljcolkioaa", sum := "dc4d1b2df2643875593d49015cbe694dc8b1bf7cc371101677a94560ea91b466", func := "allotment/allotmentlaw16.RightsMay", spec := "rightsMay", apart := false }
def RightsMaySaid : Prop := rightsMayRow.holds Try.pinned (OpenSpec.ofChange rightsMaySpec)

/-- ITS FALSE NEIGHBOUR: 'it returns false'. Refute it at one input. -/
def rightsMayWrong : ChangeSpec := { name := "rightsMay", fn := fun _ => fun
  | [d] => { results := [.lit (.bool false)], args := [d] }
  | _ => none }
def RightsMayWrongFalsely : Prop := rightsMayRow.holds Try.pinned (OpenSpec.ofChange rightsMayWrong)

/-- 'allotmentlaw16.RightsNeeds': WHATEVER THE INPUT: true; the input reads as it did. -/
def rightsNeedsSpec : ChangeSpec := { name := "rightsNeeds", fn := fun _ => fun
  | [d] => { results := [.lit (.bool true)], args := [d] }
  | _ => none }
def rightsNeedsRow : OpenClaim := { program := "ytjbijljcolkioaa", sum := "dc4d1b2df2643875593d49015cbe694dc8b1bf7cc371101677a94560ea91b466", func := "allotment/allotmentlaw16.RightsNeeds", spec := "rightsNeeds", apart := false }
def RightsNeedsSaid : Prop := rightsNeedsRow.holds Try.pinned (OpenSpec.ofChange rightsNeedsSpec)

/-- ITS FALSE NEIGHBOUR: 'it returns false'. Refute it at one input. -/
def rightsNeedsWrong : ChangeSpec := { name := "rightsNeeds", fn := fun _ => fun
  | [d] => { results := [.lit (.bool false)], args := [d] }
  | _ => none }
def RightsNeedsWrongFalsely : Prop := rightsNeedsRow.holds Try.pinned (OpenSpec.ofChange rightsNeedsWrong)

/-- 'allotmentlaw16.RightsMore': WHATEVER THE INPUT: true; the input reads as it did. -/
def rightsMoreSpec : ChangeSpec := { name := "rightsMore", fn := fun _ => fun
  | [d1, d2, d3] => { results := [.lit (.bool true)], args := [d1, d2, d3] }
  | _ => none }
def rightsMoreRow : OpenClaim := { program := "ytjbijljcolkioaa", sum := "dc4d1b2df2643875593d49015cbe694dc8b1bf7cc371101677a94560ea91b466", func := "allotment/allotmentlaw16.RightsMore", spec := "rightsMore", apart := false }
def RightsMoreSaid : Prop := rightsMoreRow.holds Try.pinned (OpenSpec.ofChange rightsMoreSpec)

/-- ITS FALSE NEIGHBOUR: 'it returns false'. Refute it at one input. -/
def rightsMoreWrong : ChangeSpec := { name := "rightsMore", fn := fun _ => fun
  | [d1, d2, d3] => { results := [.lit (.bool false)], args := [d1, d2, d3] }
  | _ => none }
def RightsMoreWrongFalsely : Prop := rightsMoreRow.holds Try.pinned (OpenSpec.ofChange rightsMoreWrong)

/-- 'allotmentlaw16.RightsNames': WHATEVER THE INPUT: true; the input reads as it did. -/
def rightsNamesSpec : ChangeSpec := { name := "rightsNames", fn := fun _ => fun
  | [d1, d2, d3] => { results := [.lit (.bool true)], args := [d1, d2, d3] }
  | _ => none }
def rightsNamesRow : OpenClaim := { program := "ytjbijljcolkioaa", sum := "dc4d1b2df2643875593d49015cbe694dc8b1bf7cc371101677a94560ea91b466", func := "allotment/allotmentlaw16.RightsNames", spec := "rightsNames", apart := false }
def RightsNamesSaid : Prop := rightsNamesRow.holds Try.pinned (OpenSpec.ofChange rightsNamesSpec)

/-- ITS FALSE NEIGHBOUR: 'it returns false'. Refute it at one input. -/
def rightsNamesWrong : ChangeSpec := { name := "rightsNames", fn := fun _ => fun
  | [d1, d2, d3] => { results := [.lit (.bool false)], args := [d1, d2, d3] }
  | _ => none }
def RightsNamesWrongFalsely : Prop := rightsNamesRow.holds Try.pinned (OpenSpec.ofChange rightsNamesWrong)

/- THE SECOND FORM. 'bulk': how many values and letters a reading holds, each counted each time it is reached (what is shared counts as often as it is met; a slice's spare places count too). A statement '..UptoSaid' is the law's where the arguments, and the package variables that the reading takes, are together of bulk at most 1048576: NARROWER than '..Said'. Prove '..Said' where nothing that the law and all that it calls make is longer than what came in: it says more and counts as full. Else prove '..UptoSaid'. A law counts once. -/
mutual
def uptoBulk {H : Type} : DataW H → Nat
  | .lit (.string bytes) => bytes.length + 1
  | .lit _ => 1
  | .nil => 1
  | .ptr d => uptoBulk d + 1
  | .slice elems spare => uptoBulkAll elems + uptoBulkAll spare + 1
  | .agg parts => uptoBulkAll parts + 1
  | .iface _ d => uptoBulk d + 1
  | .map entries => uptoBulkEntries entries + 1
  | .held _ => 1
def uptoBulkAll {H : Type} : List (DataW H) → Nat
  | [] => 0
  | d :: r => uptoBulk d + uptoBulkAll r
def uptoBulkEntries {H : Type} : List (Lit × DataW H) → Nat
  | [] => 0
  | x :: r => uptoBulkEntry x + uptoBulkEntries r
def uptoBulkEntry {H : Type} : Lit × DataW H → Nat
  | (.string bytes, d) => bytes.length + uptoBulk d + 1
  | (_, d) => uptoBulk d + 1
 end
def uptoSmall : (H : Type) → List (DataW H) → Bool := fun _ ds => decide (uptoBulkAll ds ≤ 1048576)
def OpenSpec.upto (s : _root_.Go.ChangeSpec) : _root_.Go.OpenSpec := { _root_.Go.OpenSpec.ofChange s with cond := some uptoSmall }

/-- 'allotmentlaw16.RightsHas', WHERE WHAT IT READS IS OF BULK AT MOST 1048576: true; the input reads as it did. -/
def rightsHasUptoRow : OpenClaim := { program := "ytjbijljcolkioaa", sum := "dc4d1b2df2643875593d49015cbe694dc8b1bf7cc371101677a94560ea91b466", func := "allotment/allotmentlaw16.RightsHas", spec := "rightsHas", apart := false, narrowed := true }
def RightsHasUptoSaid : Prop := rightsHasUptoRow.holds Try.pinned (OpenSpec.upto rightsHasSpec)

/-- 'allotmentlaw16.RightsMay', WHERE WHAT IT READS IS OF BULK AT MOST 1048576: true; the input reads as it did. -/
def rightsMayUptoRow : OpenClaim := { program := "ytjbijljcolkioaa", sum := "dc4d1b2df2643875593d49015cbe694dc8b1bf7cc371101677a94560ea91b466", func := "allotment/allotmentlaw16.RightsMay", spec := "rightsMay", apart := false, narrowed := true }
def RightsMayUptoSaid : Prop := rightsMayUptoRow.holds Try.pinned (OpenSpec.upto rightsMaySpec)

/-- 'allotmentlaw16.RightsNeeds', WHERE WHAT IT READS IS OF BULK AT MOST 1048576: true; the input reads as it did. -/
def rightsNeedsUptoRow : OpenClaim := { program := "ytjbijljcolkioaa", sum := "dc4d1b2df2643875593d49015cbe694dc8b1bf7cc371101677a94560ea91b466", func := "allotment/allotmentlaw16.RightsNeeds", spec := "rightsNeeds", apart := false, narrowed := true }
def RightsNeedsUptoSaid : Prop := rightsNeedsUptoRow.holds Try.pinned (OpenSpec.upto rightsNeedsSpec)

/-- 'allotmentlaw16.RightsMore', WHERE WHAT IT READS IS OF BULK AT MOST 1048576: true; the input reads as it did. -/
def rightsMoreUptoRow : OpenClaim := { program := "ytjbijljcolkioaa", sum := "dc4d1b2df2643875593d49015cbe694dc8b1bf7cc371101677a94560ea91b466", func := "allotment/allotmentlaw16.RightsMore", spec := "rightsMore", apart := false, narrowed := true }
def RightsMoreUptoSaid : Prop := rightsMoreUptoRow.holds Try.pinned (OpenSpec.upto rightsMoreSpec)

/-- 'allotmentlaw16.RightsNames', WHERE WHAT IT READS IS OF BULK AT MOST 1048576: true; the input reads as it did. -/
def rightsNamesUptoRow : OpenClaim := { program := "ytjbijljcolkioaa", sum := "dc4d1b2df2643875593d49015cbe694dc8b1bf7cc371101677a94560ea91b466", func := "allotment/allotmentlaw16.RightsNames", spec := "rightsNames", apart := false, narrowed := true }
def RightsNamesUptoSaid : Prop := rightsNamesUptoRow.holds Try.pinned (OpenSpec.upto rightsNamesSpec)

end Rows
end Go.Proofs.Ytjbijljcolkioaa
