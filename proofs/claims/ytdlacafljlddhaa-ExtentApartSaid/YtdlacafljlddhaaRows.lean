/-
  No cell of these rows narrows 'for every input' (looked for: loops, veiled, ifaces, maps, wideKeys, modest, calm, conditions, laid).
  DERIVED. THE GIVEN ROWS OF THIS SEAT. 5 by the template 'for every input the law returns true; each argument reads behind the call as it read before'; 0 by the template 'total and deterministic' (their statements: YtdlacafljlddhaaTotals.lean).
  GIVEN WITH THE SEED: the statements are not yours to turn. If you find one false, say at which input.
  Laid BY PROGRAM, IN A SANDBOX (cutbox-rows.mjs): the forced cells as the released guide's own fill.sh prints them over the translation 2da945a66e9cc317… (all of the seat's roots in one cut). By AI agents, Wed Nov 11 2026. No macro, syntax, notation, axiom, sorry.
-/
import Derived.Test.YtdlacafljlddhaaChecked
import GoSem.Claim
import GoSem.ClaimJoined
import GoSem.ClaimMapViews
import Derived.JoinedTies
import Derived.KernelRfl
namespace Go.Proofs.Ytdlacafljlddhaa
/- THE CELL 'sum', in the pinned program and in every row, IS THE sha256 OF THE DUMP (.gsa) THAT YtdlacafljlddhaaProg.lean LOADS. Nothing in Lean hashes anything: it is a label: what it is worth is what the hold of that sum in a sandbox is worth. -/
noncomputable def Try.pinned : Pinned := { name := "ytdlacafljlddhaa", sum := "2da945a66e9cc3171fce550f95bfccbb894c079377df316c9c816f7b88eef348", checked := Try.checked }
namespace Rows
def none {H : Type} : Left H := { results := [], args := [] }

/-- 'allotmentlaw07.ExtentRanges': WHATEVER THE INPUT: true; the input reads as it did. -/
def extentRangesSpec : ChangeSpec := { name := "extentRanges", fn := fun _ => fun
  | [d1, d2] => { results := [.lit (.bool true)], args := [d1, d2] }
  | _ => none }
def extentRangesRow : OpenClaim := { program := "ytdlacafljlddhaa", sum := "2da945a66e9cc3171fce550f95bfccbb894c079377df316c9c816f7b88eef348", func := "allotment/allotmentlaw07.ExtentRanges", spec := "extentRanges", apart := false }
def ExtentRangesSaid : Prop := extentRangesRow.holds Try.pinned (OpenSpec.ofChange extentRangesSpec)

/-- ITS FALSE NEIGHBOUR: 'it returns false'. Refute it at one input. -/
def extentRangesWrong : ChangeSpec := { name := "extentRanges", fn := fun _ => fun
  | [d1, d2] => { results := [.lit (.bool false)], args := [d1, d2] }
  | _ => none }
def ExtentRangesWrongFalsely : Prop := extentRangesRow.holds Try.pinned (OpenSpec.ofChange extentRangesWrong)

/-- 'allotmentlaw07.ExtentSectors': WHATEVER THE INPUT: true; the input reads as it did. -/
def extentSectorsSpec : ChangeSpec := { name := "extentSectors", fn := fun _ => fun
  | [d1, d2, d3, d4] => { results := [.lit (.bool true)], args := [d1, d2, d3, d4] }
  | _ => none }
def extentSectorsRow : OpenClaim := { program := "ytdlacafljlddhaa", sum := "2da945a66e9cc3171fce550f95bfccbb894c079377df316c9c816f7b88eef348", func := "allotment/allotmentlaw07.ExtentSectors", spec := "extentSectors", apart := false }
def ExtentSectorsSaid : Prop := extentSectorsRow.holds Try.pinned (OpenSpec.ofChange extentSectorsSpec)

/-- ITS FALSE NEIGHBOUR: 'it returns false'. Refute it at one input. -/
def extentSectorsWrong : ChangeSpec := { name := "extentSectors", fn := fun _ => fun
  | [d1, d2, d3, d4] => { results := [.lit (.bool false)], args := [d1, d2, d3, d4] }
  | _ => none }
def ExtentSectorsWrongFalsely : Prop := extentSectorsRow.holds Try.pinned (OpenSpec.ofChange extentSectorsWrong)

/-- 'allotmentlaw07.ExtentOwners': WHATEVER THE INPUT: true; the input reads as it did. -/
def extentOwnersSpec : ChangeSpec := { name := "extentOwners", fn := fun _ => fun
  | [d1, d2] => { results := [.lit (.bool true)], args := [d1, d2] }
  | _ => none }
def extentOwnersRow : OpenClaim := { program := "ytdlacafljlddhaa", sum := "2da945a66e9cc3171fce550f95bfccbb894c079377df316c9c816f7b88eef348", func := "allotment/allotmentlaw07.ExtentOwners", spec := "extentOwners", apart := false }
def ExtentOwnersSaid : Prop := extentOwnersRow.holds Try.pinned (OpenSpec.ofChange extentOwnersSpec)

/-- ITS FALSE NEIGHBOUR: 'it returns false'. Refute it at one input. -/
def extentOwnersWrong : ChangeSpec := { name := "extentOwners", fn := fun _ => fun
  | [d1, d2] => { results := [.lit (.bool false)], args := [d1, d2] }
  | _ => none }
def ExtentOwnersWrongFalsely : Prop := extentOwnersRow.holds Try.pinned (OpenSpec.ofChange extentOwnersWrong)

/-- 'allotmentlaw07.ExtentCovers': WHATEVER THE INPUT: true; the input reads as it did. -/
def extentCoversSpec : ChangeSpec := { name := "extentCovers", fn := fun _ => fun
  | [d] => { results := [.lit (.bool true)], args := [d] }
  | _ => none }
def extentCoversRow : OpenClaim := { program := "ytdlacafljlddhaa", sum := "2da945a66e9cc3171fce550f95bfccbb894c079377df316c9c816f7b88eef348", func := "allotment/allotmentlaw07.ExtentCovers", spec := "extentCovers", apart := false }
def ExtentCoversSaid : Prop := extentCoversRow.holds Try.pinned (OpenSpec.ofChange extentCoversSpec)

/-- ITS FALSE NEIGHBOUR: 'it returns false'. Refute it at one input. -/
def extentCoversWrong : ChangeSpec := { name := "extentCovers", fn := fun _ => fun
  | [d] => { results := [.lit (.bool false)], args := [d] }
  | _ => none }
def ExtentCoversWrongFalsely : Prop := extentCoversRow.holds Try.pinned (OpenSpec.ofChange extentCoversWrong)

/-- 'allotmentlaw07.ExtentApart': WHATEVER THE INPUT: true; the input reads as it did. -/
def extentApartSpec : ChangeSpec := { name := "extentApart", fn := fun _ => fun
  | [d] => { results := [.lit (.bool true)], args := [d] }
  | _ => none }
def extentApartRow : OpenClaim := { program := "ytdlacafljlddhaa", sum := "2da945a66e9cc3171fce550f95bfccbb894c079377df316c9c816f7b88eef348", func := "allotment/allotmentlaw07.ExtentApart", spec := "extentApart", apart := false }
def ExtentApartSaid : Prop := extentApartRow.holds Try.pinned (OpenSpec.ofChange extentApartSpec)

/-- ITS FALSE NEIGHBOUR: 'it returns false'. Refute it at one input. -/
def extentApartWrong : ChangeSpec := { name := "extentApart", fn := fun _ => fun
  | [d] => { results := [.lit (.bool false)], args := [d] }
  | _ => none }
def ExtentApartWrongFalsely : Prop := extentApartRow.holds Try.pinned (OpenSpec.ofChange extentApartWrong)

/- THE SECOND FORM. 'bulk': how many values and letters a reading holds, each counted each time it is reached (what is shared counts as often as it is met; a slice's spare places count too). A statement '..UptoSaid' is the law's where the arguments, and the package variables that the reading takes, are together of bulk at most 1048576: NARROWER than '..Said'. Prove '..Said' where nothing that the law and all that it calls make is longer than what came in: it says more and counts as full. Else prove '..UptoSaid'. A law counts once. -/
mutual
def uptoBulk {H : Type} : DataW H → Nat
  | .lit (.string bytes) => bytes.length + 1
  | .lit _ => 1
  | .nil => 1
  | .ptr d => uptoBulk d + 1
  | .slice elems spare => uptoBulkAll elems + uptoBulkAll spare + 1
  | .agg parts => uptoBulkAll parts + 1
  | .iface _ d => uptoBulk d + 1
  | .map entries => uptoBulkEntries entries + 1
  | .held _ => 1
def uptoBulkAll {H : Type} : List (DataW H) → Nat
  | [] => 0
  | d :: r => uptoBulk d + uptoBulkAll r
def uptoBulkEntries {H : Type} : List (Lit × DataW H) → Nat
  | [] => 0
  | x :: r => uptoBulkEntry x + uptoBulkEntries r
def uptoBulkEntry {H : Type} : Lit × DataW H → Nat
  | (.string bytes, d) => bytes.length + uptoBulk d + 1
  | (_, d) => uptoBulk d + 1
 end
def uptoSmall : (H : Type) → List (DataW H) → Bool := fun _ ds => decide (uptoBulkAll ds ≤ 1048576)
def OpenSpec.upto (s : _root_.Go.ChangeSpec) : _root_.Go.OpenSpec := { _root_.Go.OpenSpec.ofChange s with cond := some uptoSmall }

/-- 'allotmentlaw07.ExtentRanges', WHERE WHAT IT READS IS OF BULK AT MOST 1048576: true; the input reads as it did. -/
def extentRangesUptoRow : OpenClaim := { program := "ytdlacafljlddhaa", sum := "2da945a66e9cc3171fce550f95bfccbb894c079377df316c9c816f7b88eef348", func := "allotment/allotmentlaw07.ExtentRanges", spec := "extentRanges", apart := false, narrowed := true }
def ExtentRangesUptoSaid : Prop := extentRangesUptoRow.holds Try.pinned (OpenSpec.upto extentRangesSpec)

/-- 'allotmentlaw07.ExtentSectors', WHERE WHAT IT READS IS OF BULK AT MOST 1048576: true; the input reads as it did. -/
def extentSectorsUptoRow : OpenClaim := { program := "ytdlacafljlddhaa", sum := "2da945a66e9cc3171fce550f95bfccbb894c079377df316c9c816f7b88eef348", func := "allotment/allotmentlaw07.ExtentSectors", spec := "extentSectors", apart := false, narrowed := true }
def ExtentSectorsUptoSaid : Prop := extentSectorsUptoRow.holds Try.pinned (OpenSpec.upto extentSectorsSpec)

/-- 'allotmentlaw07.ExtentOwners', WHERE WHAT IT READS IS OF BULK AT MOST 1048576: true; the input reads as it did. -/
def extentOwnersUptoRow : OpenClaim := { program := "ytdlacafljlddhaa", sum := "2da945a66e9cc3171fce550f95bfccbb894c079377df316c9c816f7b88eef348", func := "allotment/allotmentlaw07.ExtentOwners", spec := "extentOwners", apart := false, narrowed := true }
def ExtentOwnersUptoSaid : Prop := extentOwnersUptoRow.holds Try.pinned (OpenSpec.upto extentOwnersSpec)

/-- 'allotmentlaw07.ExtentCovers', WHERE WHAT IT READS IS OF BULK AT MOST 1048576: true; the input reads as it did. -/
def extentCoversUptoRow : OpenClaim := { program := "ytdlacafljlddhaa", sum := "2da945a66e9cc3171fce550f95bfccbb894c079377df316c9c816f7b88eef348", func := "allotment/allotmentlaw07.ExtentCovers", spec := "extentCovers", apart := false, narrowed := true }
def ExtentCoversUptoSaid : Prop := extentCoversUptoRow.holds Try.pinned (OpenSpec.upto extentCoversSpec)

/-- 'allotmentlaw07.ExtentApart', WHERE WHAT IT READS IS OF BULK AT MOST 1048576: true; the input reads as it did. -/
def extentApartUptoRow : OpenClaim := { program := "ytdlacafljlddhaa", sum := "2da945a66e9cc3171fce550f95bfccbb894c079377df316c9c816f7b88eef348", func := "allotment/allotmentlaw07.ExtentApart", spec := "extentApart", apart := false, narrowed := true }
def ExtentApartUptoSaid : Prop := extentApartUptoRow.holds Try.pinned (OpenSpec.upto extentApartSpec)

end Rows
end Go.Proofs.Ytdlacafljlddhaa
