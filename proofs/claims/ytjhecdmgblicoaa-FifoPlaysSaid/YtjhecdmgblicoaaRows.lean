/-
  No cell of these rows narrows 'for every input' (looked for: loops, veiled, ifaces, maps, wideKeys, modest, calm, conditions, laid).
  DERIVED. THE GIVEN ROWS OF THIS SEAT. 6 by the template 'for every input the law returns true; each argument reads behind the call as it read before'; 0 by the template 'total and deterministic' (their statements: YtjhecdmgblicoaaTotals.lean).
  GIVEN WITH THE SEED: the statements are not yours to turn. If you find one false, say at which input.
  Laid BY PROGRAM, IN A SANDBOX (cutbox-rows.mjs): the forced cells as the released guide's own fill.sh prints them over the translation 51d1fe2d0cee22fd… (all of the seat's roots in one cut). By AI agents, Wed Nov 11 2026. No macro, syntax, notation, axiom, sorry.
-/
import Derived.Test.YtjhecdmgblicoaaChecked
import GoSem.Claim
import GoSem.ClaimJoined
import GoSem.ClaimMapViews
import Derived.JoinedTies
import Derived.KernelRfl
namespace Go.Proofs.Ytjhecdmgblicoaa
/- THE CELL 'sum', in the pinned program and in every row, IS THE sha256 OF THE DUMP (.gsa) THAT YtjhecdmgblicoaaProg.lean LOADS. Nothing in Lean hashes anything: it is a label: what it is worth is what the hold of that sum in a sandbox is worth. -/
noncomputable def Try.pinned : Pinned := { name := "ytjhecdmgblicoaa", sum := "51d1fe2d0cee22fdc9b85ea711406ccb4d603ac55c89231cb623da6e392b4862", checked := Try.checked }
namespace Rows
def none {H : Type} : Left H := { results := [], args := [] }

/-- 'allotmentlaw10.FifoNews': WHATEVER THE INPUT: true; the input reads as it did. -/
def fifoNewsSpec : ChangeSpec := { name := "fifoNews", fn := fun _ => fun
  | [d] => { results := [.lit (.bool true)], args := [d] }
  | _ => none }
def fifoNewsRow : OpenClaim := { program := "ytjhecdmgblicoaa", sum := "51d1fe2d0cee22fdc9b85ea711406ccb4d603ac55c89231cb623da6e392b4862", func := "allotment/allotmentlaw10.FifoNews", spec := "fifoNews", apart := false }
def FifoNewsSaid : Prop := fifoNewsRow.holds Try.pinned (OpenSpec.ofChange fifoNewsSpec)

/-- ITS FALSE NEIGHBOUR: 'it returns false'. Refute it at one input. -/
def fifoNewsWrong : ChangeSpec := { name := "fifoNews", fn := fun _ => fun
  | [d] => { results := [.lit (.bool false)], args := [d] }
  | _ => none }
def FifoNewsWrongFalsely : Prop := fifoNewsRow.holds Try.pinned (OpenSpec.ofChange fifoNewsWrong)

/-- 'allotmentlaw10.FifoTexts': WHATEVER THE INPUT: true; the input reads as it did. -/
def fifoTextsSpec : ChangeSpec := { name := "fifoTexts", fn := fun _ => fun
  | [d1, d2] => { results := [.lit (.bool true)], args := [d1, d2] }
  | _ => none }
def fifoTextsRow : OpenClaim := { program := "ytjhecdmgblicoaa", sum := "51d1fe2d0cee22fdc9b85ea711406ccb4d603ac55c89231cb623da6e392b4862", func := "allotment/allotmentlaw10.FifoTexts", spec := "fifoTexts", apart := false }
def FifoTextsSaid : Prop := fifoTextsRow.holds Try.pinned (OpenSpec.ofChange fifoTextsSpec)

/-- ITS FALSE NEIGHBOUR: 'it returns false'. Refute it at one input. -/
def fifoTextsWrong : ChangeSpec := { name := "fifoTexts", fn := fun _ => fun
  | [d1, d2] => { results := [.lit (.bool false)], args := [d1, d2] }
  | _ => none }
def FifoTextsWrongFalsely : Prop := fifoTextsRow.holds Try.pinned (OpenSpec.ofChange fifoTextsWrong)

/-- 'allotmentlaw10.FifoFull': WHATEVER THE INPUT: true; the input reads as it did. -/
def fifoFullSpec : ChangeSpec := { name := "fifoFull", fn := fun _ => fun
  | [d1, d2] => { results := [.lit (.bool true)], args := [d1, d2] }
  | _ => none }
def fifoFullRow : OpenClaim := { program := "ytjhecdmgblicoaa", sum := "51d1fe2d0cee22fdc9b85ea711406ccb4d603ac55c89231cb623da6e392b4862", func := "allotment/allotmentlaw10.FifoFull", spec := "fifoFull", apart := false }
def FifoFullSaid : Prop := fifoFullRow.holds Try.pinned (OpenSpec.ofChange fifoFullSpec)

/-- ITS FALSE NEIGHBOUR: 'it returns false'. Refute it at one input. -/
def fifoFullWrong : ChangeSpec := { name := "fifoFull", fn := fun _ => fun
  | [d1, d2] => { results := [.lit (.bool false)], args := [d1, d2] }
  | _ => none }
def FifoFullWrongFalsely : Prop := fifoFullRow.holds Try.pinned (OpenSpec.ofChange fifoFullWrong)

/-- 'allotmentlaw10.FifoOwns': WHATEVER THE INPUT: true; the input reads as it did. -/
def fifoOwnsSpec : ChangeSpec := { name := "fifoOwns", fn := fun _ => fun
  | [d] => { results := [.lit (.bool true)], args := [d] }
  | _ => none }
def fifoOwnsRow : OpenClaim := { program := "ytjhecdmgblicoaa", sum := "51d1fe2d0cee22fdc9b85ea711406ccb4d603ac55c89231cb623da6e392b4862", func := "allotment/allotmentlaw10.FifoOwns", spec := "fifoOwns", apart := false }
def FifoOwnsSaid : Prop := fifoOwnsRow.holds Try.pinned (OpenSpec.ofChange fifoOwnsSpec)

/-- ITS FALSE NEIGHBOUR: 'it returns false'. Refute it at one input. -/
def fifoOwnsWrong : ChangeSpec := { name := "fifoOwns", fn := fun _ => fun
  | [d] => { results := [.lit (.bool false)], args := [d] }
  | _ => none }
def FifoOwnsWrongFalsely : Prop := fifoOwnsRow.holds Try.pinned (OpenSpec.ofChange fifoOwnsWrong)

/-- 'allotmentlaw10.FifoRow': WHATEVER THE INPUT: true; the input reads as it did. -/
def fifoRowSpec : ChangeSpec := { name := "fifoRow", fn := fun _ => fun
  | [d1, d2, d3] => { results := [.lit (.bool true)], args := [d1, d2, d3] }
  | _ => none }
def fifoRowRow : OpenClaim := { program := "ytjhecdmgblicoaa", sum := "51d1fe2d0cee22fdc9b85ea711406ccb4d603ac55c89231cb623da6e392b4862", func := "allotment/allotmentlaw10.FifoRow", spec := "fifoRow", apart := false }
def FifoRowSaid : Prop := fifoRowRow.holds Try.pinned (OpenSpec.ofChange fifoRowSpec)

/-- ITS FALSE NEIGHBOUR: 'it returns false'. Refute it at one input. -/
def fifoRowWrong : ChangeSpec := { name := "fifoRow", fn := fun _ => fun
  | [d1, d2, d3] => { results := [.lit (.bool false)], args := [d1, d2, d3] }
  | _ => none }
def FifoRowWrongFalsely : Prop := fifoRowRow.holds Try.pinned (OpenSpec.ofChange fifoRowWrong)

/-- 'allotmentlaw10.FifoPlays': WHATEVER THE INPUT: true; the input reads as it did. -/
def fifoPlaysSpec : ChangeSpec := { name := "fifoPlays", fn := fun _ => fun
  | [d1, d2] => { results := [.lit (.bool true)], args := [d1, d2] }
  | _ => none }
def fifoPlaysRow : OpenClaim := { program := "ytjhecdmgblicoaa", sum := "51d1fe2d0cee22fdc9b85ea711406ccb4d603ac55c89231cb623da6e392b4862", func := "allotment/allotmentlaw10.FifoPlays", spec := "fifoPlays", apart := false }
def FifoPlaysSaid : Prop := fifoPlaysRow.holds Try.pinned (OpenSpec.ofChange fifoPlaysSpec)

/-- ITS FALSE NEIGHBOUR: 'it returns false'. Refute it at one input. -/
def fifoPlaysWrong : ChangeSpec := { name := "fifoPlays", fn := fun _ => fun
  | [d1, d2] => { results := [.lit (.bool false)], args := [d1, d2] }
  | _ => none }
def FifoPlaysWrongFalsely : Prop := fifoPlaysRow.holds Try.pinned (OpenSpec.ofChange fifoPlaysWrong)

/- THE SECOND FORM. 'bulk': how many values and letters a reading holds, each counted each time it is reached (what is shared counts as often as it is met; a slice's spare places count too). A statement '..UptoSaid' is the law's where the arguments, and the package variables that the reading takes, are together of bulk at most 1048576: NARROWER than '..Said'. Prove '..Said' where nothing that the law and all that it calls make is longer than what came in: it says more and counts as full. Else prove '..UptoSaid'. A law counts once. -/
mutual
def uptoBulk {H : Type} : DataW H → Nat
  | .lit (.string bytes) => bytes.length + 1
  | .lit _ => 1
  | .nil => 1
  | .ptr d => uptoBulk d + 1
  | .slice elems spare => uptoBulkAll elems + uptoBulkAll spare + 1
  | .agg parts => uptoBulkAll parts + 1
  | .iface _ d => uptoBulk d + 1
  | .map entries => uptoBulkEntries entries + 1
  | .held _ => 1
def uptoBulkAll {H : Type} : List (DataW H) → Nat
  | [] => 0
  | d :: r => uptoBulk d + uptoBulkAll r
def uptoBulkEntries {H : Type} : List (Lit × DataW H) → Nat
  | [] => 0
  | x :: r => uptoBulkEntry x + uptoBulkEntries r
def uptoBulkEntry {H : Type} : Lit × DataW H → Nat
  | (.string bytes, d) => bytes.length + uptoBulk d + 1
  | (_, d) => uptoBulk d + 1
 end
def uptoSmall : (H : Type) → List (DataW H) → Bool := fun _ ds => decide (uptoBulkAll ds ≤ 1048576)
def OpenSpec.upto (s : _root_.Go.ChangeSpec) : _root_.Go.OpenSpec := { _root_.Go.OpenSpec.ofChange s with cond := some uptoSmall }

/-- 'allotmentlaw10.FifoNews', WHERE WHAT IT READS IS OF BULK AT MOST 1048576: true; the input reads as it did. -/
def fifoNewsUptoRow : OpenClaim := { program := "ytjhecdmgblicoaa", sum := "51d1fe2d0cee22fdc9b85ea711406ccb4d603ac55c89231cb623da6e392b4862", func := "allotment/allotmentlaw10.FifoNews", spec := "fifoNews", apart := false, narrowed := true }
def FifoNewsUptoSaid : Prop := fifoNewsUptoRow.holds Try.pinned (OpenSpec.upto fifoNewsSpec)

/-- 'allotmentlaw10.FifoTexts', WHERE WHAT IT READS IS OF BULK AT MOST 1048576: true; the input reads as it did. -/
def fifoTextsUptoRow : OpenClaim := { program := "ytjhecdmgblicoaa", sum := "51d1fe2d0cee22fdc9b85ea711406ccb4d603ac55c89231cb623da6e392b4862", func := "allotment/allotmentlaw10.FifoTexts", spec := "fifoTexts", apart := false, narrowed := true }
def FifoTextsUptoSaid : Prop := fifoTextsUptoRow.holds Try.pinned (OpenSpec.upto fifoTextsSpec)

/-- 'allotmentlaw10.FifoFull', WHERE WHAT IT READS IS OF BULK AT MOST 1048576: true; the input reads as it did. -/
def fifoFullUptoRow : OpenClaim := { program := "ytjhecdmgblicoaa", sum := "51d1fe2d0cee22fdc9b85ea711406ccb4d603ac55c89231cb623da6e392b4862", func := "allotment/allotmentlaw10.FifoFull", spec := "fifoFull", apart := false, narrowed := true }
def FifoFullUptoSaid : Prop := fifoFullUptoRow.holds Try.pinned (OpenSpec.upto fifoFullSpec)

/-- 'allotmentlaw10.FifoOwns', WHERE WHAT IT READS IS OF BULK AT MOST 1048576: true; the input reads as it did. -/
def fifoOwnsUptoRow : OpenClaim := { program := "ytjhecdmgblicoaa", sum := "51d1fe2d0cee22fdc9b85ea711406ccb4d603ac55c89231cb623da6e392b4862", func := "allotment/allotmentlaw10.FifoOwns", spec := "fifoOwns", apart := false, narrowed := true }
def FifoOwnsUptoSaid : Prop := fifoOwnsUptoRow.holds Try.pinned (OpenSpec.upto fifoOwnsSpec)

/-- 'allotmentlaw10.FifoRow', WHERE WHAT IT READS IS OF BULK AT MOST 1048576: true; the input reads as it did. -/
def fifoRowUptoRow : OpenClaim := { program := "ytjhecdmgblicoaa", sum := "51d1fe2d0cee22fdc9b85ea711406ccb4d603ac55c89231cb623da6e392b4862", func := "allotment/allotmentlaw10.FifoRow", spec := "fifoRow", apart := false, narrowed := true }
def FifoRowUptoSaid : Prop := fifoRowUptoRow.holds Try.pinned (OpenSpec.upto fifoRowSpec)

/-- 'allotmentlaw10.FifoPlays', WHERE WHAT IT READS IS OF BULK AT MOST 1048576: true; the input reads as it did. -/
def fifoPlaysUptoRow : OpenClaim := { program := "ytjhecdmgblicoaa", sum := "51d1fe2d0cee22fdc9b85ea711406ccb4d603ac55c89231cb623da6e392b4862", func := "allotment/allotmentlaw10.FifoPlays", spec := "fifoPlays", apart := false, narrowed := true }
def FifoPlaysUptoSaid : Prop := fifoPlaysUptoRow.holds Try.pinned (OpenSpec.upto fifoPlaysSpec)

end Rows
end Go.Proofs.Ytjhecdmgblicoaa
