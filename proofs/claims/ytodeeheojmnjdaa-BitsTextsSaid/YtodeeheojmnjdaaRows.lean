/-
  No cell of these rows narrows 'for every input' (looked for: loops, veiled, ifaces, maps, wideKeys, modest, calm, conditions, laid).
  DERIVED. THE GIVEN ROWS OF THIS SEAT. 5 by the template 'for every input the law returns true; each argument reads behind the call as it read before'; 0 by the template 'total and deterministic' (their statements: YtodeeheojmnjdaaTotals.lean).
  GIVEN WITH THE SEED: the statements are not yours to turn. If you find one false, say at which input.
  Laid BY PROGRAM, IN A SANDBOX (cutbox-rows.mjs): the forced cells as the released guide's own fill.sh prints them over the translation f7e7da5e5ad4a9ce… (all of the seat's roots in one cut). By AI agents, Wed Nov 11 2026. No macro, syntax, notation, axiom, sorry.
-/
import Derived.Test.YtodeeheojmnjdaaChecked
import GoSem.Claim
import GoSem.ClaimJoined
import GoSem.ClaimMapViews
import Derived.JoinedTies
import Derived.KernelRfl
namespace Go.Proofs.Ytodeeheojmnjdaa
/- THE CELL 'sum', in the pinned program and in every row, IS THE sha256 OF THE DUMP (.gsa) THAT YtodeeheojmnjdaaProg.lean LOADS. Nothing in Lean hashes anything: it is a label: what it is worth is what the hold of that sum in a sandbox is worth. -/
noncomputable def Try.pinned : Pinned := { name := "ytodeeheojmnjdaa", sum := "f7e7da5e5ad4a9ce590772432c10430df66ff429fefb58baea8fd970d3f5b9f2", checked := Try.checked }
namespace Rows
def none {H : Type} : Left H := { results := [], args := [] }

/-- 'allotmentlaw03.BitsPlays': WHATEVER THE INPUT: true; the input reads as it did. -/
def bitsPlaysSpec : ChangeSpec := { name := "bitsPlays", fn := fun _ => fun
  | [d1, d2, d3] => { results := [.lit (.bool true)], args := [d1, d2, d3] }
  | _ => none }
def bitsPlaysRow : OpenClaim := { program := "ytodeeheojmnjdaa", sum := "f7e7da5e5ad4a9ce590772432c10430df66ff429fefb58baea8fd970d3f5b9f2", func := "allotment/allotmentlaw03.BitsPlays", spec := "bitsPlays", apart := false }
def BitsPlaysSaid : Prop := bitsPlaysRow.holds Try.pinned (OpenSpec.ofChange bitsPlaysSpec)

/-- ITS FALSE NEIGHBOUR: 'it returns false'. Refute it at one input. -/
def bitsPlaysWrong : ChangeSpec := { name := "bitsPlays", fn := fun _ => fun
  | [d1, d2, d3] => { results := [.lit (.bool false)], args := [d1, d2, d3] }
  | _ => none }
def BitsPlaysWrongFalsely : Prop := bitsPlaysRow.holds Try.pinned (OpenSpec.ofChange bitsPlaysWrong)

/-- 'allotmentlaw03.BitsEnd': WHATEVER THE INPUT: true; the input reads as it did. -/
def bitsEndSpec : ChangeSpec := { name := "bitsEnd", fn := fun _ => fun
  | [d1, d2] => { results := [.lit (.bool true)], args := [d1, d2] }
  | _ => none }
def bitsEndRow : OpenClaim := { program := "ytodeeheojmnjdaa", sum := "f7e7da5e5ad4a9ce590772432c10430df66ff429fefb58baea8fd970d3f5b9f2", func := "allotment/allotmentlaw03.BitsEnd", spec := "bitsEnd", apart := false }
def BitsEndSaid : Prop := bitsEndRow.holds Try.pinned (OpenSpec.ofChange bitsEndSpec)

/-- ITS FALSE NEIGHBOUR: 'it returns false'. Refute it at one input. -/
def bitsEndWrong : ChangeSpec := { name := "bitsEnd", fn := fun _ => fun
  | [d1, d2] => { results := [.lit (.bool false)], args := [d1, d2] }
  | _ => none }
def BitsEndWrongFalsely : Prop := bitsEndRow.holds Try.pinned (OpenSpec.ofChange bitsEndWrong)

/-- 'allotmentlaw03.BitsOwns': WHATEVER THE INPUT: true; the input reads as it did. -/
def bitsOwnsSpec : ChangeSpec := { name := "bitsOwns", fn := fun _ => fun
  | [d1, d2] => { results := [.lit (.bool true)], args := [d1, d2] }
  | _ => none }
def bitsOwnsRow : OpenClaim := { program := "ytodeeheojmnjdaa", sum := "f7e7da5e5ad4a9ce590772432c10430df66ff429fefb58baea8fd970d3f5b9f2", func := "allotment/allotmentlaw03.BitsOwns", spec := "bitsOwns", apart := false }
def BitsOwnsSaid : Prop := bitsOwnsRow.holds Try.pinned (OpenSpec.ofChange bitsOwnsSpec)

/-- ITS FALSE NEIGHBOUR: 'it returns false'. Refute it at one input. -/
def bitsOwnsWrong : ChangeSpec := { name := "bitsOwns", fn := fun _ => fun
  | [d1, d2] => { results := [.lit (.bool false)], args := [d1, d2] }
  | _ => none }
def BitsOwnsWrongFalsely : Prop := bitsOwnsRow.holds Try.pinned (OpenSpec.ofChange bitsOwnsWrong)

/-- 'allotmentlaw03.BitsAdds': WHATEVER THE INPUT: true; the input reads as it did. -/
def bitsAddsSpec : ChangeSpec := { name := "bitsAdds", fn := fun _ => fun
  | [d1, d2, d3] => { results := [.lit (.bool true)], args := [d1, d2, d3] }
  | _ => none }
def bitsAddsRow : OpenClaim := { program := "ytodeeheojmnjdaa", sum := "f7e7da5e5ad4a9ce590772432c10430df66ff429fefb58baea8fd970d3f5b9f2", func := "allotment/allotmentlaw03.BitsAdds", spec := "bitsAdds", apart := false }
def BitsAddsSaid : Prop := bitsAddsRow.holds Try.pinned (OpenSpec.ofChange bitsAddsSpec)

/-- ITS FALSE NEIGHBOUR: 'it returns false'. Refute it at one input. -/
def bitsAddsWrong : ChangeSpec := { name := "bitsAdds", fn := fun _ => fun
  | [d1, d2, d3] => { results := [.lit (.bool false)], args := [d1, d2, d3] }
  | _ => none }
def BitsAddsWrongFalsely : Prop := bitsAddsRow.holds Try.pinned (OpenSpec.ofChange bitsAddsWrong)

/-- 'allotmentlaw03.BitsTexts': WHATEVER THE INPUT: true; the input reads as it did. -/
def bitsTextsSpec : ChangeSpec := { name := "bitsTexts", fn := fun _ => fun
  | [d1, d2] => { results := [.lit (.bool true)], args := [d1, d2] }
  | _ => none }
def bitsTextsRow : OpenClaim := { program := "ytodeeheojmnjdaa", sum := "f7e7da5e5ad4a9ce590772432c10430df66ff429fefb58baea8fd970d3f5b9f2", func := "allotment/allotmentlaw03.BitsTexts", spec := "bitsTexts", apart := false }
def BitsTextsSaid : Prop := bitsTextsRow.holds Try.pinned (OpenSpec.ofChange bitsTextsSpec)

/-- ITS FALSE NEIGHBOUR: 'it returns false'. Refute it at one input. -/
def bitsTextsWrong : ChangeSpec := { name := "bitsTexts", fn := fun _ => fun
  | [d1, d2] => { results := [.lit (.bool false)], args := [d1, d2] }
  | _ => none }
def BitsTextsWrongFalsely : Prop := bitsTextsRow.holds Try.pinned (OpenSpec.ofChange bitsTextsWrong)

/- THE SECOND FORM. 'bulk': how many values and letters a reading holds, each counted each time it is reached (what is shared counts as often as it is met; a slice's spare places count too). A statement '..UptoSaid' is the law's where the arguments, and the package variables that the reading takes, are together of bulk at most 1048576: NARROWER than '..Said'. Prove '..Said' where nothing that the law and all that it calls make is longer than what came in: it says more and counts as full. Else prove '..UptoSaid'. A law counts once. -/
mutual
def uptoBulk {H : Type} : DataW H → Nat
  | .lit (.string bytes) => bytes.length + 1
  | .lit _ => 1
  | .nil => 1
  | .ptr d => uptoBulk d + 1
  | .slice elems spare => uptoBulkAll elems + uptoBulkAll spare + 1
  | .agg parts => uptoBulkAll parts + 1
  | .iface _ d => uptoBulk d + 1
  | .map entries => uptoBulkEntries entries + 1
  | .held _ => 1
def uptoBulkAll {H : Type} : List (DataW H) → Nat
  | [] => 0
  | d :: r => uptoBulk d + uptoBulkAll r
def uptoBulkEntries {H : Type} : List (Lit × DataW H) → Nat
  | [] => 0
  | x :: r => uptoBulkEntry x + uptoBulkEntries r
def uptoBulkEntry {H : Type} : Lit × DataW H → Nat
  | (.string bytes, d) => bytes.length + uptoBulk d + 1
  | (_, d) => uptoBulk d + 1
 end
def uptoSmall : (H : Type) → List (DataW H) → Bool := fun _ ds => decide (uptoBulkAll ds ≤ 1048576)
def OpenSpec.upto (s : _root_.Go.ChangeSpec) : _root_.Go.OpenSpec := { _root_.Go.OpenSpec.ofChange s with cond := some uptoSmall }

/-- 'allotmentlaw03.BitsPlays', WHERE WHAT IT READS IS OF BULK AT MOST 1048576: true; the input reads as it did. -/
def bitsPlaysUptoRow : OpenClaim := { program := "ytodeeheojmnjdaa", sum := "f7e7da5e5ad4a9ce590772432c10430df66ff429fefb58baea8fd970d3f5b9f2", func := "allotment/allotmentlaw03.BitsPlays", spec := "bitsPlays", apart := false, narrowed := true }
def BitsPlaysUptoSaid : Prop := bitsPlaysUptoRow.holds Try.pinned (OpenSpec.upto bitsPlaysSpec)

/-- 'allotmentlaw03.BitsEnd', WHERE WHAT IT READS IS OF BULK AT MOST 1048576: true; the input reads as it did. -/
def bitsEndUptoRow : OpenClaim := { program := "ytodeeheojmnjdaa", sum := "f7e7da5e5ad4a9ce590772432c10430df66ff429fefb58baea8fd970d3f5b9f2", func := "allotment/allotmentlaw03.BitsEnd", spec := "bitsEnd", apart := false, narrowed := true }
def BitsEndUptoSaid : Prop := bitsEndUptoRow.holds Try.pinned (OpenSpec.upto bitsEndSpec)

/-- 'allotmentlaw03.BitsOwns', WHERE WHAT IT READS IS OF BULK AT MOST 1048576: true; the input reads as it did. -/
def bitsOwnsUptoRow : OpenClaim := { program := "ytodeeheojmnjdaa", sum := "f7e7da5e5ad4a9ce590772432c10430df66ff429fefb58baea8fd970d3f5b9f2", func := "allotment/allotmentlaw03.BitsOwns", spec := "bitsOwns", apart := false, narrowed := true }
def BitsOwnsUptoSaid : Prop := bitsOwnsUptoRow.holds Try.pinned (OpenSpec.upto bitsOwnsSpec)

/-- 'allotmentlaw03.BitsAdds', WHERE WHAT IT READS IS OF BULK AT MOST 1048576: true; the input reads as it did. -/
def bitsAddsUptoRow : OpenClaim := { program := "ytodeeheojmnjdaa", sum := "f7e7da5e5ad4a9ce590772432c10430df66ff429fefb58baea8fd970d3f5b9f2", func := "allotment/allotmentlaw03.BitsAdds", spec := "bitsAdds", apart := false, narrowed := true }
def BitsAddsUptoSaid : Prop := bitsAddsUptoRow.holds Try.pinned (OpenSpec.upto bitsAddsSpec)

/-- 'allotmentlaw03.BitsTexts', WHERE WHAT IT READS IS OF BULK AT MOST 1048576: true; the input reads as it did. -/
def bitsTextsUptoRow : OpenClaim := { program := "ytodeeheojmnjdaa", sum := "f7e7da5e5ad4a9ce590772432c10430df66ff429fefb58baea8fd970d3f5b9f2", func := "allotment/allotmentlaw03.BitsTexts", spec := "bitsTexts", apart := false, narrowed := true }
def BitsTextsUptoSaid : Prop := bitsTextsUptoRow.holds Try.pinned (OpenSpec.upto bitsTextsSpec)

end Rows
end Go.Proofs.Ytodeeheojmnjdaa
