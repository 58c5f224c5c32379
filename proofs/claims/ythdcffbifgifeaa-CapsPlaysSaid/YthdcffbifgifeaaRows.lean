/-
  No cell of these rows narrows 'for every input' (looked for: loops, veiled, ifaces, maps, wideKeys, modest, calm, conditions, laid).
  DERIVED. THE GIVEN ROWS OF THIS SEAT. 6 by the template 'for every input the law returns true; each argument reads behind the call as it read before'; 0 by the template 'total and deterministic' (their statements: YthdcffbifgifeaaTotals.lean).
  GIVEN WITH THE SEED: the statements are not yours to turn. If you find one false, say at which input.
  Laid BY PROGRAM, IN A SANDBOX (cutbox-rows.mjs): the forced cells as the released guide's own fill.sh prints them over the translation 8d728b73a9f068fc… (all of the seat's roots in one cut). By AI agents, Wed Nov 11 2026. No macro, syntax, notation, axiom, sorry.
-/
import Derived.Test.YthdcffbifgifeaaChecked
import GoSem.Claim
import GoSem.ClaimJoined
import GoSem.ClaimMapViews
import Derived.JoinedTies
import Derived.KernelRfl
namespace Go.Proofs.Ythdcffbifgifeaa
/- THE CELL 'sum', in the pinned program and in every row, IS THE sha256 OF THE DUMP (.gsa) THAT YthdcffbifgifeaaProg.lean LOADS. Nothing in Lean hashes anything: it is a label: what it is worth is what the hold of that sum in a sandbox is worth. -/
noncomputable def Try.pinned : Pinned := { name := "ythdcffbifgifeaa", sum := "8d728b73a9f068fca551705df5465dcbfb8071e49ee8d58f4daa3bbe4a0857b3", checked := Try.checked }
namespace Rows
def none {H : Type} : Left H := { results := [], args := [] }

/-- 'allotmentlaw17.CapsLess': WHATEVER THE INPUT: true; the input reads as it did. -/
def capsLessSpec : ChangeSpec := { name := "capsLess", fn := fun _ => fun
  | [d] => { results := [.lit (.bool true)], args := [d] }
  | _ => none }
def capsLessRow : OpenClaim := { program := "ythdcffbifgifeaa", sum := "8d728b73a9f068fca551705df5465dcbfb8071e49ee8d58f4daa3bbe4a0857b3", func := "allotment/allotmentlaw17.CapsLess", spec := "capsLess", unfollowed := true, recurses := true, apart := false }
def CapsLessSaid : Prop := capsLessRow.holds Try.pinned (OpenSpec.ofChange capsLessSpec)

/-- ITS FALSE NEIGHBOUR: 'it returns false'. Refute it at one input. -/
def capsLessWrong : ChangeSpec := { name := "capsLess", fn := fun _ => fun
  | [d] => { results := [.lit (.bool false)], args := [d] }
  | _ => none }
def CapsLessWrongFalsely : Prop := capsLessRow.holds Try.pinned (OpenSpec.ofChange capsLessWrong)

/-- 'allotmentlaw17.CapsNews': WHATEVER THE INPUT: true; the input reads as it did. -/
def capsNewsSpec : ChangeSpec := { name := "capsNews", fn := fun _ => fun
  | [d] => { results := [.lit (.bool true)], args := [d] }
  | _ => none }
def capsNewsRow : OpenClaim := { program := "ythdcffbifgifeaa", sum := "8d728b73a9f068fca551705df5465dcbfb8071e49ee8d58f4daa3bbe4a0857b3", func := "allotment/allotmentlaw17.CapsNews", spec := "capsNews", unfollowed := true, recurses := true, apart := false }
def CapsNewsSaid : Prop := capsNewsRow.holds Try.pinned (OpenSpec.ofChange capsNewsSpec)

/-- ITS FALSE NEIGHBOUR: 'it returns false'. Refute it at one input. -/
def capsNewsWrong : ChangeSpec := { name := "capsNews", fn := fun _ => fun
  | [d] => { results := [.lit (.bool false)], args := [d] }
  | _ => none }
def CapsNewsWrongFalsely : Prop := capsNewsRow.holds Try.pinned (OpenSpec.ofChange capsNewsWrong)

/-- 'allotmentlaw17.CapsForged': WHATEVER THE INPUT: true; the input reads as it did. -/
def capsForgedSpec : ChangeSpec := { name := "capsForged", fn := fun _ => fun
  | [d1, d2, d3, d4] => { results := [.lit (.bool true)], args := [d1, d2, d3, d4] }
  | _ => none }
def capsForgedRow : OpenClaim := { program := "ythdcffbifgifeaa", sum := "8d728b73a9f068fca551705df5465dcbfb8071e49ee8d58f4daa3bbe4a0857b3", func := "allotment/allotmentlaw17.CapsForged", spec := "capsForged", unfollowed := true, recurses := true, apart := false }
def CapsForgedSaid : Prop := capsForgedRow.holds Try.pinned (OpenSpec.ofChange capsForgedSpec)

/-- ITS FALSE NEIGHBOUR: 'it returns false'. Refute it at one input. -/
def capsForgedWrong : ChangeSpec := { name := "capsForged", fn := fun _ => fun
  | [d1, d2, d3, d4] => { results := [.lit (.bool false)], args := [d1, d2, d3, d4] }
  | _ => none }
def CapsForgedWrongFalsely : Prop := capsForgedRow.holds Try.pinned (OpenSpec.ofChange capsForgedWrong)

/-- 'allotmentlaw17.CapsPlays': WHATEVER THE INPUT: true; the input reads as it did. -/
def capsPlaysSpec : ChangeSpec := { name := "capsPlays", fn := fun _ => fun
  | [d1, d2] => { results := [.lit (.bool true)], args := [d1, d2] }
  | _ => none }
def capsPlaysRow : OpenClaim := { program := "ythdcffbifgifeaa", sum := "8d728b73a9f068fca551705df5465dcbfb8071e49ee8d58f4daa3bbe4a0857b3", func := "allotment/allotmentlaw17.CapsPlays", spec := "capsPlays", unfollowed := true, recurses := true, apart := false }
def CapsPlaysSaid : Prop := capsPlaysRow.holds Try.pinned (OpenSpec.ofChange capsPlaysSpec)

/-- ITS FALSE NEIGHBOUR: 'it returns false'. Refute it at one input. -/
def capsPlaysWrong : ChangeSpec := { name := "capsPlays", fn := fun _ => fun
  | [d1, d2] => { results := [.lit (.bool false)], args := [d1, d2] }
  | _ => none }
def CapsPlaysWrongFalsely : Prop := capsPlaysRow.holds Try.pinned (OpenSpec.ofChange capsPlaysWrong)

/-- 'allotmentlaw17.CapsRevoked': WHATEVER THE INPUT: true; the input reads as it did. -/
def capsRevokedSpec : ChangeSpec := { name := "capsRevoked", fn := fun _ => fun
  | [d1, d2, d3] => { results := [.lit (.bool true)], args := [d1, d2, d3] }
  | _ => none }
def capsRevokedRow : OpenClaim := { program := "ythdcffbifgifeaa", sum := "8d728b73a9f068fca551705df5465dcbfb8071e49ee8d58f4daa3bbe4a0857b3", func := "allotment/allotmentlaw17.CapsRevoked", spec := "capsRevoked", unfollowed := true, recurses := true, apart := false }
def CapsRevokedSaid : Prop := capsRevokedRow.holds Try.pinned (OpenSpec.ofChange capsRevokedSpec)

/-- ITS FALSE NEIGHBOUR: 'it returns false'. Refute it at one input. -/
def capsRevokedWrong : ChangeSpec := { name := "capsRevoked", fn := fun _ => fun
  | [d1, d2, d3] => { results := [.lit (.bool false)], args := [d1, d2, d3] }
  | _ => none }
def CapsRevokedWrongFalsely : Prop := capsRevokedRow.holds Try.pinned (OpenSpec.ofChange capsRevokedWrong)

/-- 'allotmentlaw17.CapsFull': WHATEVER THE INPUT: true; the input reads as it did. -/
def capsFullSpec : ChangeSpec := { name := "capsFull", fn := fun _ => fun
  | [d1, d2] => { results := [.lit (.bool true)], args := [d1, d2] }
  | _ => none }
def capsFullRow : OpenClaim := { program := "ythdcffbifgifeaa", sum := "8d728b73a9f068fca551705df5465dcbfb8071e49ee8d58f4daa3bbe4a0857b3", func := "allotment/allotmentlaw17.CapsFull", spec := "capsFull", unfollowed := true, recurses := true, apart := false }
def CapsFullSaid : Prop := capsFullRow.holds Try.pinned (OpenSpec.ofChange capsFullSpec)

/-- ITS FALSE NEIGHBOUR: 'it returns false'. Refute it at one input. -/
def capsFullWrong : ChangeSpec := { name := "capsFull", fn := fun _ => fun
  | [d1, d2] => { results := [.lit (.bool false)], args := [d1, d2] }
  | _ => none }
def CapsFullWrongFalsely : Prop := capsFullRow.holds Try.pinned (OpenSpec.ofChange capsFullWrong)

/- THE SECOND FORM. 'bulk': how many values and letters a reading holds, each counted each time it is reached (what is shared counts as often as it is met; a slice's spare places count too). A statement '..UptoSaid' is the law's where the arguments, and the package variables that the reading takes, are together of bulk at most 1048576: NARROWER than '..Said'. Prove '..Said' where nothing that the law and all that it calls make is longer than what came in: it says more and counts as full. Else prove '..UptoSaid'. A law counts once. -/
mutual
def uptoBulk {H : Type} : DataW H → Nat
  | .lit (.string bytes) => bytes.length + 1
  | .lit _ => 1
  | .nil => 1
  | .ptr d => uptoBulk d + 1
  | .slice elems spare => uptoBulkAll elems + uptoBulkAll spare + 1
  | .agg parts => uptoBulkAll parts + 1
  | .iface _ d => uptoBulk d + 1
  | .map entries => uptoBulkEntries entries + 1
  | .held _ => 1
def uptoBulkAll {H : Type} : List (DataW H) → Nat
  | [] => 0
  | d :: r => uptoBulk d + uptoBulkAll r
def uptoBulkEntries {H : Type} : List (Lit × DataW H) → Nat
  | [] => 0
  | x :: r => uptoBulkEntry x + uptoBulkEntries r
def uptoBulkEntry {H : Type} : Lit × DataW H → Nat
  | (.string bytes, d) => bytes.length + uptoBulk d + 1
  | (_, d) => uptoBulk d + 1
 end
def uptoSmall : (H : Type) → List (DataW H) → Bool := fun _ ds => decide (uptoBulkAll ds ≤ 1048576)
def OpenSpec.upto (s : _root_.Go.ChangeSpec) : _root_.Go.OpenSpec := { _root_.Go.OpenSpec.ofChange s with cond := some uptoSmall }

/-- 'allotmentlaw17.CapsLess', WHERE WHAT IT READS IS OF BULK AT MOST 1048576: true; the input reads as it did. -/
def capsLessUptoRow : OpenClaim := { program := "ythdcffbifgifeaa", sum := "8d728b73a9f068fca551705df5465dcbfb8071e49ee8d58f4daa3bbe4a0857b3", func := "allotment/allotmentlaw17.CapsLess", spec := "capsLess", unfollowed := true, recurses := true, apart := false, narrowed := true }
def CapsLessUptoSaid : Prop := capsLessUptoRow.holds Try.pinned (OpenSpec.upto capsLessSpec)

/-- 'allotmentlaw17.CapsNews', WHERE WHAT IT READS IS OF BULK AT MOST 1048576: true; the input reads as it did. -/
def capsNewsUptoRow : OpenClaim := { program := "ythdcffbifgifeaa", sum := "8d728b73a9f068fca551705df5465dcbfb8071e49ee8d58f4daa3bbe4a0857b3", func := "allotment/allotmentlaw17.CapsNews", spec := "capsNews", unfollowed := true, recurses := true, apart := false, narrowed := true }
def CapsNewsUptoSaid : Prop := capsNewsUptoRow.holds Try.pinned (OpenSpec.upto capsNewsSpec)

/-- 'allotmentlaw17.CapsForged', WHERE WHAT IT READS IS OF BULK AT MOST 1048576: true; the input reads as it did. -/
def capsForgedUptoRow : OpenClaim := { program := "ythdcffbifgifeaa", sum := "8d728b73a9f068fca551705df5465dcbfb8071e49ee8d58f4daa3bbe4a0857b3", func := "allotment/allotmentlaw17.CapsForged", spec := "capsForged", unfollowed := true, recurses := true, apart := false, narrowed := true }
def CapsForgedUptoSaid : Prop := capsForgedUptoRow.holds Try.pinned (OpenSpec.upto capsForgedSpec)

/-- 'allotmentlaw17.CapsPlays', WHERE WHAT IT READS IS OF BULK AT MOST 1048576: true; the input reads as it did. -/
def capsPlaysUptoRow : OpenClaim := { program := "ythdcffbifgifeaa", sum := "8d728b73a9f068fca551705df5465dcbfb8071e49ee8d58f4daa3bbe4a0857b3", func := "allotment/allotmentlaw17.CapsPlays", spec := "capsPlays", unfollowed := true, recurses := true, apart := false, narrowed := true }
def CapsPlaysUptoSaid : Prop := capsPlaysUptoRow.holds Try.pinned (OpenSpec.upto capsPlaysSpec)

/-- 'allotmentlaw17.CapsRevoked', WHERE WHAT IT READS IS OF BULK AT MOST 1048576: true; the input reads as it did. -/
def capsRevokedUptoRow : OpenClaim := { program := "ythdcffbifgifeaa", sum := "8d728b73a9f068fca551705df5465dcbfb8071e49ee8d58f4daa3bbe4a0857b3", func := "allotment/allotmentlaw17.CapsRevoked", spec := "capsRevoked", unfollowed := true, recurses := true, apart := false, narrowed := true }
def CapsRevokedUptoSaid : Prop := capsRevokedUptoRow.holds Try.pinned (OpenSpec.upto capsRevokedSpec)

/-- 'allotmentlaw17.CapsFull', WHERE WHAT IT READS IS OF BULK AT MOST 1048576: true; the input reads as it did. -/
def capsFullUptoRow : OpenClaim := { program := "ythdcffbifgifeaa", sum := "8d728b73a9f068fca551705df5465dcbfb8071e49ee8d58f4daa3bbe4a0857b3", func := "allotment/allotmentlaw17.CapsFull", spec := "capsFull", unfollowed := true, recurses := true, apart := false, narrowed := true }
def CapsFullUptoSaid : Prop := capsFullUptoRow.holds Try.pinned (OpenSpec.upto capsFullSpec)

end Rows
end Go.Proofs.Ythdcffbifgifeaa
