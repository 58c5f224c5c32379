/-
  No cell of these rows narrows 'for every input' (looked for: loops, veiled, ifaces, maps, wideKeys, modest, calm, conditions, laid).
  DERIVED. THE GIVEN ROWS OF THIS SEAT. 6 by the template 'for every input the law returns true; each argument reads behind the call as it read before'; 0 by the template 'total and deterministic' (their statements: YtcgjgmoemmokdaaTotals.lean).
  GIVEN WITH THE SEED: the statements are not yours to turn. If you find one false, say at which input.
  Laid BY PROGRAM, IN A SANDBOX (cutbox-rows.mjs): the forced cells as the released guide's own fill.sh prints them over the translation b35f733c3bb32586… (all of the seat's roots in one cut). By AI agents, Wed Nov 11 2026. No macro, syntax, notation, axiom, sorry.
-/
import Derived.Test.YtcgjgmoemmokdaaChecked
import GoSem.Claim
import GoSem.ClaimJoined
import GoSem.ClaimMapViews
import Derived.JoinedTies
import Derived.KernelRfl
namespace Go.Proofs.Ytcgjgmoemmokdaa
/- THE CELL 'sum', in the pinned program and in every row, IS THE sha256 OF THE DUMP (.gsa) THAT YtcgjgmoemmokdaaProg.lean LOADS. Nothing in Lean hashes anything: it is a label: what it is worth is what the hold of that sum in a sandbox is worth. -/
noncomputable def Try.pinned : Pinned := { name := "ytcgjgmoemmokdaa", sum := "b35f733c3bb32586b964393f3ba4ee2794ab7742f937ac5e616fdd3a05589e47", checked := Try.checked }
namespace Rows
def none {H : Type} : Left H := { results := [], args := [] }

/-- 'allotmentlaw11.SlotsNext': WHATEVER THE INPUT: true; the input reads as it did. -/
def slotsNextSpec : ChangeSpec := { name := "slotsNext", fn := fun _ => fun
  | [d1, d2] => { results := [.lit (.bool true)], args := [d1, d2] }
  | _ => none }
def slotsNextRow : OpenClaim := { program := "ytcgjgmoemmokdaa", sum := "b35f733c3bb32586b964393f3ba4ee2794ab7742f937ac5e616fdd3a05589e47", func := "allotment/allotmentlaw11.SlotsNext", spec := "slotsNext", unfollowed := true, recurses := true, apart := false }
def SlotsNextSaid : Prop := slotsNextRow.holds Try.pinned (OpenSpec.ofChange slotsNextSpec)

/-- ITS FALSE NEIGHBOUR: 'it returns false'. Refute it at one input. -/
def slotsNextWrong : ChangeSpec := { name := "slotsNext", fn := fun _ => fun
  | [d1, d2] => { results := [.lit (.bool false)], args := [d1, d2] }
  | _ => none }
def SlotsNextWrongFalsely : Prop := slotsNextRow.holds Try.pinned (OpenSpec.ofChange slotsNextWrong)

/-- 'allotmentlaw11.SlotsCount': WHATEVER THE INPUT: true; the input reads as it did. -/
def slotsCountSpec : ChangeSpec := { name := "slotsCount", fn := fun _ => fun
  | [d1, d2, d3] => { results := [.lit (.bool true)], args := [d1, d2, d3] }
  | _ => none }
def slotsCountRow : OpenClaim := { program := "ytcgjgmoemmokdaa", sum := "b35f733c3bb32586b964393f3ba4ee2794ab7742f937ac5e616fdd3a05589e47", func := "allotment/allotmentlaw11.SlotsCount", spec := "slotsCount", unfollowed := true, recurses := true, apart := false }
def SlotsCountSaid : Prop := slotsCountRow.holds Try.pinned (OpenSpec.ofChange slotsCountSpec)

/-- ITS FALSE NEIGHBOUR: 'it returns false'. Refute it at one input. -/
def slotsCountWrong : ChangeSpec := { name := "slotsCount", fn := fun _ => fun
  | [d1, d2, d3] => { results := [.lit (.bool false)], args := [d1, d2, d3] }
  | _ => none }
def SlotsCountWrongFalsely : Prop := slotsCountRow.holds Try.pinned (OpenSpec.ofChange slotsCountWrong)

/-- 'allotmentlaw11.SlotsFar': WHATEVER THE INPUT: true; the input reads as it did. -/
def slotsFarSpec : ChangeSpec := { name := "slotsFar", fn := fun _ => fun
  | [d1, d2, d3, d4] => { results := [.lit (.bool true)], args := [d1, d2, d3, d4] }
  | _ => none }
def slotsFarRow : OpenClaim := { program := "ytcgjgmoemmokdaa", sum := "b35f733c3bb32586b964393f3ba4ee2794ab7742f937ac5e616fdd3a05589e47", func := "allotment/allotmentlaw11.SlotsFar", spec := "slotsFar", unfollowed := true, recurses := true, apart := false }
def SlotsFarSaid : Prop := slotsFarRow.holds Try.pinned (OpenSpec.ofChange slotsFarSpec)

/-- ITS FALSE NEIGHBOUR: 'it returns false'. Refute it at one input. -/
def slotsFarWrong : ChangeSpec := { name := "slotsFar", fn := fun _ => fun
  | [d1, d2, d3, d4] => { results := [.lit (.bool false)], args := [d1, d2, d3, d4] }
  | _ => none }
def SlotsFarWrongFalsely : Prop := slotsFarRow.holds Try.pinned (OpenSpec.ofChange slotsFarWrong)

/-- 'allotmentlaw11.SlotsNews': WHATEVER THE INPUT: true; the input reads as it did. -/
def slotsNewsSpec : ChangeSpec := { name := "slotsNews", fn := fun _ => fun
  | [d] => { results := [.lit (.bool true)], args := [d] }
  | _ => none }
def slotsNewsRow : OpenClaim := { program := "ytcgjgmoemmokdaa", sum := "b35f733c3bb32586b964393f3ba4ee2794ab7742f937ac5e616fdd3a05589e47", func := "allotment/allotmentlaw11.SlotsNews", spec := "slotsNews", unfollowed := true, recurses := true, apart := false }
def SlotsNewsSaid : Prop := slotsNewsRow.holds Try.pinned (OpenSpec.ofChange slotsNewsSpec)

/-- ITS FALSE NEIGHBOUR: 'it returns false'. Refute it at one input. -/
def slotsNewsWrong : ChangeSpec := { name := "slotsNews", fn := fun _ => fun
  | [d] => { results := [.lit (.bool false)], args := [d] }
  | _ => none }
def SlotsNewsWrongFalsely : Prop := slotsNewsRow.holds Try.pinned (OpenSpec.ofChange slotsNewsWrong)

/-- 'allotmentlaw11.SlotsEach': WHATEVER THE INPUT: true; the input reads as it did. -/
def slotsEachSpec : ChangeSpec := { name := "slotsEach", fn := fun _ => fun
  | [d1, d2, d3] => { results := [.lit (.bool true)], args := [d1, d2, d3] }
  | _ => none }
def slotsEachRow : OpenClaim := { program := "ytcgjgmoemmokdaa", sum := "b35f733c3bb32586b964393f3ba4ee2794ab7742f937ac5e616fdd3a05589e47", func := "allotment/allotmentlaw11.SlotsEach", spec := "slotsEach", unfollowed := true, recurses := true, apart := false }
def SlotsEachSaid : Prop := slotsEachRow.holds Try.pinned (OpenSpec.ofChange slotsEachSpec)

/-- ITS FALSE NEIGHBOUR: 'it returns false'. Refute it at one input. -/
def slotsEachWrong : ChangeSpec := { name := "slotsEach", fn := fun _ => fun
  | [d1, d2, d3] => { results := [.lit (.bool false)], args := [d1, d2, d3] }
  | _ => none }
def SlotsEachWrongFalsely : Prop := slotsEachRow.holds Try.pinned (OpenSpec.ofChange slotsEachWrong)

/-- 'allotmentlaw11.SlotsOwners': WHATEVER THE INPUT: true; the input reads as it did. -/
def slotsOwnersSpec : ChangeSpec := { name := "slotsOwners", fn := fun _ => fun
  | [d1, d2, d3] => { results := [.lit (.bool true)], args := [d1, d2, d3] }
  | _ => none }
def slotsOwnersRow : OpenClaim := { program := "ytcgjgmoemmokdaa", sum := "b35f733c3bb32586b964393f3ba4ee2794ab7742f937ac5e616fdd3a05589e47", func := "allotment/allotmentlaw11.SlotsOwners", spec := "slotsOwners", unfollowed := true, recurses := true, apart := false }
def SlotsOwnersSaid : Prop := slotsOwnersRow.holds Try.pinned (OpenSpec.ofChange slotsOwnersSpec)

/-- ITS FALSE NEIGHBOUR: 'it returns false'. Refute it at one input. -/
def slotsOwnersWrong : ChangeSpec := { name := "slotsOwners", fn := fun _ => fun
  | [d1, d2, d3] => { results := [.lit (.bool false)], args := [d1, d2, d3] }
  | _ => none }
def SlotsOwnersWrongFalsely : Prop := slotsOwnersRow.holds Try.pinned (OpenSpec.ofChange slotsOwnersWrong)

/- THE SECOND FORM. 'bulk': how many values and letters a reading holds, each counted each time it is reached (what is shared counts as often as it is met; a slice's spare places count too). A statement '..UptoSaid' is the law's where the arguments, and the package variables that the reading takes, are together of bulk at most 1048576: NARROWER than '..Said'. Prove '..Said' where nothing that the law and all that it calls make is longer than what came in: it says more and counts as full. Else prove '..UptoSaid'. A law counts once. -/
mutual
def uptoBulk {H : Type} : DataW H → Nat
  | .lit (.string bytes) => bytes.length + 1
  | .lit _ => 1
  | .nil => 1
  | .ptr d => uptoBulk d + 1
  | .slice elems spare => uptoBulkAll elems + uptoBulkAll spare + 1
  | .agg parts => uptoBulkAll parts + 1
  | .iface _ d => uptoBulk d + 1
  | .map entries => uptoBulkEntries entries + 1
  | .held _ => 1
def uptoBulkAll {H : Type} : List (DataW H) → Nat
  | [] => 0
  | d :: r => uptoBulk d + uptoBulkAll r
def uptoBulkEntries {H : Type} : List (Lit × DataW H) → Nat
  | [] => 0
  | x :: r => uptoBulkEntry x + uptoBulkEntries r
def uptoBulkEntry {H : Type} : Lit × DataW H → Nat
  | (.string bytes, d) => bytes.length + uptoBulk d + 1
  | (_, d) => uptoBulk d + 1
 end
def uptoSmall : (H : Type) → List (DataW H) → Bool := fun _ ds => decide (uptoBulkAll ds ≤ 1048576)
def OpenSpec.upto (s : _root_.Go.ChangeSpec) : _root_.Go.OpenSpec := { _root_.Go.OpenSpec.ofChange s with cond := some uptoSmall }

/-- 'allotmentlaw11.SlotsNext', WHERE WHAT IT READS IS OF BULK AT MOST 1048576: true; the input reads as it did. -/
def slotsNextUptoRow : OpenClaim := { program := "ytcgjgmoemmokdaa", sum := "b35f733c3bb32586b964393f3ba4ee2794ab7742f937ac5e616fdd3a05589e47", func := "allotment/allotmentlaw11.SlotsNext", spec := "slotsNext", unfollowed := true, recurses := true, apart := false, narrowed := true }
def SlotsNextUptoSaid : Prop := slotsNextUptoRow.holds Try.pinned (OpenSpec.upto slotsNextSpec)

/-- 'allotmentlaw11.SlotsCount', WHERE WHAT IT READS IS OF BULK AT MOST 1048576: true; the input reads as it did. -/
def slotsCountUptoRow : OpenClaim := { program := "ytcgjgmoemmokdaa", sum := "b35f733c3bb32586b964393f3ba4ee2794ab7742f937ac5e616fdd3a05589e47", func := "allotment/allotmentlaw11.SlotsCount", spec := "slotsCount", unfollowed := true, recurses := true, apart := false, narrowed := true }
def SlotsCountUptoSaid : Prop := slotsCountUptoRow.holds Try.pinned (OpenSpec.upto slotsCountSpec)

/-- 'allotmentlaw11.SlotsFar', WHERE WHAT IT READS IS OF BULK AT MOST 1048576: true; the input reads as it did. -/
def slotsFarUptoRow : OpenClaim := { program := "ytcgjgmoemmokdaa", sum := "b35f733c3bb32586b964393f3ba4ee2794ab7742f937ac5e616fdd3a05589e47", func := "allotment/allotmentlaw11.SlotsFar", spec := "slotsFar", unfollowed := true, recurses := true, apart := false, narrowed := true }
def SlotsFarUptoSaid : Prop := slotsFarUptoRow.holds Try.pinned (OpenSpec.upto slotsFarSpec)

/-- 'allotmentlaw11.SlotsNews', WHERE WHAT IT READS IS OF BULK AT MOST 1048576: true; the input reads as it did. -/
def slotsNewsUptoRow : OpenClaim := { program := "ytcgjgmoemmokdaa", sum := "b35f733c3bb32586b964393f3ba4ee2794ab7742f937ac5e616fdd3a05589e47", func := "allotment/allotmentlaw11.SlotsNews", spec := "slotsNews", unfollowed := true, recurses := true, apart := false, narrowed := true }
def SlotsNewsUptoSaid : Prop := slotsNewsUptoRow.holds Try.pinned (OpenSpec.upto slotsNewsSpec)

/-- 'allotmentlaw11.SlotsEach', WHERE WHAT IT READS IS OF BULK AT MOST 1048576: true; the input reads as it did. -/
def slotsEachUptoRow : OpenClaim := { program := "ytcgjgmoemmokdaa", sum := "b35f733c3bb32586b964393f3ba4ee2794ab7742f937ac5e616fdd3a05589e47", func := "allotment/allotmentlaw11.SlotsEach", spec := "slotsEach", unfollowed := true, recurses := true, apart := false, narrowed := true }
def SlotsEachUptoSaid : Prop := slotsEachUptoRow.holds Try.pinned (OpenSpec.upto slotsEachSpec)

/-- 'allotmentlaw11.SlotsOwners', WHERE WHAT IT READS IS OF BULK AT MOST 1048576: true; the input reads as it did. -/
def slotsOwnersUptoRow : OpenClaim := { program := "ytcgjgmoemmokdaa", sum := "b35f733c3bb32586b964393f3ba4ee2794ab7742f937ac5e616fdd3a05589e47", func := "allotment/allotmentlaw11.SlotsOwners", spec := "slotsOwners", unfollowed := true, recurses := true, apart := false, narrowed := true }
def SlotsOwnersUptoSaid : Prop := slotsOwnersUptoRow.holds Try.pinned (OpenSpec.upto slotsOwnersSpec)

end Rows
end Go.Proofs.Ytcgjgmoemmokdaa
