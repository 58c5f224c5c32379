/- The library's functions whose contracts the kit has, for this program. -/
import Derived.Test.YtohnakjamlhhkaaGreatDoorProg
import Derived.Shelf.Strings.OnBuilder
import Derived.KernelRfl
namespace Go.Proofs.YtohnakjamlhhkaaGreatDoor
open Go Go.Proofs Go.Shelf Go.RowKit
set_option linter.unusedVariables false
/-- The numbers that the program gives them. -/
def joinRen : Ren := ⟨fun | 156 => 160 | 165 => 210 | 166 => 59 | 169 => 60 | 240 => 95 | 241 => 257 | 276 => 168 | 277 => 303 | n => n, fun | 31 => 124 | 9 => 9 | 3 => 3 | 4 => 4 | 0 => 0 | 20 => 20 | 72 => 123 | 76 => 129 | 70 => 121 | 37 => 32 | 75 => 128 | 127 => 183 | 164 => 251 | 5 => 5 | 80 => 131 | n => n, fun n => n⟩
theorem joinLays : Lays.n156 Tryz.prog joinRen where
  mixed := by kernel_rfl
  f156 := Tryz.func160.trans (congrArg some (by kernel_rfl))
  f165 := Tryz.func210.trans (congrArg some (by kernel_rfl))
  f166 := Tryz.func59.trans (congrArg some (by kernel_rfl))
  f169 := Tryz.func60.trans (congrArg some (by kernel_rfl))
  f240 := Tryz.func95.trans (congrArg some (by kernel_rfl))
  f241 := Tryz.func257.trans (congrArg some (by kernel_rfl))
  f276 := Tryz.func168.trans (congrArg some (by kernel_rfl))
  f277 := Tryz.func303.trans (congrArg some (by kernel_rfl))
  t0 := Tryz.underlying0
  a0 := Tryz.isAgg0
  z0 := Tryz.sizeOf0
  v0 := Tryz.zeroValue0
  t3 := Tryz.underlying3
  a3 := Tryz.isAgg3
  z3 := Tryz.sizeOf3
  v3 := Tryz.zeroValue3
  t4 := Tryz.underlying4
  a4 := Tryz.isAgg4
  z4 := Tryz.sizeOf4
  v4 := Tryz.zeroValue4
  t9 := Tryz.underlying9
  a9 := Tryz.isAgg9
  z9 := Tryz.sizeOf9
  v9 := Tryz.zeroValue9
  t20 := Tryz.underlying20
  a20 := Tryz.isAgg20
  z20 := Tryz.sizeOf20
  v20 := Tryz.zeroValue20
  t31 := Tryz.underlying124
  a31 := Tryz.isAgg124
  z31 := Tryz.sizeOf124
  v31 := Tryz.zeroValue124
  t37 := Tryz.underlying32
  a37 := Tryz.isAgg32
  z37 := Tryz.sizeOf32
  v37 := Tryz.zeroValue32
  t70 := Tryz.underlying121
  a70 := Tryz.isAgg121
  z70 := Tryz.sizeOf121
  v70 := Tryz.zeroValue121
  t72 := Tryz.underlying123
  a72 := Tryz.isAgg123
  z72 := Tryz.sizeOf123
  v72 := Tryz.zeroValue123
  t75 := Tryz.underlying128
  a75 := Tryz.isAgg128
  z75 := Tryz.sizeOf128
  v75 := Tryz.zeroValue128
  t76 := Tryz.underlying129
  a76 := Tryz.isAgg129
  z76 := Tryz.sizeOf129
  v76 := Tryz.zeroValue129
  t127 := Tryz.underlying183
  a127 := Tryz.isAgg183
  z127 := Tryz.sizeOf183
  v127 := Tryz.zeroValue183
  t164 := Tryz.underlying251
  a164 := Tryz.isAgg251
  z164 := Tryz.sizeOf251
  v164 := Tryz.zeroValue251
theorem joinX : Builder.Extra Tryz.prog joinRen where
  sizeBuilder := by kernel_rfl
  liesBuilder := by kernel_rfl
  t5 := Tryz.underlying5
  a5 := Tryz.isAgg5
  z5 := Tryz.sizeOf5
  v5 := Tryz.zeroValue5
  infoByte := by kernel_rfl
  cellsByte := by kernel_rfl
  sizeByte := by kernel_rfl
  neB5 := by decide
theorem join_calls (bk o c : Nat) (xs : List ByteArray) (sep : ByteArray) (w : World) (hcells : ∀ (j : Nat) x, xs[j]? = some x → w.cell? ⟨bk, o + j, none⟩ = some (.string x))
    (hbk : bk < w.heap.size) (hN : xs.length ≤ 1000) (hcap : xs.length ≤ c) (hlen : (Lib.join (xs.map (·.data.toList)) sep.data.toList).length ≤ 100000) :
    Calls Tryz.prog 160 #[.slice (some ⟨bk, o, none⟩) xs.length c, .string sep] w fun e w' => e = .returned (.string ⟨(Lib.join (xs.map (·.data.toList)) sep.data.toList).toArray⟩) ∧ Below w.heap.size w w' :=
  Any.strings_Join joinLays joinX bk o c xs sep w hcells hbk (by omega) hcap (by omega)
theorem joinNone_calls (a : Option Addr) (c : Nat) (sep : ByteArray) (w : World) :
    Calls Tryz.prog 160 #[.slice a 0 c, .string sep] w fun e w' => e = .returned (.string ⟨#[]⟩) ∧ w' = w := Any.strings_Join_none joinLays joinX a c sep w
end Go.Proofs.YtohnakjamlhhkaaGreatDoor
