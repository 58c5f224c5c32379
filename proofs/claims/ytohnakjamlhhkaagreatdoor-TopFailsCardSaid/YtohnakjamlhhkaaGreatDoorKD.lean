/- The text of a builder. -/
import Derived.Test.YtohnakjamlhhkaaGreatDoorProg
import Derived.WalkKit
import Derived.WalkLawsBesides
import Derived.WalkSpells
import Derived.Outline
import Derived.Below
import Derived.Lib.Builder
import Derived.Lib.UnsafeStr
import Derived.Laws.Externs
import Derived.KernelRfl
namespace Go.Proofs.YtohnakjamlhhkaaGreatDoor
open Go Go.Proofs Go.RowKit
set_option linter.unusedVariables false
set_option linter.unusedSimpArgs false
set_option maxRecDepth 100000

theorem text_calls (b o g cells cap : Nat) (l : List UInt8) (w : World) (h1 : w.cell? ⟨b, o + 1, none⟩ = some (.slice (some ⟨g, 0, none⟩) l.length cap)) (hcap : l.length ≤ cap) (hsh : w.shape? g = some (5, cells)) (hn : l.length ≤ cells) (h0 : l ≠ []) (hlen : l.length ≤ 1000000)
    (hcell : ∀ (j : Nat) x, l[j]? = some x → w.cell? ⟨g, 0 + j, none⟩ = some (.int .u8 x.toNat)) :
    Calls Tryz.prog 60 #[.pointer (some ⟨b, o, none⟩)] w fun e w' => e = .returned (.string ⟨l.toArray⟩) ∧ w' = w.drew.freeze ⟨g, 0, none⟩ l.length := by
  have hl0 : l.length ≠ 0 := by simpa using h0
  have c1 : w.drew.cell? ⟨b, o + 1, none⟩ = some (.slice (some ⟨g, 0, none⟩) l.length cap) := h1
  have hSD : (Builtin.unsafeSliceData_ #[32] 183 #[.slice (some ⟨g, 0, none⟩) l.length cap]).run Tryz.prog w.drew = .ok (.pointer (some ⟨g, 0, none⟩)) w.drew :=
    Lib.run_unsafeSliceData_row _ _ _ _ _ _ (by omega)
  have hUS : (Builtin.unsafeString_ #[183, 3] 9 #[.pointer (some ⟨g, 0, none⟩), .int .i64 l.length]).run Tryz.prog w.drew = .ok (.string ⟨l.toArray⟩) (w.drew.freeze ⟨g, 0, none⟩ l.length) := by
    refine Lib.run_unsafeString_row w.drew 183 3 9 5 Tryz.underlying183 (by kernel_rfl) g cells hsh l h0 hn (by omega) ?_
    intro j x hx
    have hadd : (⟨g, 0, none⟩ : Addr).add j = ⟨g, 0 + j, none⟩ := by unfold Addr.add; split <;> simp_all
    rw [hadd]
    exact hcell j x hx
  go_enter Tryz.func60, Tryz.ntmps60
  go_wp2
  go_region
  all_goals (go_wp2; go_ret; exact ⟨rfl, rfl⟩)
theorem lies_builder (cells : Nat) (h : 2 ≤ cells) : liesAt Tryz.prog Tryz.prog.depth 123 (cells / Tryz.prog.cellsOf 123) 0 123 1 = true := by
  have hc : Tryz.prog.cellsOf 123 = 2 := by kernel_rfl
  rw [hc]
  have hn : 1 ≤ cells / 2 := by omega
  generalize cells / 2 = count at hn
  have hd : Tryz.prog.depth = (2 * (Tryz.prog.types.size + Made.depth) + 1) + 1 := rfl
  rw [hd]
  simp only [liesAt, Bool.or_eq_true]
  left
  rw [hd]
  simp [rowAt, hc, hn, sameLayout]
theorem check_new (b cells : Nat) (w : World) (h0 : w.cell? ⟨b, 0, none⟩ = some (.pointer none)) (hsh : w.shape? b = some (123, cells)) (hcells : 2 ≤ cells) (hfz : w.frozen? ⟨b, 0, none⟩ = false) :
    Calls Tryz.prog 95 #[.pointer (some ⟨b, 0, none⟩)] w fun e w' => e = .returned (.tuple #[]) ∧ w' = w.setCell ⟨b, 0, none⟩ (.pointer (some ⟨b, 0, none⟩)) := by
  obtain ⟨j, hj, hjs⟩ : ∃ j, Tryz.prog.info? 123 = some j ∧ j.size = 2 := by
    have : (Tryz.prog.info? 123).map (·.size) = some 2 := by kernel_rfl
    obtain ⟨j, hj, hs⟩ := Option.map_eq_some_iff.1 this
    exact ⟨j, hj, hs⟩
  go_enter Tryz.func95, Tryz.ntmps95
  go_wp2
  rw [Lib.run_to_unsafe w ⟨b, 0, none⟩ Tryz.underlying121 Tryz.underlying251 hj (by rw [hjs]; decide) hsh (by show 0 < cells; omega)]
  simp only [Result.andThen]
  rw [Oper.upon_value]
  go_wp2
  rw [run_callFunc_extern Tryz.func168 (by kernel_rfl) (by kernel_rfl) (by kernel_rfl) (e := Extern.AbiNoEscape.same) (by kernel_rfl)]
  rw [Lib.run_noEscape]
  simp only [Result.andThen]
  rw [Oper.upon_value]
  go_wp2
  rw [Lib.run_from_unsafe w ⟨b, 0, none⟩ Tryz.underlying251 Tryz.underlying121 hj hsh (lies_builder cells hcells)]
  simp only [Result.andThen]
  rw [Oper.upon_value]
  go_wp2
  go_end0
  exact ⟨rfl, rfl⟩
theorem check_used (b : Nat) (w : World) (h0 : w.cell? ⟨b, 0, none⟩ = some (.pointer (some ⟨b, 0, none⟩))) :
    Calls Tryz.prog 95 #[.pointer (some ⟨b, 0, none⟩)] w fun e w' => e = .returned (.tuple #[]) ∧ w' = w := by
  obtain ⟨j, hj, hjs⟩ : ∃ j, Tryz.prog.info? 123 = some j ∧ j.size = 2 := by
    have : (Tryz.prog.info? 123).map (·.size) = some 2 := by kernel_rfl
    obtain ⟨j, hj, hs⟩ := Option.map_eq_some_iff.1 this
    exact ⟨j, hj, hs⟩
  go_enter Tryz.func95, Tryz.ntmps95
  go_wp2
  rw [Lib.run_neq_ptr_same w _ Tryz.underlying121 hj]
  go_wp2
  go_end0
  exact ⟨rfl, rfl⟩
end Go.Proofs.YtohnakjamlhhkaaGreatDoor
