/- The walk of FifoNews. -/
import Derived.Test.YtjhecdmgblicoaaF
namespace Go.Proofs.Ytjhecdmgblicoaa
open Go.RowKit
set_option linter.unusedVariables false

theorem news_good (n : Int) (w : World) (h1 : 1 ≤ n) (h2 : n ≤ 1000) :
    Calls Try.prog 10 #[.int .i64 n] w fun e w' => e = .returned (.tuple #[.pointer (some ⟨w.heap.size + 1, 0, none⟩), .int .i64 0]) ∧ Below w.heap.size w w' := by
  obtain ⟨N, rfl⟩ : ∃ N : Nat, n = (N : Int) := ⟨n.toNat, by omega⟩
  have hmk : ∀ w : World, Sem.run Try.prog (Instr.makeSlice 30 (.int .i64 (N : Int)) (.int .i64 (N : Int))) w = .ok (.slice (some ⟨w.heap.size, 0, none⟩) N N) (w.alloc (.cells (madeCells #[.string ByteArray.empty] N) 9)) := fun w => run_make_row' 30 9 (.string ByteArray.empty) 16 rfl (by kernel_rfl) rfl .i64 .i64 N (by omega) (by omega) w
  have HB := Lib.hid (((Below.refl w.heap.size w).alloc (Nat.le_refl _) (.cells (madeCells #[.string ByteArray.empty] N) 9)).alloc (by simp) (.cells #[.slice (some ⟨w.heap.size, 0, none⟩) N N, .int .i64 0, .int .i64 0] 56))
  go_enter Try.func10, Try.ntmps10
  go_wp2
  go_ret2
  exact ⟨rfl, HB.out⟩

theorem law_news (a : Int) (w : World) (ha : (Lit.int .i64 a).wf = true) :
    Calls Try.prog 3 #[.int .i64 a] w fun e w' => e = .returned (.bool true) ∧ Below w.heap.size w w' := by
  obtain ⟨y, y0, y1, hA⟩ := around_some a 1003 (by omega) (by omega) ha
  have HA := Lib.hid hA
  clear hA
  go_enter Try.func3, Try.ntmps3
  go_wp2_with fail
  refine (HA.out _).mono ?_
  rintro e w' ⟨rfl, rfl⟩
  go_wp2_with fail
  go_loopw [4] (fun c wr => ∃ k : Nat, k ≤ 2 ∧ c = .int .i64 k ∧ Below (w.heap.size + 1) (w.alloc (.cells #[.int .i64 a, .int .i64 y] 3)) wr) (fun c _ => 2 - (intOf c).toNat)
  case atStart => exact ⟨0, by omega, rfl, Below.refl _ _⟩
  case round =>
    obtain ⟨k, hk, rfl, hbel⟩ := hrel
    have hsz : w.heap.size + 1 ≤ wr.heap.size := by have := hbel.size; simpa using this
    obtain ⟨wo, rfl⟩ : ∃ wo : World, wo = wr := ⟨_, rfl⟩
    have HBE := Lib.hid hbel
    by_cases hlt : k < 2
    · obtain ⟨x, hx⟩ : ∃ x, wo.cell? ⟨w.heap.size, k, none⟩ = some (.int .i64 x) := by
        have e := hbel.cell (p := ⟨w.heap.size, k, none⟩) (by simp)
        rcases (show k = 0 ∨ k = 1 by omega) with rfl | rfl
        · exact ⟨a, by rw [e]; go_simp⟩
        · exact ⟨y, by rw [e]; go_simp⟩
      have hki : (k : Int) < 2 := by omega
      clear hbel
      by_cases h1 : 1 ≤ x
      · by_cases h2 : x ≤ 1000
        · have HN := Lib.hid (fun w1 => news_good x w1 h1 h2)
          go_wp2_with fail
          refine (HN.out _).mono ?_
          rintro e w' ⟨rfl, hb⟩
          have hx' := cell_below hb hx
          have HB := Lib.hid hb
          clear hb
          go_wp2
          go_roundw
          case rel => exact ⟨k + 1, by omega, by go_num, HBE.out.trans (HB.out.mono hsz)⟩
          case measure => simp [intOf]; omega
        · have HN := Lib.hid (fun w1 => news_bad x w1 (.inr (by omega)))
          have h2' : 1000 < x := by omega
          go_wp2_with fail
          refine (HN.out _).mono ?_
          rintro e w' ⟨rfl, rfl⟩
          go_wp2
          go_roundw
          case rel => exact ⟨k + 1, by omega, by go_num, HBE.out⟩
          case measure => simp [intOf]; omega
      · have HN := Lib.hid (fun w1 => news_bad x w1 (.inl (by omega)))
        have h1' : x < 1 := by omega
        go_wp2_with fail
        refine (HN.out _).mono ?_
        rintro e w' ⟨rfl, rfl⟩
        go_wp2
        go_roundw
        case rel => exact ⟨k + 1, by omega, by go_num, HBE.out⟩
        case measure => simp [intOf]; omega
    · have e : k = 2 := by omega
      subst e
      clear hbel
      go_wp2_with (go_at_call 11; refine (lives_any _).mono ?_; rintro e w' ⟨rfl, hb⟩)
      have HB := Lib.hid hb
      clear hb
      go_wp2
      go_ret
      exact ⟨rfl, ((Below.refl _ _).alloc (Nat.le_refl _) _).trans ((HBE.out.trans (HB.out.mono hsz)).mono (by omega))⟩

end Go.Proofs.Ytjhecdmgblicoaa
