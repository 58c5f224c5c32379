/- The walk of FifoFull. -/
import Derived.Test.YtjhecdmgblicoaaF
namespace Go.Proofs.Ytjhecdmgblicoaa
open Go.RowKit
set_option linter.unusedVariables false

def upto (k : Nat) : List Int := (List.range k).map Int.ofNat
theorem upto_length (k : Nat) : (upto k).length = k := by simp [upto]
theorem upto_succ (k : Nat) : upto (k + 1) = upto k ++ [(k : Int)] := by simp [upto, List.range_succ]

theorem law_full (a b : Int) (w : World) (ha : (Lit.int .i64 a).wf = true) (hb : (Lit.int .i64 b).wf = true) :
    Calls Try.prog 5 #[.int .i64 a, .int .i64 b] w fun e w' => e = .returned (.bool true) ∧ Below w.heap.size w w' := by
  obtain ⟨y, y0, y1, hA⟩ := around_some a 12 (by omega) (by omega) ha
  obtain ⟨z, z0, z1, hB⟩ := around_some b 21 (by omega) (by omega) hb
  obtain ⟨z, rfl⟩ := Int.eq_ofNat_of_zero_le z0
  obtain ⟨y, rfl⟩ := Int.eq_ofNat_of_zero_le y0
  have HA := Lib.hid hA
  have HB := Lib.hid hB
  clear hA hB
  go_enter Try.func5, Try.ntmps5
  go_wp2_with fail
  refine (HA.out _).mono ?_
  rintro e w' ⟨rfl, rfl⟩
  go_wp2_with fail
  refine (HB.out _).mono ?_
  rintro e w' ⟨rfl, rfl⟩
  go_wp2_with fail
  refine (newi_good _ _ (by omega) (by omega)).mono ?_
  rintro e w1 ⟨rfl, hq, hb⟩
  rw [show ((1 : Int) + (y : Int)).toNat = y + 1 by omega] at hq
  have HQ := Lib.hid hq
  have HB := Lib.hid hb
  clear hq hb
  go_wp2_with fail
  go_loopw [9] (fun c wr => ∃ k : Nat, k ≤ z ∧ c = .int .i64 k ∧ QAt wr (w.heap.size + 1) w.heap.size (y + 1) 0 (upto (min k (y + 1))) ∧ Below w.heap.size w wr) (fun c _ => z - (intOf c).toNat)
  case atStart => exact ⟨0, by omega, rfl, by simpa [upto] using HQ.out, HB.out⟩
  case round =>
    obtain ⟨k, hk, rfl, hq, hbel⟩ := hrel
    have HBE := Lib.hid hbel
    clear HQ HB hbel
    by_cases hlt : k < z
    · have hki : (k : Int) < z := by omega
      by_cases hfull : y + 1 ≤ k
      · have HP := Lib.hid (put_full _ _ _ _ _ k wr hq (by rw [upto_length]; omega))
        have HQ := Lib.hid hq
        have hfi : 1 + (y : Int) ≤ k := by omega
        clear hq
        go_wp2_with fail
        refine HP.out.mono ?_
        rintro e w' ⟨rfl, j, rfl⟩
        go_wp2
        go_roundw
        case rel => exact ⟨k + 1, by omega, by go_num, by rw [show min (k + 1) (y + 1) = min k (y + 1) by omega]; exact HQ.out.drewN j, below_drewN HBE.out j⟩
        case measure => simp [intOf]; omega
      · have HP := Lib.hid (put_more _ _ _ _ _ k wr hq (by rw [upto_length]; omega))
        have hfi : ¬ 1 + (y : Int) ≤ k := by omega
        clear hq
        go_wp2_with fail
        refine HP.out.mono ?_
        rintro e w' ⟨rfl, hq, ho⟩
        rw [show min k (y + 1) = k by omega, ← upto_succ] at hq
        have HQ := Lib.hid hq
        have HO := Lib.hid (ho.below (B := w.heap.size) (by omega) (by omega))
        clear hq ho
        go_wp2
        go_roundw
        case rel => exact ⟨k + 1, by omega, by go_num, by rw [show min (k + 1) (y + 1) = k + 1 by omega]; exact HQ.out, HBE.out.trans HO.out⟩
        case measure => simp [intOf]; omega
    · have e : k = z := by omega
      subst e
      have HL := Lib.hid (len_any _ _ _ _ _ wr hq)
      have HF := Lib.hid (full_any _ _ _ _ _ wr hq)
      rw [upto_length] at HL HF
      by_cases hle : y + 1 ≤ k
      · rw [show min k (y + 1) = y + 1 by omega] at HL HF
        have hi1 : 1 + (y : Int) ≤ k := by omega
        have hi2 : ¬ (k : Int) < 1 + (y : Int) := by omega
        rw [show ((y + 1 : Nat) : Int) = 1 + (y : Int) by omega] at HL
        rw [show decide (y + 1 = y + 1) = true by simp] at HF
        clear hq hle
        go_wp2_with fail
        refine HL.out.mono ?_
        rintro e w' ⟨rfl, rfl⟩
        go_wp2_with fail
        refine HF.out.mono ?_
        rintro e w' ⟨rfl, j, rfl⟩
        go_wp2_with (go_at_call 11; refine (lives_any _).mono ?_; rintro e w' ⟨rfl, hb⟩)
        go_ret
        exact ⟨rfl, (below_drewN HBE.out j).trans (hb.mono (by simpa using HBE.out.size))⟩
      · rw [show min k (y + 1) = k by omega] at HL HF
        have hi1 : ¬ 1 + (y : Int) ≤ k := by omega
        have hi2 : (k : Int) < 1 + (y : Int) := by omega
        have hi3 : (k : Int) ≤ 1 + (y : Int) := by omega
        rw [show decide (k = y + 1) = false by simp; omega] at HF
        clear hq hle
        go_wp2_with fail
        refine HL.out.mono ?_
        rintro e w' ⟨rfl, rfl⟩
        go_wp2_with fail
        refine HF.out.mono ?_
        rintro e w' ⟨rfl, j, rfl⟩
        go_wp2_with (go_at_call 11; refine (lives_any _).mono ?_; rintro e w' ⟨rfl, hb⟩)
        go_ret
        exact ⟨ret_bool (by simp [hi1]), (below_drewN HBE.out j).trans (hb.mono (by simpa using HBE.out.size))⟩

end Go.Proofs.Ytjhecdmgblicoaa
