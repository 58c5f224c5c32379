/- The walk of BitsEnd. -/
import Derived.Test.YtodeeheojmnjdaaStrm
namespace Go.Proofs.Ytodeeheojmnjdaa
open Go.RowKit
set_option linter.unusedVariables false

set_option maxHeartbeats 1000000 in
theorem law_end (v : Value) (l : List Bool) (a : Int) (w : World) (H : BB w 0 v l) (ha : (Lit.int .i64 a).wf = true) :
    Calls Try.prog 4 #[v, .int .i64 a] w fun e w' => e = .returned (.bool true) ∧ Below w.heap.size w w' := by
  obtain ⟨n, n0, n1, hA⟩ := around_some a 13 (by omega) (by omega) ha
  obtain ⟨n, rfl⟩ := Int.eq_ofNat_of_zero_le n0
  have HAr := Lib.hid hA
  have HF := Lib.hid (few_any v l 0 8 w H (by omega))
  obtain ⟨A, c, rfl, _⟩ := H.shape
  clear hA H
  have hl : (l.take 8).length ≤ 8 := by simp; omega
  generalize l.take 8 = L at *
  go_enter Try.func4, Try.ntmps4
  go_wp2_with fail
  refine HF.out.mono ?_
  rintro e w' ⟨y1, rfl, hy1, rfl⟩
  obtain ⟨A1, c1, rfl, hc1, hc2⟩ := hy1.shape
  have HY := Lib.hid hy1
  clear hy1 HF
  go_wp2_with fail
  refine (new_any L _ w HY.out (by omega)).mono ?_
  rintro e w1 ⟨bs, hbs, rfl, hs, hb⟩
  have HS := Lib.hid hs
  have HB := Lib.hid hb
  clear hs hb
  go_wp2_with fail
  refine (HAr.out _).mono ?_
  rintro e w' ⟨rfl, rfl⟩
  go_wp2_with fail
  go_loopw [8, 9] (fun c _ wr => ∃ k : Nat, k ≤ n ∧ c = .int .i64 k ∧ SAt wr bs L (min k L.length) ∧ Below w.heap.size w wr) (fun c _ _ => n - (intOf c).toNat)
  case atStart => exact ⟨0, by omega, rfl, by simpa using HS.out, HB.out⟩
  case round =>
    obtain ⟨k, hk, rfl, hs, hbel⟩ := hrel
    have HBE := Lib.hid hbel
    clear HS HB
    by_cases hlt : k < n
    · have hki : (k : Int) < n := by omega
      by_cases hkl : k < L.length
      · have hkli : (k : Int) < L.length := by omega
        have hk0 : (0 : Int) ≤ (k : Int) := by omega
        have hmx : (if (L.length : Int) - 1 < 0 then 0 else (L.length : Int) - 1) = (L.length : Int) - 1 := by rw [if_neg (by omega)]
        have hL1 : ¬ (L.length : Int) - 1 < 0 := by omega
        have hL2 : ¬ (L.length : Int) - 1 < (k : Int) := by omega
        have hL3 : (k : Int) ≤ (L.length : Int) - 1 := by omega
        have hL4 : (0 : Int) ≤ (L.length : Int) - 1 := by omega
        have hw : IntKind.i64.wrap ((L.length : Int) - 1) = (L.length : Int) - 1 := by rw [IntKind.wrap_i64]; omega
        obtain ⟨ab, ao, rfl, _, hcell⟩ := HY.out.at (by omega)
        have d0 := cell_below hbel (hcell k hkl)
        rw [show min k L.length = k by omega] at hs
        have HP := Lib.hid (next_some bs k L wr hs hkl)
        clear hs hbel hcell
        generalize L.getD k false = x at *
        go_wp2_with fail
        refine HP.out.mono ?_
        rintro e w2 ⟨rfl, hs2, ho2⟩
        have HS2 := Lib.hid hs2
        have HB2 := Lib.hid (HBE.out.trans (ho2.below hbs HBE.out.size))
        clear hs2 ho2 HP
        go_wp2
        go_roundw
        case rel => exact ⟨k + 1, by omega, by go_num, by rw [show min (k + 1) L.length = k + 1 by omega]; exact HS2.out, HB2.out⟩
        case measure => simp [intOf]; omega
      · have hkli : ¬ (k : Int) < L.length := by omega
        rw [show min k L.length = L.length by omega] at hs
        have HP := Lib.hid (next_none bs L wr hs)
        have HS := Lib.hid hs
        clear hs hbel
        go_wp2_with fail
        refine HP.out.mono ?_
        rintro e w2 ⟨rfl, j, rfl⟩
        clear HP
        go_wp2
        go_roundw
        case rel => exact ⟨k + 1, by omega, by go_num, by rw [show min (k + 1) L.length = L.length by omega]; exact HS.out.below (below_drewN (Below.refl _ _) j), below_drewN HBE.out j⟩
        case measure => simp [intOf]; omega
    · have e : k = n := by omega
      subst e
      obtain ⟨m, hm⟩ : ∃ m, m = min k L.length := ⟨_, rfl⟩
      have hmin : (if (L.length : Int) < (k : Int) then (L.length : Int) else (k : Int)) = (m : Int) := by
        by_cases h : L.length < k
        · rw [if_pos (by omega)]; omega
        · rw [if_neg (by omega)]; omega
      have hmin2 : (if L.length < k then (L.length : Int) else (k : Int)) = (m : Int) := by
        by_cases h : L.length < k
        · rw [if_pos (by omega)]; omega
        · rw [if_neg (by omega)]; omega
      rw [← hm] at hs
      have hml : (m : Int) ≤ (L.length : Int) := by omega
      have hw : IntKind.i64.wrap ((L.length : Int) - (m : Int)) = (L.length : Int) - (m : Int) := by rw [IntKind.wrap_i64]; omega
      have HA := Lib.hid (at_any _ _ _ wr hs)
      have HLF := Lib.hid (left_any _ _ _ wr hs)
      obtain ⟨q, hq⟩ : ∃ q : Nat, q = L.length - m := ⟨_, rfl⟩
      rw [← hq] at HLF
      have hqi : (L.length : Int) - (m : Int) = (q : Int) := by omega
      clear hs hbel hm hq hlt
      go_wp2_with fail
      refine HA.out.mono ?_
      rintro e w' ⟨rfl, rfl⟩
      go_wp2_with fail
      refine HLF.out.mono ?_
      rintro e w2 ⟨vl, rfl, hown, hb⟩
      obtain ⟨A3, c3, rfl⟩ := own_slice hown
      have HB2 := Lib.hid (HBE.out.trans (hb.mono HBE.out.size))
      clear hown hb HLF HA
      go_wp2_with (go_at_call 18; refine (lives_any _).mono ?_; rintro e w' ⟨rfl, hb⟩)
      go_ret
      exact ⟨rfl, HB2.out.trans (hb.mono HB2.out.size)⟩
end Go.Proofs.Ytodeeheojmnjdaa
