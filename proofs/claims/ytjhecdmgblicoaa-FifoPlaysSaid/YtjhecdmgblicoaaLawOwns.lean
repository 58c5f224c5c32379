/- The walk of FifoOwns. -/
import Derived.Test.YtjhecdmgblicoaaAll
namespace Go.Proofs.Ytjhecdmgblicoaa
open Go.RowKit
set_option linter.unusedVariables false

/-- The first n of a []int among the arguments, as a slice of it. -/
theorem ins_few {w w1 : World} {A : Option Addr} {l : List Int} {c : Nat} (hc : ∀ b o, A = some ⟨b, o, none⟩ → ∀ j, j < l.length → w.cell? ⟨b, o + j, none⟩ = some (.int .i64 (l.getD j 0)))
    (hA : 0 < c → ∃ b o, A = some ⟨b, o, none⟩) (hlc : l.length ≤ c) (hcm : c ≤ 9223372036854775807) (hb : Below w.heap.size w w1) (n : Nat) (hn : n ≤ l.length) : IntsAt w1 (.slice A n c) (l.take n) := by
  refine ⟨A, c, by simp [Nat.min_eq_left hn], by simp; omega, fun h0 => ?_⟩
  simp at h0
  obtain ⟨b, o, rfl⟩ := hA (by omega)
  refine ⟨b, o, rfl, fun j hj => ?_⟩
  simp at hj
  rw [cell_below hb (hc b o rfl j (by omega))]
  have hj' : j < n := by omega
  simp [List.getD_eq_getElem?_getD, hj']

theorem law_owns (v : Value) (l : List Int) (w : World) (H : InInts w v l) :
    Calls Try.prog 6 #[v] w fun e w' => e = .returned (.bool true) ∧ Below w.heap.size w w' := by
  obtain ⟨⟨A, c, rfl, hlc, hcm, hA, hcell⟩, hwf⟩ := H
  have HW := Lib.hid hwf
  have HC := Lib.hid hcell
  have HA := Lib.hid hA
  clear hwf hcell hA
  obtain ⟨n, hn8, hnl, hmin⟩ : ∃ n : Nat, n ≤ 8 ∧ n ≤ l.length ∧ (if (8 : Int) < (l.length : Int) then (8 : Int) else (l.length : Int)) = (n : Int) := by
    by_cases h : 8 < l.length
    · exact ⟨8, by omega, by omega, by rw [if_pos (by omega)]; rfl⟩
    · exact ⟨l.length, by omega, by omega, by rw [if_neg (by omega)]⟩
  have hn0 : (0 : Int) ≤ (n : Int) := by omega
  have hn1 : (n : Int) ≤ (l.length : Int) := by omega
  have hn2 : (n : Int) ≤ (c : Int) := by omega
  have hn3 : n ≤ c := by omega
  go_enter Try.func6, Try.ntmps6
  go_wp2_with fail
  refine (newi_good 8 _ (by omega) (by omega)).mono ?_
  rintro e w1 ⟨rfl, hq, hb⟩
  rw [show ((8 : Int)).toNat = 8 by rfl] at hq
  have HQ := Lib.hid hq
  have HB := Lib.hid hb
  clear hq hb
  go_wp2_with fail
  go_loopw [6] (fun c wr => ∃ k : Nat, k ≤ n ∧ c = .int .i64 k ∧ QAt wr (w.heap.size + 1) w.heap.size 8 0 (l.take k) ∧ Below w.heap.size w wr) (fun c _ => n - (intOf c).toNat)
  case atStart => exact ⟨0, by omega, rfl, by simpa using HQ.out, HB.out⟩
  case round =>
    obtain ⟨k, hk, rfl, hq, hbel⟩ := hrel
    have HBE := Lib.hid hbel
    clear HQ HB
    by_cases hlt : k < n
    · have hki : (k : Int) < n := by omega
      obtain ⟨ab, ao, rfl⟩ := HA.out (by omega)
      have d0 := cell_below hbel (HC.out ab ao rfl k (by omega))
      have HP := Lib.hid (put_more _ _ _ _ _ (l.getD k 0) wr hq (by simp; omega))
      have htk : l.take (k + 1) = l.take k ++ [l.getD k 0] := by
        rw [List.take_add_one]
        simp [List.getElem?_eq_getElem (show k < l.length by omega), List.getD_eq_getElem?_getD]
      have HTK := Lib.hid htk
      clear hq hbel htk
      generalize l.getD k 0 = x at *
      go_wp2_with fail
      refine HP.out.mono ?_
      rintro e w' ⟨rfl, hq, ho⟩
      rw [← HTK.out] at hq
      have HQ := Lib.hid hq
      have HO := Lib.hid (ho.below (B := w.heap.size) (by omega) (by omega))
      clear hq ho
      go_wp2
      go_roundw
      case rel => exact ⟨k + 1, by omega, by go_num, HQ.out, HBE.out.trans HO.out⟩
      case measure => simp [intOf]; omega
    · have e : k = n := by omega
      subst e
      have HAL := Lib.hid (all_any _ _ _ _ _ wr hq)
      have HQ := Lib.hid hq
      obtain ⟨w0, rfl⟩ : ∃ w0 : World, w0 = wr := ⟨_, rfl⟩
      clear hq hbel
      go_wp2_with fail
      refine HAL.out.mono ?_
      rintro e w1 ⟨va, rfl, hown, hb⟩
      rw [show (l.take k).length = k by simp; omega] at hown
      have HO := Lib.hid hown
      have HB := Lib.hid hb
      obtain ⟨vA, vc, rfl⟩ := own_slice hown
      clear hown hb HAL
      go_wp2_with fail
      go_loopw [8] (fun c wr => ∃ j : Nat, j ≤ k ∧ c = .int .i64 j ∧ (∃ ys : List Int, ys.length = k ∧ wr.ownsRow w0.heap.size 3 1 (.slice vA k vc) k (ints ys)) ∧ Below w0.heap.size w0 wr) (fun c _ => k - (intOf c).toNat)
      case atStart => exact ⟨0, by omega, rfl, ⟨_, by simp; omega, HO.out⟩, HB.out⟩
      case round =>
        obtain ⟨j, hj, rfl, ⟨ys, hys, hown⟩, hbel⟩ := hrel
        have HBL := Lib.hid hbel
        clear HO HB
        by_cases hlt : j < k
        · have hji : (j : Int) < k := by omega
          obtain ⟨g, cap, he, _, _⟩ := World.ownsRow.form hown (by omega)
          injection he with e1 _ e2
          subst e1 e2
          have d0 := hown.cellAt j (by omega)
          have f0 := hown.frozenAt j
          rw [show (ints ys)[j]? = some (.int .i64 (ys.getD j 0)) by simp [ints, List.getElem?_eq_getElem (show j < ys.length by omega), List.getD_eq_getElem?_getD]] at d0
          have HOW := Lib.hid hown
          have hgb := (hown.lt g rfl).1
          clear hown hbel
          go_wp2
          go_roundw
          case rel => exact ⟨j + 1, by omega, by go_num, ⟨ys.set j 7, by simpa using hys, by have := (HOW.out.stored j (.int .i64 7)).1; simpa [ints, List.map_set] using this⟩, HBL.out.setCell hgb _⟩
          case measure => simp [intOf]; omega
        · have e : j = k := by omega
          subst e
          have HAL := Lib.hid (all_any _ _ _ _ _ wr (HQ.out.below hbel))
          have hsz := hbel.size
          have HWB := Lib.hid (HBE.out.trans (hbel.mono HBE.out.size))
          clear hown hbel
          go_wp2_with fail
          refine HAL.out.mono ?_
          rintro e w2 ⟨vb, rfl, hown2, hb2⟩
          rw [show (l.take j).length = j by simp; omega] at hown2
          have hw2 := HWB.out.trans (hb2.mono HWB.out.size)
          have HS := Lib.hid (same_any _ _ (l.take j) w2 (own_reads hown2) (ins_few HC.out HA.out hlc hcm hw2 j hnl))
          have HW2 := Lib.hid hw2
          clear hown2 hb2 hw2
          go_wp2_with fail
          refine HS.out.mono ?_
          rintro e w3 ⟨rfl, hb3⟩
          have HW3 := Lib.hid (HW2.out.trans (hb3.mono HW2.out.size))
          clear hb3
          go_wp2_with (go_at_call 11; refine (lives_any _).mono ?_; rintro e w' ⟨rfl, hb⟩)
          go_ret
          exact ⟨rfl, HW3.out.trans (hb.mono HW3.out.size)⟩
end Go.Proofs.Ytjhecdmgblicoaa
