/- The walk of FifoTexts. -/
import Derived.Test.YtjhecdmgblicoaaT
import Derived.Test.YtjhecdmgblicoaaAll
import Derived.SliceStrings
namespace Go.Proofs.Ytjhecdmgblicoaa
open Go.RowKit
set_option linter.unusedVariables false

/-- A []string among the arguments. -/
def InStrs (W : World) (v : Value) (l : List ByteArray) : Prop :=
  (∃ A c, v = .slice A l.length c ∧ l.length ≤ c ∧ c ≤ 9223372036854775807 ∧ (0 < c → ∃ b o, A = some ⟨b, o, none⟩) ∧ ∀ b o, A = some ⟨b, o, none⟩ → ∀ j, j < l.length → W.cell? ⟨b, o + j, none⟩ = some (.string (l.getD j ByteArray.empty))) ∧ ∀ x ∈ l, x.size ≤ 9223372036854775807

section
open Go.ChangeShapes Go.WideShapes
theorem open_strs' {H : Type} {enc : TypeId × Value → H} {W : World} {r : Reach} {b0 base : Nat} {v : Value} {d : DataW H} {p : List MemPlace} (hv : Value.okWide Try.prog W r b0 30 v) (h : DataW.Trod enc Try.prog W base (fun _ => true) true 30 v d p) :
    ∃ l, InStrs W v l := by
  obtain ⟨a, len, cap, rfl⟩ := okWide_slice Try.underlying30 hv
  obtain ⟨fuel, hf⟩ := h
  rcases Go.ChangeShapes.open_strings Try.underlying30 Try.underlying9 (by kernel_rfl) hf with ⟨hcs, _⟩ | ⟨x, l, c, zs, hcs, _, hl, hm, hz, _, hcell, hwz⟩
  · simp [Value.cells] at hcs
    obtain ⟨rfl, rfl, rfl⟩ := hcs
    exact ⟨[], ⟨none, 0, rfl, by simp, by simp, by simp, by simp⟩, by simp⟩
  · simp [Value.cells] at hcs
    obtain ⟨rfl, rfl, rfl⟩ := hcs
    simp at hz
    obtain rfl : cap = zs.length := hz.symm
    have hlt : (zs.take len).length = len := by simp; omega
    have hml := hm
    simp only [maxLen] at hml hwz
    refine ⟨zs.take len, ⟨some x, zs.length, by rw [hlt], by omega, by omega, ?_, ?_⟩, fun y hy => hwz y (List.mem_of_mem_take hy)⟩
    · intro hc0
      have h0 := addr_plain (k := 0) (hcell 0 hc0)
      refine ⟨x.block, x.off, ?_⟩
      have : x.add 0 = x := by simp [Addr.add]
      rw [← this, h0]
    · intro b o hb j hj
      injection hb with hb
      rw [hlt] at hj
      have := hcell j (by omega)
      rw [addr_plain (hcell 0 (by omega)), hb] at this
      rw [this]
      simp [List.getD_eq_getElem?_getD, hj]
end

/-- The first five bytes. -/
def sh (s : ByteArray) : ByteArray := if 5 < s.size then s.extract 0 5 else s
theorem short_any (s : ByteArray) (w : World) (hs : s.size ≤ 9223372036854775807) :
    Calls Try.prog 13 #[.string s, .int .i64 5] w fun e w' => e = .returned (.string (sh s)) ∧ w = w' := by
  unfold sh
  by_cases h : 5 < s.size
  · rw [if_pos h]
    have hi : (5 : Int) < (s.size : Int) := by omega
    have h5 : 5 ≤ s.size := by omega
    have h5i : (5 : Int) ≤ (s.size : Int) := by omega
    go_enter Try.func13, Try.ntmps13
    go_wp2
    go_ret
    exact ⟨rfl, rfl⟩
  · rw [if_neg h]
    have hi : ¬ (5 : Int) < (s.size : Int) := by omega
    go_enter Try.func13, Try.ntmps13
    go_wp2
    go_ret
    exact ⟨rfl, rfl⟩

set_option maxHeartbeats 1000000 in
theorem law_texts (a : Int) (v : Value) (l : List ByteArray) (w : World) (ha : (Lit.int .i64 a).wf = true) (H : InStrs w v l) :
    Calls Try.prog 4 #[.int .i64 a, v] w fun e w' => e = .returned (.bool true) ∧ Below w.heap.size w w' := by
  obtain ⟨⟨A, c, rfl, hlc, hcm, hA, hcell⟩, hwf⟩ := H
  obtain ⟨y, y0, y1, hAr⟩ := around_some a 5 (by omega) (by omega) ha
  obtain ⟨y, rfl⟩ := Int.eq_ofNat_of_zero_le y0
  have HAr := Lib.hid hAr
  have HW := Lib.hid hwf
  have HC := Lib.hid hcell
  have HA := Lib.hid hA
  clear hwf hcell hA hAr
  have hl0 : (0 : Int) ≤ (l.length : Int) := by omega
  have hl1 : (l.length : Int) ≤ 9223372036854775807 := by omega
  go_enter Try.func4, Try.ntmps4
  go_wp2_with fail
  refine (HAr.out _).mono ?_
  rintro e w' ⟨rfl, rfl⟩
  go_wp2_with fail
  refine (tnewi_good _ _ (by omega) (by omega)).mono ?_
  rintro e w1 ⟨rfl, hq, hb⟩
  rw [show ((1 : Int) + (y : Int)).toNat = y + 1 by omega] at hq
  have HQ := Lib.hid hq
  have HB := Lib.hid hb
  clear hq hb
  go_wp2_with fail
  go_loopw [8] (fun c wr => ∃ k : Nat, k ≤ 8 ∧ k ≤ l.length ∧ c = .int .i64 k ∧ TAt wr (w.heap.size + 1) w.heap.size (y + 1) 0 ((l.take (min k (y + 1))).map sh) ∧ Below w.heap.size w wr) (fun c _ => 8 - (intOf c).toNat)
  case atStart => exact ⟨0, by omega, by omega, rfl, by simpa using HQ.out, HB.out⟩
  case round =>
    obtain ⟨k, hk, hkl, rfl, hq, hbel⟩ := hrel
    have HBE := Lib.hid hbel
    clear HQ HB
    have hlen : ((l.take (min k (y + 1))).map sh).length = min k (y + 1) := by simp; omega
    by_cases hlt : k < l.length ∧ k < 8
    · obtain ⟨hlt, hk8⟩ := hlt
      have hki : (k : Int) < l.length := by omega
      have hki8 : (k : Int) < 8 := by omega
      obtain ⟨ab, ao, rfl⟩ := HA.out (by omega)
      have d0 := cell_below hbel (HC.out ab ao rfl k (by omega))
      have hsz := HW.out (l.getD k ByteArray.empty) (by simp [List.getD_eq_getElem?_getD, List.getElem?_eq_getElem hlt])
      have htk : (l.take (k + 1)).map sh = (l.take k).map sh ++ [sh (l.getD k ByteArray.empty)] := by
        rw [List.take_add_one, List.map_append, List.getD_eq_getElem?_getD, List.getElem?_eq_getElem hlt]
        rfl
      obtain ⟨x, hx⟩ : ∃ x, x = l.getD k ByteArray.empty := ⟨_, rfl⟩
      rw [← hx] at d0 hsz htk
      have HTK := Lib.hid htk
      have HSH := Lib.hid (fun w => short_any x w hsz)
      clear hx htk hbel hsz
      by_cases hfull : y + 1 ≤ k
      · have HP := Lib.hid (tput_full _ _ _ _ _ (sh x) wr hq (by omega))
        have HQ := Lib.hid hq
        have hfi : ¬ (k : Int) < 1 + (y : Int) := by omega
        clear hq hlen
        go_wp2_with fail
        refine (HSH.out _).mono ?_
        rintro e w' ⟨rfl, rfl⟩
        go_wp2_with fail
        refine HP.out.mono ?_
        rintro e w' ⟨rfl, j, rfl⟩
        go_wp2
        go_roundw
        case rel => exact ⟨k + 1, by omega, by omega, by go_num, by rw [show min (k + 1) (y + 1) = min k (y + 1) by omega]; exact HQ.out.drewN j, below_drewN HBE.out j⟩
        case measure => simp [intOf]; omega
      · have HP := Lib.hid (tput_more _ _ _ _ _ (sh x) wr hq (by omega))
        have hfi : (k : Int) < 1 + (y : Int) := by omega
        clear hq hlen
        go_wp2_with fail
        refine (HSH.out _).mono ?_
        rintro e w' ⟨rfl, rfl⟩
        go_wp2_with fail
        refine HP.out.mono ?_
        rintro e w' ⟨rfl, hq, ho⟩
        rw [show min k (y + 1) = k by omega, ← HTK.out] at hq
        have HQ := Lib.hid hq
        have HO := Lib.hid (ho.below (B := w.heap.size) (by omega) (by omega))
        clear hq ho
        go_wp2
        go_roundw
        case rel => exact ⟨k + 1, by omega, by omega, by go_num, by rw [show min (k + 1) (y + 1) = k + 1 by omega]; exact HQ.out, HBE.out.trans HO.out⟩
        case measure => simp [intOf]; omega
    · have HQ := Lib.hid (show TAt wr (w.heap.size + 1) w.heap.size (y + 1) 0 ((l.take (y + 1)).map sh) by
        rw [show l.take (y + 1) = l.take (min k (y + 1)) by rw [List.take_eq_take_iff]; omega]
        exact hq)
      obtain ⟨n, hn, hmin⟩ : ∃ n : Nat, n = min l.length (y + 1) ∧ (if (1 + (y : Int)) < (l.length : Int) then (1 + (y : Int)) else (l.length : Int)) = (n : Int) := by
        by_cases h : y + 1 < l.length
        · exact ⟨y + 1, by omega, by rw [if_pos (by omega)]; omega⟩
        · exact ⟨l.length, by omega, by rw [if_neg (by omega)]⟩
      obtain ⟨w0, rfl⟩ : ∃ w0 : World, w0 = wr := ⟨_, rfl⟩
      clear hq hbel hlen
      by_cases hkl2 : k < l.length
      have hi1 : (k : Int) < l.length := by omega
      have hi2 : ¬ (k : Int) < 8 := by omega
      rotate_left
      have hi1 : ¬ (k : Int) < l.length := by omega
      all_goals
        go_wp2_with fail
        go_loopw [9, 10, 11] (fun c _ _ wr => ∃ (j a : Nat), j ≤ n ∧ c = .int .i64 j ∧ TAt wr (w.heap.size + 1) w.heap.size (y + 1) a (((l.take (y + 1)).map sh).drop j) ∧ Below w.heap.size w wr) (fun c _ _ _ => n - (intOf c).toNat)
        case atStart => exact ⟨0, 0, by omega, rfl, HQ.out, HBE.out⟩
        case round =>
          obtain ⟨j, a2, hj, rfl, hq, hbel⟩ := hrel
          have HBL := Lib.hid hbel
          clear HQ HBE
          by_cases hjn : j < n
          · have hji : (j : Int) < n := by omega
            have hjl : j < l.length := by omega
            have hjli : (j : Int) < l.length := by omega
            have hj8 : (0 : Int) ≤ (j : Int) := by omega
            obtain ⟨ab, ao, rfl⟩ := HA.out (by omega)
            have d0 := HC.out ab ao rfl j (by omega)
            have hab := cell_lt d0
            have hsz := HW.out (l.getD j ByteArray.empty) (by simp [List.getD_eq_getElem?_getD, List.getElem?_eq_getElem hjl])
            have hdr : ((l.take (y + 1)).map sh).drop j = sh (l.getD j ByteArray.empty) :: ((l.take (y + 1)).map sh).drop (j + 1) := by
              rw [List.drop_eq_getElem_cons (by simp; omega)]
              simp [List.getD_eq_getElem?_getD, List.getElem?_eq_getElem hjl]
            obtain ⟨x, hx⟩ : ∃ x, x = l.getD j ByteArray.empty := ⟨_, rfl⟩
            rw [← hx] at d0 hsz hdr
            rw [hdr] at hq
            have HP := Lib.hid (ttake_some _ _ _ _ _ _ wr hq)
            have HD := Lib.hid d0
            have HSH := Lib.hid (fun w => short_any x w hsz)
            clear hx hdr hbel hsz hq d0
            go_wp2_with fail
            refine HP.out.mono ?_
            rintro e w2 ⟨rfl, hq, ho⟩
            have d0 := cell_below (HBL.out.trans (ho.below (B := w.heap.size) (by omega) (by omega))) HD.out
            have HQ := Lib.hid hq
            have HO := Lib.hid (ho.below (B := w.heap.size) (by omega) (by omega))
            clear hq ho HP
            go_wp2_with fail
            refine (HSH.out _).mono ?_
            rintro e w' ⟨rfl, rfl⟩
            go_wp2
            go_roundw
            case rel => exact ⟨j + 1, _, by omega, by go_num, HQ.out, HBL.out.trans HO.out⟩
            case measure => simp [intOf]; omega
          · have hnil : ((l.take (y + 1)).map sh).drop j = [] := List.drop_eq_nil_of_le (by simp; omega)
            have hji : ¬ (j : Int) < n := by omega
            rw [hnil] at hq
            have HP := Lib.hid (ttake_none _ _ _ _ wr hq)
            clear hnil hbel hq
            go_wp2_with fail
            refine HP.out.mono ?_
            rintro e w2 ⟨rfl, rfl⟩
            go_wp2_with (go_at_call 11; refine (lives_any _).mono ?_; rintro e w' ⟨rfl, hb⟩)
            go_ret
            exact ⟨rfl, HBL.out.trans (hb.mono HBL.out.size)⟩
end Go.Proofs.Ytjhecdmgblicoaa
