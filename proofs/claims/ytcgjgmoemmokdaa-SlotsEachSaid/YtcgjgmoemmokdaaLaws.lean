/- The walks of the laws of slots. -/
import Derived.Test.YtcgjgmoemmokdaaSlots
namespace Go.Proofs.Ytcgjgmoemmokdaa
open Go.RowKit Slots
set_option linter.unusedVariables false

theorem law_next (n t : Int) (w : World) (hn : (Lit.int .i64 n).wf = true) (ht : (Lit.int .i64 t).wf = true) :
    Calls Try.prog 3 #[.int .i64 n, .int .i64 t] w fun e w' => e = .returned (.bool true) ∧ Below w.heap.size w w' := by
  obtain ⟨y, y0, y1, hA⟩ := around_some n 16 (by omega) (by omega) hn
  obtain ⟨z, z0, z1, hB⟩ := around_some t 1099511627777 (by omega) (by omega) ht
  have HA := Lib.hid hA
  have HB := Lib.hid hB
  clear hA hB
  go_enter Try.func3, Try.ntmps3
  go_wp2_with fail
  refine (HA.out _).mono ?_
  rintro e w' ⟨rfl, rfl⟩
  go_wp2_with fail
  refine (new_good _ _ (by omega) (by omega)).mono ?_
  rintro e w' ⟨rfl, rfl⟩
  go_wp2_with fail
  refine (HB.out _).mono ?_
  rintro e w' ⟨rfl, rfl⟩
  go_wp2_with fail
  go_loop [9] (fun c => ∃ k : Nat, (k : Int) ≤ 1 + y ∧ c = .int .i64 k) (fun c => (1 + y - intOf c).toNat)
  case atStart => exact ⟨0, by omega, rfl⟩
  case round =>
    obtain ⟨k, hk, rfl⟩ := hrel
    by_cases hlt : (k : Int) < 1 + y
    · have b1 := nx_lo (1 + y) z k (by omega)
      have b2 := nx_hi (1 + y) z k (by omega)
      have ho : Hid (nx (1 + y) z k % (1 + y) = k) := nx_owner (1 + y) z k (by omega) (by omega) (by omega)
      go_wp2_with fail
      refine (next_any _ (1 + y) _ _ _ (by go_simp) (by omega) (by omega) (by omega) (by omega) (by omega) (by omega)).mono ?_
      rintro e w' ⟨rfl, rfl⟩
      go_wp2_with fail
      refine (ref_next_any (1 + y) _ _ _ (by omega) (by omega) (by omega) (by omega) (by omega) (by omega)).mono ?_
      rintro e w' ⟨rfl, rfl⟩
      go_wp2_with fail
      refine (owner_any _ (1 + y) _ _ (by go_simp) (by omega) (by omega) (by omega) (by omega)).mono ?_
      rintro e w' ⟨rfl, rfl⟩
      rw [ho.out]
      go_wp2_with fail
      go_round
      case rel => exact ⟨k + 1, by omega, by go_num⟩
      case measure => simp [intOf]; omega
    · go_wp2_with fail
      refine (lives_any _).mono ?_
      rintro e w' ⟨rfl, hb⟩
      go_wp2_with fail
      go_ret
      exact ⟨rfl, ((Below.refl _ _).alloc (Nat.le_refl _) _).trans (hb.mono (by simp))⟩
theorem law_count (n f t : Int) (w : World) (hn : (Lit.int .i64 n).wf = true) (hf : (Lit.int .i64 f).wf = true) (ht : (Lit.int .i64 t).wf = true) :
    Calls Try.prog 4 #[.int .i64 n, .int .i64 f, .int .i64 t] w fun e w' => e = .returned (.bool true) ∧ Below w.heap.size w w' := by
  obtain ⟨y, y0, y1, hA⟩ := around_some n 16 (by omega) (by omega) hn
  obtain ⟨a, a0, a1, hB⟩ := around_some f 201 (by omega) (by omega) hf
  obtain ⟨b, b0, b1, hC⟩ := around_some t 201 (by omega) (by omega) ht
  have HA := Lib.hid hA
  have HB := Lib.hid hB
  have HC := Lib.hid hC
  clear hA hB hC
  go_enter Try.func4, Try.ntmps4
  go_wp2_with fail
  refine (HA.out _).mono ?_
  rintro e w' ⟨rfl, rfl⟩
  go_wp2_with fail
  refine (new_good _ _ (by omega) (by omega)).mono ?_
  rintro e w' ⟨rfl, rfl⟩
  go_wp2_with fail
  refine (HB.out _).mono ?_
  rintro e w' ⟨rfl, rfl⟩
  go_wp2_with fail
  refine (HC.out _).mono ?_
  rintro e w' ⟨rfl, rfl⟩
  go_wp2_with fail
  go_loopw [12, 13] (fun s c wr => ∃ k q : Nat, (k : Int) ≤ 1 + y ∧ c = .int .i64 k ∧ s = .int .i64 (sumTo (fun i => cnt (1 + y) (i : Int) a (b - a).toNat) k) ∧ wr = (w.alloc (.cells #[.int .i64 (1 + y)] 40)).drewN q) (fun _ c _ => (1 + y - intOf c).toNat)
  case atStart => exact ⟨0, 0, by omega, rfl, rfl, rfl⟩
  case round =>
    obtain ⟨k, q, hk, rfl, rfl, rfl⟩ := hrel
    have s0 : 0 ≤ sumTo (fun i => cnt (1 + y) (i : Int) a (b - a).toNat) k := sumTo_nonneg _ (fun i => cnt_nonneg _ _ _ _) k
    have s1 : sumTo (fun i => cnt (1 + y) (i : Int) a (b - a).toNat) k ≤ k * 201 := by
      have : ∀ m : Nat, sumTo (fun i => cnt (1 + y) (i : Int) a (b - a).toNat) m ≤ m * 201 := by
        intro m
        induction m with
        | zero => simp [sumTo]
        | succ m ih =>
          have := cnt_le (1 + y) (m : Int) a (b - a).toNat
          simp only [sumTo]
          omega
      exact this k
    have Hs : Hid (sumTo (fun i => cnt (1 + y) (i : Int) a (b - a).toNat) (k + 1) = sumTo (fun i => cnt (1 + y) (i : Int) a (b - a).toNat) k + cnt (1 + y) (k : Int) a (b - a).toNat) := rfl
    by_cases hlt : (k : Int) < 1 + y
    · have c0 := cnt_nonneg (1 + y) k a (b - a).toNat
      have c1 := cnt_le (1 + y) k a (b - a).toNat
      have Hn : Hid (num (1 + y) a b k = cnt (1 + y) k a (b - a).toNat) := num_cnt (1 + y) a b k (by omega) (by omega) (by omega)
      go_wp2_with fail
      refine (count_any _ (1 + y) _ _ _ _ (by go_simp) (by omega) (by omega) (by omega) (by omega) (by omega) (by omega) (by omega) (by omega)).mono ?_
      rintro e w' ⟨rfl, q', rfl⟩
      rw [Hn.out]
      go_wp2_with fail
      refine (ref_count_any (1 + y) _ _ _ _ (by omega) (by omega) (by omega) (by omega) (by omega) (by omega) (by omega) (by omega)).mono ?_
      rintro e w' ⟨rfl, rfl⟩
      go_wp2_with fail
      go_roundw
      case rel => exact ⟨k + 1, _, by omega, by go_num, by rw [Hs.out], rfl⟩
      case measure => simp [intOf]; omega
    · have hkk : (k : Int) = 1 + y := by omega
      have hsum := sum_cnt k (by omega) a (b - a).toNat
      rw [hkk] at hsum
      have HS := Lib.hid hsum
      clear hsum hkk Hs
      rw [HS.out]
      by_cases hd : b - a < 0
      · have e0 : (((b - a).toNat : Int) == 0) = true := beq_iff_eq.2 (by omega)
        go_wp2_with fail
        refine (lives_any _).mono ?_
        rintro e w' ⟨rfl, hb⟩
        go_wp2_with fail
        go_ret
        exact ⟨rfl, (below_drewN ((Below.refl _ _).alloc (Nat.le_refl _) _) _).trans (hb.mono (by simp))⟩
      · have e0 : (((b - a).toNat : Int) == b - a) = true := beq_iff_eq.2 (by omega)
        go_wp2_with fail
        refine (lives_any _).mono ?_
        rintro e w' ⟨rfl, hb⟩
        go_wp2_with fail
        go_ret
        exact ⟨rfl, (below_drewN ((Below.refl _ _).alloc (Nat.le_refl _) _) _).trans (hb.mono (by simp))⟩

theorem law_far (n f t i : Int) (w : World) (hn : (Lit.int .i64 n).wf = true) (hf : (Lit.int .i64 f).wf = true) (ht : (Lit.int .i64 t).wf = true) (hi : (Lit.int .i64 i).wf = true) :
    Calls Try.prog 5 #[.int .i64 n, .int .i64 f, .int .i64 t, .int .i64 i] w fun e w' => e = .returned (.bool true) ∧ Below w.heap.size w w' := by
  obtain ⟨y, y0, y1, hA⟩ := around_some n 16 (by omega) (by omega) hn
  obtain ⟨a, a0, a1, hB⟩ := around_some f 1099511627777 (by omega) (by omega) hf
  obtain ⟨b, b0, b1, hC⟩ := around_some t 1099511627777 (by omega) (by omega) ht
  obtain ⟨c, c0, c1, hD⟩ := around_some i (1 + y) (by omega) (by omega) hi
  have HA := Lib.hid hA
  have HB := Lib.hid hB
  have HC := Lib.hid hC
  have HD := Lib.hid hD
  clear hA hB hC hD
  have hfar := num_far (1 + y) a b c (by omega) c0 c1
  by_cases hd : b - a < 0
  · have e1 : max (b - a) 0 = 0 := by omega
    rw [e1] at hfar
    simp only [Int.zero_ediv, Int.zero_emod, Int.toNat_zero, cnt] at hfar
    have HF := Lib.hid hfar
    have HR : Hid (∀ w, Calls Try.prog 16 #[.int .i64 (1 + y), .int .i64 a, .int .i64 a, .int .i64 c] w fun e w' => e = .returned (.int .i64 0) ∧ w = w') := fun w => by
      have h := ref_count_any (1 + y) a a c w (by omega) (by omega) (by omega) (by omega) (by omega) (by omega) (by omega) (by omega)
      rw [Int.sub_self] at h
      exact h
    clear hfar e1
    go_enter Try.func5, Try.ntmps5
    go_wp2_with fail
    refine (HA.out _).mono ?_
    rintro e w' ⟨rfl, rfl⟩
    go_wp2_with fail
    refine (new_good _ _ (by omega) (by omega)).mono ?_
    rintro e w' ⟨rfl, rfl⟩
    go_wp2_with fail
    refine (HB.out _).mono ?_
    rintro e w' ⟨rfl, rfl⟩
    go_wp2_with fail
    refine (HC.out _).mono ?_
    rintro e w' ⟨rfl, rfl⟩
    go_wp2_with fail
    refine (HD.out _).mono ?_
    rintro e w' ⟨rfl, rfl⟩
    go_wp2_with fail
    refine (count_any _ (1 + y) _ _ _ _ (by go_simp) (by omega) (by omega) (by omega) (by omega) (by omega) (by omega) (by omega) (by omega)).mono ?_
    rintro e w' ⟨rfl, q', rfl⟩
    rw [HF.out]
    go_wp2_with fail
    refine (HR.out _).mono ?_
    rintro e w' ⟨rfl, rfl⟩
    go_wp2_with fail
    refine (lives_any _).mono ?_
    rintro e w' ⟨rfl, hb⟩
    go_wp2_with fail
    go_ret
    exact ⟨rfl, (below_drewN ((Below.refl _ _).alloc (Nat.le_refl _) _) _).trans (hb.mono (by simp))⟩
  · have e1 : max (b - a) 0 = b - a := by omega
    rw [e1] at hfar
    have q0 : 0 ≤ (b - a) / (1 + y) := Int.ediv_nonneg (by omega) (by omega)
    have q1 : (b - a) / (1 + y) ≤ b - a := Int.ediv_le_self _ (by omega)
    have r0 := Int.emod_nonneg (b - a) (show 1 + y ≠ 0 by omega)
    have r1 := Int.emod_lt_of_pos (b - a) (show 0 < 1 + y by omega)
    have k0 := cnt_nonneg (1 + y) c a ((b - a) % (1 + y)).toNat
    have k1 := cnt_le (1 + y) c a ((b - a) % (1 + y)).toNat
    have HF := Lib.hid hfar
    clear hfar e1
    go_enter Try.func5, Try.ntmps5
    go_wp2_with fail
    refine (HA.out _).mono ?_
    rintro e w' ⟨rfl, rfl⟩
    go_wp2_with fail
    refine (new_good _ _ (by omega) (by omega)).mono ?_
    rintro e w' ⟨rfl, rfl⟩
    go_wp2_with fail
    refine (HB.out _).mono ?_
    rintro e w' ⟨rfl, rfl⟩
    go_wp2_with fail
    refine (HC.out _).mono ?_
    rintro e w' ⟨rfl, rfl⟩
    go_wp2_with fail
    refine (HD.out _).mono ?_
    rintro e w' ⟨rfl, rfl⟩
    go_wp2_with fail
    refine (count_any _ (1 + y) _ _ _ _ (by go_simp) (by omega) (by omega) (by omega) (by omega) (by omega) (by omega) (by omega) (by omega)).mono ?_
    rintro e w' ⟨rfl, q', rfl⟩
    rw [HF.out]
    go_wp2_with fail
    refine (ref_count_any (1 + y) _ _ _ _ (by omega) (by omega) (by omega) (by omega) (by omega) (by omega) (by omega) (by omega)).mono ?_
    rintro e w' ⟨rfl, rfl⟩
    rw [show a + (b - a) % (1 + y) - a = (b - a) % (1 + y) by omega]
    go_wp2_with fail
    refine (lives_any _).mono ?_
    rintro e w' ⟨rfl, hb⟩
    go_wp2_with fail
    go_ret
    exact ⟨rfl, (below_drewN ((Below.refl _ _).alloc (Nat.le_refl _) _) _).trans (hb.mono (by simp))⟩

/-- Has one of the first tenants one tick less than k? -/
def shB (m a k : Int) : Nat → Bool
  | 0 => false
  | j + 1 => shB m a k j || decide (num m a (a + k * m - 1) j < k)
theorem shB_true (m a k : Int) (i : Nat) (h : num m a (a + k * m - 1) i < k) (j : Nat) (hj : i < j) : shB m a k j = true := by
  induction j with
  | zero => omega
  | succ j ih =>
    rw [shB]
    by_cases e : i = j
    · subst e; simp [h]
    · rw [ih (by omega)]; rfl
theorem shB_all (m : Nat) (a k : Int) (hm : 1 ≤ m) (hk : 1 ≤ k) : shB m a k m = true := by
  have r0 := Int.emod_nonneg (a + k * m - 1) (show (m : Int) ≠ 0 by omega)
  have r1 := Int.emod_lt_of_pos (a + k * m - 1) (show (0 : Int) < m by omega)
  refine shB_true m a k ((a + k * m - 1) % m).toNat ?_ m (by omega)
  rw [Int.toNat_of_nonneg r0]
  exact num_short m a k _ (by omega) hk r0 r1 rfl

theorem law_each (n t k : Int) (w : World) (hn : (Lit.int .i64 n).wf = true) (ht : (Lit.int .i64 t).wf = true) (hk : (Lit.int .i64 k).wf = true) :
    Calls Try.prog 7 #[.int .i64 n, .int .i64 t, .int .i64 k] w fun e w' => e = .returned (.bool true) ∧ Below w.heap.size w w' := by
  obtain ⟨y, y0, y1, hA⟩ := around_some n 16 (by omega) (by omega) hn
  obtain ⟨a, a0, a1, hB⟩ := around_some t 1001 (by omega) (by omega) ht
  obtain ⟨c, c0, c1, hC⟩ := around_some k 21 (by omega) (by omega) hk
  have HA := Lib.hid hA
  have HB := Lib.hid hB
  have HC := Lib.hid hC
  clear hA hB hC
  have p0 : 0 ≤ c * (1 + y) := Int.mul_nonneg c0 (by omega)
  have p1 : c * (1 + y) ≤ 21 * 16 := Int.mul_le_mul (by omega) (by omega) (by omega) (by omega)
  have HN : Hid (∀ i, num (1 + y) a (a + (1 + y)) i = 1) := fun i => num_one (1 + y) a i (by omega)
  have HM : Hid (∀ i, num (1 + y) a (a + c * (1 + y)) i = c) := fun i => num_times (1 + y) a c i (by omega) c0
  by_cases hc : c = 0
  · subst hc
    rw [Int.zero_mul, Int.add_zero] at HM
    go_enter Try.func7, Try.ntmps7
    go_wp2_with fail
    refine (HA.out _).mono ?_
    rintro e w' ⟨rfl, rfl⟩
    go_wp2_with fail
    refine (new_good _ _ (by omega) (by omega)).mono ?_
    rintro e w' ⟨rfl, rfl⟩
    go_wp2_with fail
    refine (HB.out _).mono ?_
    rintro e w' ⟨rfl, rfl⟩
    go_wp2_with fail
    refine (HC.out _).mono ?_
    rintro e w' ⟨rfl, rfl⟩
    go_wp2_with fail
    go_loopw [12, 13] (fun s c wr => ∃ k q : Nat, (k : Int) ≤ 1 + y ∧ c = .int .i64 k ∧ s = .bool false ∧ wr = (w.alloc (.cells #[.int .i64 (1 + y)] 40)).drewN q) (fun _ c _ => (1 + y - intOf c).toNat)
    case atStart => exact ⟨0, 0, by omega, rfl, rfl, rfl⟩
    case round =>
      obtain ⟨k, q, hk, rfl, rfl, rfl⟩ := hrel
      by_cases hlt : (k : Int) < 1 + y
      · go_wp2_with fail
        refine (count_any _ (1 + y) _ _ _ _ (by go_simp) (by omega) (by omega) (by omega) (by omega) (by omega) (by omega) (by omega) (by omega)).mono ?_
        rintro e w' ⟨rfl, q', rfl⟩
        rw [HN.out]
        go_wp2_with fail
        refine (wait_any _ (1 + y) _ _ (by go_simp) (by omega) (by omega) (by omega) (by omega)).mono ?_
        rintro e w' ⟨rfl, rfl⟩
        rw [Int.zero_mul]
        go_wp2_with fail
        refine (count_any _ (1 + y) _ _ _ _ (by go_simp) (by omega) (by omega) (by omega) (by omega) (by omega) (by omega) (by omega) (by omega)).mono ?_
        rintro e w' ⟨rfl, q', rfl⟩
        rw [HM.out]
        go_wp2_with fail
        go_roundw
        case rel => exact ⟨k + 1, _, by omega, by go_num, rfl, rfl⟩
        case measure => simp [intOf]; omega
      · go_wp2_with fail
        refine (lives_any _).mono ?_
        rintro e w' ⟨rfl, hb⟩
        go_wp2_with fail
        go_ret
        exact ⟨rfl, (below_drewN ((Below.refl _ _).alloc (Nat.le_refl _) _) _).trans (hb.mono (by simp))⟩
  · have p2 : 1 ≤ c * (1 + y) := by
      have := Int.mul_le_mul (show (1 : Int) ≤ c by omega) (show (1 : Int) ≤ 1 + y by omega) (by omega) (by omega)
      omega
    have hc1 : 0 < c := by omega
    go_enter Try.func7, Try.ntmps7
    go_wp2_with fail
    refine (HA.out _).mono ?_
    rintro e w' ⟨rfl, rfl⟩
    go_wp2_with fail
    refine (new_good _ _ (by omega) (by omega)).mono ?_
    rintro e w' ⟨rfl, rfl⟩
    go_wp2_with fail
    refine (HB.out _).mono ?_
    rintro e w' ⟨rfl, rfl⟩
    go_wp2_with fail
    refine (HC.out _).mono ?_
    rintro e w' ⟨rfl, rfl⟩
    go_wp2_with fail
    go_loopw [12, 13] (fun s c' wr => ∃ k q : Nat, (k : Int) ≤ 1 + y ∧ c' = .int .i64 k ∧ s = .bool (shB (1 + y) a c k) ∧ wr = (w.alloc (.cells #[.int .i64 (1 + y)] 40)).drewN q) (fun _ c _ => (1 + y - intOf c).toNat)
    case atStart => exact ⟨0, 0, by omega, rfl, rfl, rfl⟩
    case round =>
      obtain ⟨k, q, hk, rfl, rfl, rfl⟩ := hrel
      by_cases hlt : (k : Int) < 1 + y
      · have Hs : Hid (shB (1 + y) a c (k + 1) = (shB (1 + y) a c k || decide (num (1 + y) a (a + c * (1 + y) - 1) k < c))) := rfl
        generalize hsb : shB (1 + y) a c k = sb
        rw [hsb] at Hs
        clear hsb
        generalize hnm : num (1 + y) a (a + c * (1 + y) - 1) k = nm
        have HH := Lib.hid hnm
        rw [hnm] at Hs
        clear hnm
        go_wp2_with fail
        refine (count_any _ (1 + y) _ _ _ _ (by go_simp) (by omega) (by omega) (by omega) (by omega) (by omega) (by omega) (by omega) (by omega)).mono ?_
        rintro e w' ⟨rfl, q', rfl⟩
        rw [HN.out]
        go_wp2_with fail
        refine (wait_any _ (1 + y) _ _ (by go_simp) (by omega) (by omega) (by omega) (by omega)).mono ?_
        rintro e w' ⟨rfl, rfl⟩
        go_wp2_with fail
        refine (count_any _ (1 + y) _ _ _ _ (by go_simp) (by omega) (by omega) (by omega) (by omega) (by omega) (by omega) (by omega) (by omega)).mono ?_
        rintro e w' ⟨rfl, q'', rfl⟩
        rw [HM.out]
        cases sb with
        | true =>
          go_wp2_with fail
          go_roundw
          case rel => exact ⟨k + 1, _, by omega, by go_num, by rw [Hs.out]; rfl, rfl⟩
          case measure => simp [intOf]; omega
        | false =>
          go_wp2_with fail
          refine (wait_any _ (1 + y) _ _ (by go_simp) (by omega) (by omega) (by omega) (by omega)).mono ?_
          rintro e w' ⟨rfl, rfl⟩
          go_wp2_with fail
          refine (count_any _ (1 + y) _ _ _ _ (by go_simp) (by omega) (by omega) (by omega) (by omega) (by omega) (by omega) (by omega) (by omega)).mono ?_
          rintro e w' ⟨rfl, q''', rfl⟩
          rw [HH.out]
          go_wp2_with fail
          go_roundw
          case rel => exact ⟨k + 1, _, by omega, by go_num, by rw [Hs.out]; simp, rfl⟩
          case measure => simp [intOf]; omega
      · have hs := shB_all k a c (by omega) (by omega)
        rw [show (k : Int) = 1 + y by omega] at hs
        rw [hs]
        clear hs
        go_wp2_with fail
        refine (lives_any _).mono ?_
        rintro e w' ⟨rfl, hb⟩
        go_wp2_with fail
        go_ret
        exact ⟨rfl, (below_drewN ((Below.refl _ _).alloc (Nat.le_refl _) _) _).trans (hb.mono (by simp))⟩

theorem law_news (n : Int) (w : World) (hn : (Lit.int .i64 n).wf = true) :
    Calls Try.prog 6 #[.int .i64 n] w fun e w' => e = .returned (.bool true) ∧ Below w.heap.size w w' := by
  obtain ⟨y, y0, y1, hA⟩ := around_some n 18 (by omega) (by omega) hn
  have HA := Lib.hid hA
  clear hA
  go_enter Try.func6, Try.ntmps6
  go_wp2_with fail
  refine (HA.out _).mono ?_
  rintro e w' ⟨rfl, rfl⟩
  go_wp2_with fail
  go_loopw [4] (fun c wr => ∃ k : Nat, k ≤ 2 ∧ c = .int .i64 k ∧ Below (w.heap.size + 1) (w.alloc (.cells #[.int .i64 n, .int .i64 y] 3)) wr) (fun c _ => (2 - intOf c).toNat)
  case atStart => exact ⟨0, by omega, rfl, Below.refl _ _⟩
  case round =>
    obtain ⟨k, hk, rfl, hb⟩ := hrel
    have g0 : wr.cell? ⟨w.heap.size, 0, none⟩ = some (.int .i64 n) := (hb.cell (p := ⟨w.heap.size, 0, none⟩) (by simp)).trans (by go_simp)
    have g1 : wr.cell? ⟨w.heap.size, 1, none⟩ = some (.int .i64 y) := (hb.cell (p := ⟨w.heap.size, 1, none⟩) (by simp)).trans (by go_simp)
    have hsz : w.heap.size + 1 ≤ wr.heap.size := by have := hb.size; simpa using this
    have hsz2 : w.heap.size < wr.heap.size := by omega
    have HB := Lib.hid hb
    clear hb
    by_cases hlt : k < 2
    · obtain ⟨v, hv⟩ : ∃ v, v = (if k = 0 then n else y) := ⟨_, rfl⟩
      have hc : wr.cell? ⟨w.heap.size, k, none⟩ = some (.int .i64 v) := by
        rcases (show k = 0 ∨ k = 1 by omega) with rfl | rfl
        · rw [hv]; exact g0
        · rw [hv]; exact g1
      clear g0 g1 hv
      by_cases hlo : v < 1
      · go_wp2_with fail
        refine (new_bad _ _ (.inl hlo)).mono ?_
        rintro e w' ⟨rfl, rfl⟩
        go_wp2_with fail
        go_roundw
        case rel => exact ⟨k + 1, by omega, by go_num, HB.out⟩
        case measure => simp [intOf]; omega
      · by_cases hhi : 16 < v
        · go_wp2_with fail
          refine (new_bad _ _ (.inr hhi)).mono ?_
          rintro e w' ⟨rfl, rfl⟩
          go_wp2_with fail
          go_roundw
          case rel => exact ⟨k + 1, by omega, by go_num, HB.out⟩
          case measure => simp [intOf]; omega
        · have h1 : 1 ≤ v := by omega
          have h2 : v ≤ 16 := by omega
          clear hlo hhi
          go_wp2_with fail
          refine (new_good _ _ h1 h2).mono ?_
          rintro e w' ⟨rfl, rfl⟩
          go_wp2_with fail
          go_roundw
          case rel => exact ⟨k + 1, by omega, by go_num, HB.out.alloc hsz _⟩
          case measure => simp [intOf]; omega
    · clear g0 g1
      go_wp2_with fail
      refine (lives_any _).mono ?_
      rintro e w' ⟨rfl, hl⟩
      go_wp2_with fail
      go_ret
      exact ⟨rfl, (((Below.refl _ _).alloc (Nat.le_refl _) _).trans (HB.out.mono (by omega))).trans (hl.mono (by omega))⟩

end Go.Proofs.Ytcgjgmoemmokdaa
