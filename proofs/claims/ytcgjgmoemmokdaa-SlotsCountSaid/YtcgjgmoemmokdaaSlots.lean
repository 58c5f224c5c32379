/- The methods of slots.Schedule: what each comes to, at a schedule of n tenants. -/
import Derived.Test.YtcgjgmoemmokdaaProg
import Derived.Test.YtcgjgmoemmokdaaPlain
import Derived.Test.YtcgjgmoemmokdaaBase
namespace Go.Proofs.Ytcgjgmoemmokdaa
open Go.RowKit Slots
set_option linter.unusedVariables false

theorem new_bad (n : Int) (w : World) (h : n < 1 ∨ 16 < n) :
    Calls Try.prog 10 #[.int .i64 n] w fun e w' => e = .returned (.tuple #[.pointer none, .int .i64 1]) ∧ w = w' := by
  rcases h with h | h
  · go_enter Try.func10, Try.ntmps10
    go_wp2
    go_ret2
    exact ⟨rfl, rfl⟩
  · have h' : ¬ n < 1 := by omega
    go_enter Try.func10, Try.ntmps10
    go_wp2
    go_ret2
    exact ⟨rfl, rfl⟩

theorem new_good (n : Int) (w : World) (h1 : 1 ≤ n) (h2 : n ≤ 16) :
    Calls Try.prog 10 #[.int .i64 n] w fun e w' => e = .returned (.tuple #[.pointer (some ⟨w.heap.size, 0, none⟩), .int .i64 0]) ∧ w.alloc (.cells #[.int .i64 n] 40) = w' := by
  go_enter Try.func10, Try.ntmps10
  go_wp2
  go_ret2
  exact ⟨rfl, rfl⟩

theorem owner_any (b : Nat) (n t : Int) (w : World) (hc : w.cell? ⟨b, 0, none⟩ = some (.int .i64 n)) (h1 : 1 ≤ n) (h2 : n ≤ 16) (ht : 0 ≤ t) (ht' : t ≤ 9223372036854775807) :
    Calls Try.prog 13 #[.pointer (some ⟨b, 0, none⟩), .int .i64 t] w fun e w' => e = .returned (.int .i64 (t % n)) ∧ w = w' := by
  go_enter Try.func13, Try.ntmps13
  go_wp2
  go_ret
  exact ⟨rfl, rfl⟩

theorem around_any (a m : Int) (w : World) (hm : 0 < m) (hm' : m ≤ 9223372036854775807) (ha : -9223372036854775808 ≤ a) (ha' : a ≤ 9223372036854775807) :
    Calls Try.prog 9 #[.int .i64 a, .int .i64 m] w fun e w' => e = .returned (.int .i64 (ar a m)) ∧ w = w' := by
  have hm0 : (m == 0) = false := by simp; omega
  by_cases h : a < 0
  · have E : ar a m = (-(a + 1)) % m := by unfold ar; rw [if_pos h]
    rw [E]
    clear E
    have h1 : wrap64 (a + 1) = a + 1 := by unfold wrap64; omega
    have h2 : wrap64 (-(a + 1)) = -(a + 1) := by unfold wrap64; omega
    have h3 : Int.tmod (-(a + 1)) m = (-(a + 1)) % m := Int.tmod_eq_emod_of_nonneg (by omega)
    go_enter Try.func9, Try.ntmps9
    go_wp2
    go_ret
    exact ⟨by simp, rfl⟩
  · have E : ar a m = a % m := by unfold ar; rw [if_neg h]
    rw [E]
    clear E
    go_enter Try.func9, Try.ntmps9
    go_wp2
    go_ret
    exact ⟨by simp, rfl⟩
/-- A call of Around: some number below m. -/
theorem around_some (a m : Int) (hm : 0 < m) (hm' : m ≤ 9223372036854775807) (ha : (Lit.int .i64 a).wf = true) :
    ∃ y, 0 ≤ y ∧ y < m ∧ ∀ w, Calls Try.prog 9 #[.int .i64 a, .int .i64 m] w fun e w' => e = .returned (.int .i64 y) ∧ w = w' :=
  ⟨ar a m, ar_lo a m hm, ar_hi a m hm, fun w => around_any a m w hm hm' (wf64 ha).1 (wf64 ha).2⟩

theorem ahead_any (b : Nat) (n t i : Int) (w : World) (hc : w.cell? ⟨b, 0, none⟩ = some (.int .i64 n)) (h1 : 1 ≤ n) (h2 : n ≤ 16) (ht : 0 ≤ t) (ht' : t ≤ 1099511627792) (hi : 0 ≤ i) (hi' : i < n) :
    Calls Try.prog 22 #[.pointer (some ⟨b, 0, none⟩), .int .i64 t, .int .i64 i] w fun e w' => e = .returned (.int .i64 ((t + n - 1 - i) / n)) ∧ ∃ k, w' = w.drewN k := by
  go_enter Try.func22, Try.ntmps22
  go_wp2
  go_quiet (fail)
  go_wp2
  go_ret
  exact ⟨rfl, _, rfl⟩

theorem count_any (b : Nat) (n f t i : Int) (w : World) (hc : w.cell? ⟨b, 0, none⟩ = some (.int .i64 n)) (h1 : 1 ≤ n) (h2 : n ≤ 16) (hf : 0 ≤ f) (hf' : f ≤ 1099511627792) (ht : 0 ≤ t) (ht' : t ≤ 1099511627792) (hi : 0 ≤ i) (hi' : i < n) :
    Calls Try.prog 15 #[.pointer (some ⟨b, 0, none⟩), .int .i64 f, .int .i64 t, .int .i64 i] w fun e w' => e = .returned (.int .i64 (num n f t i)) ∧ ∃ k, w' = w.drewN k := by
  have b1 : 0 ≤ (t + n - 1 - i) / n := Int.ediv_nonneg (by omega) (by omega)
  have b2 : (t + n - 1 - i) / n ≤ t + n - 1 - i := Int.ediv_le_self _ (by omega)
  have b3 : 0 ≤ (f + n - 1 - i) / n := Int.ediv_nonneg (by omega) (by omega)
  have b4 : (f + n - 1 - i) / n ≤ f + n - 1 - i := Int.ediv_le_self _ (by omega)
  have hn : num n f t i = max ((t + n - 1 - i) / n - (f + n - 1 - i) / n) 0 := rfl
  rw [hn]
  clear hn
  by_cases hd : (t + n - 1 - i) / n - (f + n - 1 - i) / n < 0
  all_goals
    go_enter Try.func15, Try.ntmps15
    go_wp2_with (go_at_call 22; refine (ahead_any _ _ _ _ _ ?_ h1 h2 ?_ ?_ hi hi').mono ?_ <;> first | (simpa using hc) | omega | (rintro e w' ⟨rfl, k, rfl⟩))
    go_ret
  · exact ⟨congrArg (fun x => Ending.returned (.int .i64 x)) (show (0 : Int) = max ((t + n - 1 - i) / n - (f + n - 1 - i) / n) 0 by omega), _, rfl⟩
  · exact ⟨congrArg (fun x => Ending.returned (.int .i64 x)) (show (t + n - 1 - i) / n - (f + n - 1 - i) / n = max ((t + n - 1 - i) / n - (f + n - 1 - i) / n) 0 by omega), _, rfl⟩

theorem next_any (b : Nat) (n t i : Int) (w : World) (hc : w.cell? ⟨b, 0, none⟩ = some (.int .i64 n)) (h1 : 1 ≤ n) (h2 : n ≤ 16) (ht : 0 ≤ t) (ht' : t ≤ 1099511627792) (hi : 0 ≤ i) (hi' : i < n) :
    Calls Try.prog 11 #[.pointer (some ⟨b, 0, none⟩), .int .i64 t, .int .i64 i] w fun e w' => e = .returned (.int .i64 (nx n t i)) ∧ w = w' := by
  go_enter Try.func11, Try.ntmps11
  go_wp2
  go_loop [15] (fun c => ∃ k : Nat, (k : Int) ≤ n ∧ c = .int .i64 k ∧ t + k ≤ nx n t i) (fun c => n.toNat - (intOf c).toNat)
  case atStart => exact ⟨0, by omega, rfl, by have := nx_lo n t i h1; omega⟩
  case round =>
    obtain ⟨k, hk, rfl, hall⟩ := hrel
    have h3 := nx_hi n t i h1
    have hlt : (k : Int) < n := by omega
    by_cases hm : (t + k) % n = i
    · have hmb : ((t + k) % n == i) = true := beq_iff_eq.2 hm
      have Hm := Lib.hid (nx_eq n t i k (by omega) hlt hm)
      clear hm hall h3
      go_wp2_with (go_at_call 13; refine (owner_any b n _ _ hc h1 h2 (by omega) (by omega)).mono ?_; rintro e w' ⟨rfl, rfl⟩)
      go_ret
      exact ⟨congrArg (fun x => Ending.returned (.int .i64 x)) Hm.out, rfl⟩
    · have hmb : ((t + k) % n == i) = false := beq_eq_false_iff_ne.2 hm
      have hne : t + k ≠ nx n t i := fun e => hm (by rw [e]; exact nx_owner n t i h1 hi hi')
      have hle : t + k + 1 ≤ nx n t i := by omega
      clear hm hne hall h3
      go_wp2_with (go_at_call 13; refine (owner_any b n _ _ hc h1 h2 (by omega) (by omega)).mono ?_; rintro e w' ⟨rfl, rfl⟩)
      go_round
      case rel => exact ⟨k + 1, by omega, by go_num, by omega⟩
      case measure => simp [intOf]; omega

theorem wait_any (b : Nat) (n k : Int) (w : World) (hc : w.cell? ⟨b, 0, none⟩ = some (.int .i64 n)) (h1 : 1 ≤ n) (h2 : n ≤ 16) (hk : 0 ≤ k) (hk' : k ≤ 100) :
    Calls Try.prog 17 #[.pointer (some ⟨b, 0, none⟩), .int .i64 k] w fun e w' => e = .returned (.int .i64 (k * n)) ∧ w = w' := by
  have b1 : 0 ≤ k * n := Int.mul_nonneg hk (by omega)
  have b2 : k * n ≤ 100 * 16 := Int.mul_le_mul hk' h2 (by omega) (by omega)
  go_enter Try.func17, Try.ntmps17
  go_wp2
  go_ret
  exact ⟨rfl, rfl⟩

theorem len_any (b : Nat) (n : Int) (w : World) (hc : w.cell? ⟨b, 0, none⟩ = some (.int .i64 n)) :
    Calls Try.prog 21 #[.pointer (some ⟨b, 0, none⟩)] w fun e w' => e = .returned (.int .i64 n) ∧ w = w' := by
  go_enter Try.func21, Try.ntmps21
  go_wp2
  go_ret
  exact ⟨rfl, rfl⟩

theorem ref_owner_any (n t : Int) (w : World) (h1 : 1 ≤ n) (h2 : n ≤ 16) (ht : 0 ≤ t) (ht' : t ≤ 1099511627892) :
    Calls Try.prog 18 #[.int .i64 n, .int .i64 t] w fun e w' => e = .returned (.int .i64 (t % n)) ∧ w = w' := by
  have b0 : 0 ≤ t / n := Int.ediv_nonneg ht (by omega)
  have b1 : t / n ≤ t := Int.ediv_le_self _ ht
  have e1 := Int.mul_ediv_add_emod t n
  have e2 : t / n * n = n * (t / n) := Int.mul_comm _ _
  have r0 := Int.emod_nonneg t (show n ≠ 0 by omega)
  have r1 := Int.emod_lt_of_pos t (show 0 < n by omega)
  have b2 : 0 ≤ t / n * n := Int.mul_nonneg b0 (by omega)
  have b3 : t / n * n ≤ t := Int.ediv_mul_le _ (by omega)
  have e3 : t - n * (t / n) = t % n := (Int.emod_def t n).symm
  have E := Lib.hid (show t - t / n * n = t % n by rw [e2]; exact e3)
  clear e1 e2 e3
  go_enter Try.func18, Try.ntmps18
  go_wp2
  go_ret
  exact ⟨congrArg (fun x => Ending.returned (.int .i64 x)) E.out, rfl⟩

theorem ref_next_any (n t i : Int) (w : World) (h1 : 1 ≤ n) (h2 : n ≤ 16) (ht : 0 ≤ t) (ht' : t ≤ 1099511627792) (hi : 0 ≤ i) (hi' : i < n) :
    Calls Try.prog 12 #[.int .i64 n, .int .i64 t, .int .i64 i] w fun e w' => e = .returned (.int .i64 (nx n t i)) ∧ w = w' := by
  go_enter Try.func12, Try.ntmps12
  go_wp2
  go_loop [1] (fun c => ∃ k : Nat, c = .int .i64 (t + k) ∧ t + k ≤ nx n t i) (fun c => (nx n t i - intOf c).toNat)
  case atStart => exact ⟨0, by simp, by have := nx_lo n t i h1; omega⟩
  case round =>
    obtain ⟨k, rfl, hall⟩ := hrel
    have h3 := nx_hi n t i h1
    by_cases hm : (t + k) % n = i
    · have hmb : ((t + k) % n != i) = false := by simp [hm]
      have hb : t + (k : Int) ≤ 1099511627892 := by omega
      have Hm := Lib.hid (nx_eq n t i k (by omega) (by omega) hm)
      clear hm hall
      go_wp2_with (go_at_call 18; refine (ref_owner_any n _ _ h1 h2 (by omega) (by omega)).mono ?_; rintro e w' ⟨rfl, rfl⟩)
      go_ret
      exact ⟨congrArg (fun x => Ending.returned (.int .i64 x)) Hm.out, rfl⟩
    · have hmb : ((t + k) % n != i) = true := by simp [hm]
      have hne : t + k ≠ nx n t i := fun e => hm (by rw [e]; exact nx_owner n t i h1 hi hi')
      have hle : t + k + 1 ≤ nx n t i := by omega
      have hb : t + (k : Int) ≤ 1099511627892 := by omega
      clear hm hne hall
      go_wp2_with (go_at_call 18; refine (ref_owner_any n _ _ h1 h2 (by omega) (by omega)).mono ?_; rintro e w' ⟨rfl, rfl⟩)
      go_round
      case rel => exact ⟨k + 1, by go_num, by omega⟩
      case measure => simp [intOf]; omega

theorem ref_count_any (n f t i : Int) (w : World) (h1 : 1 ≤ n) (h2 : n ≤ 16) (hf : 0 ≤ f) (hf' : f ≤ 1099511627792) (ht : 0 ≤ t) (ht' : t ≤ 1099511627792) (hi : 0 ≤ i) (hi' : i < n) :
    Calls Try.prog 16 #[.int .i64 n, .int .i64 f, .int .i64 t, .int .i64 i] w fun e w' => e = .returned (.int .i64 (cnt n i f (t - f).toNat)) ∧ w = w' := by
  go_enter Try.func16, Try.ntmps16
  go_wp2
  go_loop [9, 10] (fun q c => ∃ k : Nat, k ≤ (t - f).toNat ∧ c = .int .i64 (f + k) ∧ q = .int .i64 (cnt n i f k)) (fun _ c => (t - intOf c).toNat)
  case atStart => exact ⟨0, by omega, by simp, by simp [cnt]⟩
  case round =>
    obtain ⟨k, hk, rfl, rfl⟩ := hrel
    have c0 := cnt_nonneg n i f k
    have c1 := cnt_le n i f k
    have Hc : Hid (cnt n i f (k + 1) = cnt n i f k + if (f + k) % n = i then 1 else 0) := rfl
    by_cases hlt : f + (k : Int) < t
    · by_cases hm : (f + k) % n = i
      · have hmb : ((f + k) % n == i) = true := by simp [hm]
        have Hm := Lib.hid hm
        clear hm
        go_wp2_with (go_at_call 18; refine (ref_owner_any n _ _ h1 h2 (by omega) (by omega)).mono ?_; rintro e w' ⟨rfl, rfl⟩)
        go_round
        case rel => exact ⟨k + 1, by omega, by go_num, by rw [Hc.out, if_pos Hm.out]⟩
        case measure => simp [intOf]; omega
      · have hmb : ((f + k) % n == i) = false := by simp [hm]
        have Hm := Lib.hid hm
        clear hm
        go_wp2_with (go_at_call 18; refine (ref_owner_any n _ _ h1 h2 (by omega) (by omega)).mono ?_; rintro e w' ⟨rfl, rfl⟩)
        go_round
        case rel => exact ⟨k + 1, by omega, by go_num, by rw [Hc.out, if_neg Hm.out]; go_num⟩
        case measure => simp [intOf]; omega
    · have e : k = (t - f).toNat := by omega
      subst e
      go_wp2
      go_ret
      exact ⟨rfl, rfl⟩

theorem lives_any (w : World) : Calls Try.prog 14 #[] w fun e w' => e = .returned (.bool true) ∧ Below w.heap.size w w' := by
  go_enter Try.func14, Try.ntmps14
  go_wp2_with (first | (go_at_call 10; refine (new_good 3 _ (by omega) (by omega)).mono ?_; rintro e w' ⟨rfl, rfl⟩) | (go_at_call 13; refine (owner_any _ 3 _ _ (by go_simp) (by omega) (by omega) (by omega) (by omega)).mono ?_; rintro e w' ⟨rfl, rfl⟩) | (go_at_call 11; refine (next_any _ 3 _ _ _ (by go_simp) (by omega) (by omega) (by omega) (by omega) (by omega) (by omega)).mono ?_; rintro e w' ⟨rfl, rfl⟩) | (go_at_call 15; refine (count_any _ 3 _ _ _ _ (by go_simp) (by omega) (by omega) (by omega) (by omega) (by omega) (by omega) (by omega) (by omega)).mono ?_; rintro e w' ⟨rfl, k, rfl⟩))
  go_ret
  exact ⟨congrArg (fun x => Ending.returned (.bool x)) (show (num 3 0 7 0 == 3) = true by decide), below_drewN ((Below.refl _ _).alloc (Nat.le_refl _) _) _⟩

end Go.Proofs.Ytcgjgmoemmokdaa
