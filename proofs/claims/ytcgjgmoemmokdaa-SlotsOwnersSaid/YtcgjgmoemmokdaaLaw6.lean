/- The walk of SlotsOwners. -/
import Derived.Test.YtcgjgmoemmokdaaRow
namespace Go.Proofs.Ytcgjgmoemmokdaa
open Go.RowKit Slots
set_option linter.unusedVariables false

theorem law_owners (n t many : Int) (w : World) (hn : (Lit.int .i64 n).wf = true) (ht : (Lit.int .i64 t).wf = true) (hm : (Lit.int .i64 many).wf = true) :
    Calls Try.prog 8 #[.int .i64 n, .int .i64 t, .int .i64 many] w fun e w' => e = .returned (.bool true) ∧ Below w.heap.size w w' := by
  obtain ⟨y, y0, y1, hA⟩ := around_some n 16 (by omega) (by omega) hn
  obtain ⟨a, a0, a1, hB⟩ := around_some t 1099511627777 (by omega) (by omega) ht
  obtain ⟨z, z0, z1, hC⟩ := around_some t 1000 (by omega) (by omega) ht
  obtain ⟨m, m0, m1, hD⟩ := around_some many 41 (by omega) (by omega) hm
  obtain ⟨m, rfl⟩ := Int.eq_ofNat_of_zero_le m0
  have HA := Lib.hid hA
  have HB := Lib.hid hB
  have HC := Lib.hid hC
  have HD := Lib.hid hD
  clear hA hB hC hD
  go_enter Try.func8, Try.ntmps8
  go_wp2_with fail
  refine (HA.out _).mono ?_
  rintro e w' ⟨rfl, rfl⟩
  go_wp2_with fail
  refine (new_good _ _ (by omega) (by omega)).mono ?_
  rintro e w' ⟨rfl, rfl⟩
  go_wp2_with fail
  refine (HB.out _).mono ?_
  rintro e w' ⟨rfl, rfl⟩
  go_wp2_with fail
  refine (HC.out _).mono ?_
  rintro e w' ⟨rfl, rfl⟩
  go_wp2_with fail
  refine (HD.out _).mono ?_
  rintro e w' ⟨rfl, rfl⟩
  go_wp2_with fail
  go_loopw [13, 14] (fun v c wr => ∃ k : Nat, k ≤ m ∧ c = .int .i64 k ∧ wr.ownsRow (w.heap.size + 1) 3 1 v k (ints (owners (1 + y) z k)) ∧ Below (w.heap.size + 1) (w.alloc (.cells #[.int .i64 (1 + y)] 40)) wr) (fun _ c _ => m - (intOf c).toNat)
  case atStart => exact ⟨0, by omega, rfl, own_nil _ _ _ _, Below.refl _ _⟩
  case round =>
    obtain ⟨k, hk, rfl, hown, hbel⟩ := hrel
    have hsz : w.heap.size + 1 ≤ wr.heap.size := by have := hbel.size; simpa using this
    have hcr : wr.cell? ⟨w.heap.size, 0, none⟩ = some (.int .i64 (1 + y)) := (hbel.cell (p := ⟨w.heap.size, 0, none⟩) (by simp)).trans (by go_simp)
    have HO := Lib.hid hown
    have HL := Lib.hid hbel
    clear hown hbel
    by_cases hlt : k < m
    · clear hcr
      go_wp2_with (first | (go_at_call 18; refine (ref_owner_any (1 + y) _ _ (by omega) (by omega) (by omega) (by omega)).mono ?_; rintro e w' ⟨rfl, rfl⟩) | (at_builtin; refine app_one HO.out [.int .i64 ((z + k) % (1 + y))] rfl rfl Try.underlying34 info3 rfl (by decide) rfl rfl rfl (one_int _) hsz (by omega) (by omega) ?_; intro v1 w1 hown1 hbel1 _))
      go_roundw
      case rel => exact ⟨k + 1, by omega, by go_num, by rw [owners_succ, ints_append]; exact hown1, HL.out.trans hbel1⟩
      case measure => simp [intOf]; omega
    · obtain rfl : k = m := by omega
      go_wp2_with fail
      refine (owner_any _ (1 + y) _ _ hcr (by omega) (by omega) (by omega) (by omega)).mono ?_
      rintro e w' ⟨rfl, rfl⟩
      go_wp2_with fail
      refine (ref_owner_any (1 + y) _ _ (by omega) (by omega) (by omega) (by omega)).mono ?_
      rintro e w' ⟨rfl, rfl⟩
      go_wp2_with fail
      refine (row_any _ (1 + y) _ k _ hcr (by omega) (by omega) (by omega) (by omega) (by omega)).mono ?_
      rintro e w1 ⟨v1, rfl, hown1, hbel1⟩
      have hcr1 := cell_below hbel1 hcr
      have HO1 := Lib.hid hown1
      have HL1 := Lib.hid hbel1
      clear hown1 hbel1
      go_wp2_with fail
      refine (same_any _ _ (owners (1 + y) z k) (owners (1 + y) z k) _ (own_reads HO1.out) ((own_reads HO.out).below HL1.out)).mono ?_
      rintro e w' ⟨rfl, q, rfl⟩
      rw [show decide (owners (1 + y) z k = owners (1 + y) z k) = true by simp]
      go_wp2_with fail
      refine (len_any _ (1 + y) _ (by go_simp)).mono ?_
      rintro e w' ⟨rfl, rfl⟩
      go_wp2_with fail
      refine (row_any _ (1 + y) _ 0 _ (by go_simp) (by omega) (by omega) (by omega) (by omega) (by omega)).mono ?_
      rintro e w2 ⟨v2, rfl, hown2, hbel2⟩
      obtain ⟨A, c, rfl, _⟩ := own_reads hown2
      have HL2 := Lib.hid hbel2
      clear hown2 hbel2
      rw [show (owners (1 + y) z 0).length = 0 from owners_length _ _ _]
      go_wp2_with fail
      refine (lives_any _).mono ?_
      rintro e w3 ⟨rfl, hl⟩
      go_wp2_with fail
      go_ret
      have b0 : Below w.heap.size w wr := ((Below.refl _ _).alloc (Nat.le_refl _) _).trans (HL.out.mono (by omega))
      have b1 := below_drewN (below_then b0 (by omega) HL1.out) q
      have b2 := below_then b1 b1.size HL2.out
      exact ⟨rfl, below_then b2 b2.size hl⟩

end Go.Proofs.Ytcgjgmoemmokdaa
