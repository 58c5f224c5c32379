/- The walk of CapsRevoked. -/
import Derived.Test.YthdcffbifgifeaaMt
namespace Go.Proofs.Ythdcffbifgifeaa
open Go.RowKit
set_option linter.unusedVariables false

set_option maxRecDepth 100000 in
set_option maxHeartbeats 4000000 in
theorem law_revoked (v : Value) (l : List Int) (k0 more : Int) (w : World) (H : InInts w v l) (hk0 : (Lit.int .i64 k0).wf = true) (hmo : (Lit.int .i64 more).wf = true) :
    Calls Try.prog 7 #[v, .int .i64 k0, .int .i64 more] w fun e w' => e = .returned (.bool true) ∧ Below w.heap.size w w' := by
  obtain ⟨⟨A, c, rfl, hlc, hcm, hA, hcell⟩, hwf⟩ := H
  have HW := Lib.hid hwf
  have HC := Lib.hid hcell
  have HA := Lib.hid hA
  clear hwf hcell hA
  have hl1 : (l.length : Int) ≤ 9223372036854775807 := by omega
  have HNW := Lib.hid (new_good 3 w (by omega) (by omega))
  go_enter Try.func7, Try.ntmps7
  go_wp2_with fail
  refine HNW.out.mono ?_
  rintro e w1 ⟨b, hbw, rfl, ht, hb⟩
  have HM := Lib.hid (show MS w w1 b 3 (.slice none 0 0) [] from ⟨by rw [stL_nil]; exact ht, by simpa [capl, capv] using own_nil w1 (b + 1) 28 2, hb, hbw⟩)
  clear ht hb HNW
  go_wp2_with fail
  go_loopw [9, 10, 11, 12] (fun va c _ _ wr => ∃ (rs : List Int), rs.length ≤ 7 ∧ c = .int .i64 rs.length ∧ MS w wr b 3 va rs) (fun _ c _ _ _ => 7 - (intOf c).toNat)
  case atStart => exact ⟨[], by simp, rfl, HM.out⟩
  case round =>
    obtain ⟨rs, hk, rfl, hms⟩ := hrel
    clear HM
    have HM := Lib.hid hms
    clear hms
    by_cases hlt : rs.length < l.length ∧ rs.length < 7
    · obtain ⟨hkl, hk7⟩ := hlt
      obtain ⟨ab, ao, rfl⟩ := HA.out (by omega)
      have d0 := cell_below HM.out.bel (HC.out ab ao rfl rs.length hkl)
      have habw : ab < w.heap.size := cell_lt (HC.out ab ao rfl rs.length hkl)
      obtain ⟨r, r0, r1, hR⟩ := around_some (l.getD rs.length 0) 16 (by omega) (by omega) (HW.out _ (by simp [List.getD_eq_getElem?_getD, List.getElem?_eq_getElem hkl]))
      obtain ⟨x, hx⟩ : ∃ x, x = l.getD rs.length 0 := ⟨_, rfl⟩
      rw [← hx] at d0 hR
      have HR := Lib.hid hR
      have hT := HM.out.t
      have hbl := hT.blt
      have hab : ab < wr.heap.size := cell_lt d0
      have hanb : ab ≠ b := by have := HM.out.lb; omega
      have hbwn : b ≠ wr.heap.size := by omega
      have hawn : ab ≠ wr.heap.size := by omega
      have HRT := Lib.hid (fun W (h : Below wr.heap.size wr W) => show Calls Try.prog 10 #[.pointer (some ⟨b, 0, none⟩)] W fun e w' => e = .returned (.agg #[.int .i64 0, .int .i64 3145728]) ∧ Below W.heap.size W w' by
        simpa using root_any b 3 (rs.length + 1) (stL 3 rs) W (hT.below h))
      have HMI := Lib.hid (fun W (h : Below wr.heap.size wr W) => show Calls Try.prog 12 #[.pointer (some ⟨b, 0, none⟩), .agg #[.int .i64 0, .int .i64 3145728], .int .i64 r] W fun e w' =>
          e = .returned (.tuple #[.agg #[.int .i64 ((rs.length : Int) + 1), .int .i64 (3145728 + ((rs.length : Int) + 1))], .int .i64 0]) ∧ TAt w' b 3 (rs.length + 1 + 1) (stL 3 (rs ++ [r])) ∧ Only1 b W w' by
        have := mint_next (hT.below h) r0 r1 hk7
        simpa using this)
      obtain ⟨m, hm⟩ : ∃ m, m = rs.length := ⟨_, rfl⟩
      have HMM := Lib.hid hm
      rw [← hm] at d0 hkl hk7 HMI ⊢
      obtain ⟨k, hkm⟩ : ∃ k, k = m := ⟨_, rfl⟩
      have hki : (m : Int) < l.length := by omega
      have hki7 : (m : Int) < 7 := by omega
      clear hx hR hT hm
      go_upto_region 8 with (fail)
      subst hkm
      go_cut [11, 12] (fun p e wx => ∃ pb, wr.heap.size ≤ pb ∧ p = .pointer (some ⟨pb, 0, none⟩) ∧ e = .int .i64 0 ∧ wx.cell? ⟨pb, 0, none⟩ = some (.int .i64 ((k : Int) + 1)) ∧ wx.cell? ⟨pb, 1, none⟩ = some (.int .i64 (3145728 + ((k : Int) + 1))) ∧ TAt wx b 3 (k + 1 + 1) (stL 3 (rs ++ [r])) ∧ Only1 b wr wx)
      case first =>
        go_region_held3 (fun w' => w'.cell? ⟨ab, ao + k, none⟩ = some (.int .i64 x)) (first | (exact d5) | (exact keep_put (by assumption) d5) | (exact keep_alloc d5) | (exact keep_put (by assumption) (keep_alloc d5)) | (go_keep; done) | (exact cell_below (w := wr) (by repeat (first | exact BF.out | exact Below.refl _ _ | with_reducible apply below_drew | with_reducible apply below_alloc0)) d0)) (first | (go_at_call 10; refine (HRT.out _ (by repeat (first | exact BF.out | exact Below.refl _ _ | with_reducible apply below_drew | with_reducible apply below_alloc0))).mono ?_; rintro e w5 ⟨rfl, hbf⟩; (try (have hq := (hbf.block wr.heap.size (by simp)).trans (heap_alloc_new wr.drew (.cells #[.int .i64 0, .int .i64 0] 28)))); have bf : Below wr.heap.size wr w5 := below_then (by repeat (first | exact BF.out | exact Below.refl _ _ | with_reducible apply below_drew | with_reducible apply below_alloc0)) (by first | simp; done | omega | (simp; omega)) hbf; have q4 := bf.size; have qa5 : ab ≠ w5.heap.size := (by omega); have qb5 : b ≠ w5.heap.size := (by omega); have BF := Lib.hid bf; have ql5 : ab < w5.heap.size := (by omega); (try (have qw5 : wr.heap.size < w5.heap.size := (Array.getElem?_eq_some_iff.1 hq).1)); clear hbf bf) | (go_at_call 11; refine (HR.out _).mono ?_; rintro e w' ⟨rfl, rfl⟩) | (go_at_call 12; refine (HMI.out _ (by repeat (first | exact BF.out | exact Below.refl _ _ | with_reducible apply below_drew | with_reducible apply below_alloc0))).mono ?_; rintro e w6 ⟨rfl, ht6, ho6⟩; have hsz6 := ho6.size; have hO6 : Only1 b wr w6 := (Only1.of (by repeat (first | exact BF.out | exact Below.refl _ _ | with_reducible apply below_drew | with_reducible apply below_alloc0))).trans ho6; have d5 := (World.cell?_of_block (a := ⟨ab, ao + k, none⟩) (hO6.far ab hab hanb)).trans d0; (first | (have hq6 := (ho6.far wr.heap.size qw5 (Ne.symm hbwn)).trans hq; have n0 := cell_of_row w6 _ 0 _ _ _ hq6; have n1 := cell_of_row w6 _ 1 _ _ _ hq6; have m0 := frozen_of_row w6 _ 0 _ _ hq6; have m1 := frozen_of_row w6 _ 1 _ _ hq6; simp at n0 n1; have HQ6 := Lib.hid hq6; clear hq6) | (have hq6 := (ho6.far w5.heap.size (by simp) (Ne.symm qb5)).trans (heap_alloc_new w5 (.cells #[.int .i64 0, .int .i64 0] 28)); have n0 := cell_of_row w6 _ 0 _ _ _ hq6; have n1 := cell_of_row w6 _ 1 _ _ _ hq6; have m0 := frozen_of_row w6 _ 0 _ _ hq6; have m1 := frozen_of_row w6 _ 1 _ _ hq6; simp at n0 n1; have HQ6 := Lib.hid hq6; clear hq6) | (have n0 := True.intro)); have qa6 : ab ≠ w6.heap.size := (by have := hO6.size; omega); have qb6 : b ≠ w6.heap.size := (by have := hO6.size; omega); have HT6 := Lib.hid ht6; have HO6 := Lib.hid hO6; clear ht6 ho6 hO6 hsz6))
        all_goals (go_wp2_with fail; go_meet; first
          | (obtain ⟨z0, z1, z2, z3⟩ := box_put (.int .i64 ((k : Int) + 1)) (.int .i64 (3145728 + ((k : Int) + 1))) HO6.out HT6.out HQ6.out hbl (by omega); exact ⟨_, by omega, rfl, rfl, z0, z1, z2, z3⟩)
          | (obtain ⟨z0, z1, z2, z3⟩ := box_put (.int .i64 ((k : Int) + 1)) (.int .i64 (3145728 + ((k : Int) + 1))) (HO6.out.alloc (.cells #[.int .i64 0, .int .i64 0] 28)) (HT6.out.below ((Below.refl _ _).alloc (Nat.le_refl _) _)) (heap_alloc_new _ _) hbl HO6.out.size; exact ⟨_, HO6.out.size, rfl, rfl, z0, z1, z2, z3⟩)
          | (exact ⟨_, HO6.out.size, rfl, rfl, by go_simp, by go_simp, HT6.out.below ((Below.refl _ _).alloc (Nat.le_refl _) _), HO6.out.alloc _⟩))
      case rest =>
        obtain ⟨pb, hpb, rfl, rfl, n0, n1, ht1, ho1⟩ := hcut
        have hplt := cell_lt n0
        have hmo := HM.out.o
        rw [← HMM.out] at hmo
        have HOB := Lib.hid (own_keep hmo fun j hj hlt => ho1.far j hlt (by omega))
        have HT1 := Lib.hid ht1
        have HB1 := Lib.hid (HM.out.bel.trans (ho1.below HM.out.lb HM.out.bel.size))
        have hblt := ht1.blt
        clear hmo ht1 ho1 HRT HMI HR d0 hab
        go_wp2_with (at_builtin; refine app_one HOB.out [.int .i64 ((k : Int) + 1), .int .i64 (3145728 + ((k : Int) + 1))] rfl rfl Try.underlying42 info28' rfl (by decide) rfl rfl rfl rfl (two_one _ _) (by omega) (by omega) (by omega) ?_; intro v1 w4 hown1 hbel1 hgr)
        have HMS := Lib.hid (show MS w w4 b 3 v1 (rs ++ [r]) by
          have e := HMM.out
          subst e
          exact MS.push HT1.out (by simpa using hown1) hbel1 HB1.out hbw)
        clear hown1 hbel1 hgr
        go_roundw
        case rel => exact ⟨rs ++ [r], by rw [List.length_append]; have := HMM.out; simp only [List.length_singleton]; omega, by rw [List.length_append, ← HMM.out]; simp only [List.length_singleton]; go_num, HMS.out⟩
        case measure => simp [intOf]; omega
    · obtain ⟨m, hm⟩ : ∃ m, m = rs.length := ⟨_, rfl⟩
      have HMM := Lib.hid hm
      have ho := HM.out.o
      rw [← hm] at ho hlt hk ⊢
      obtain ⟨Av, cv, rfl⟩ := own_slice ho
      have HO := Lib.hid ho
      clear ho hm
      have hend : ((m : Int) < l.length ∧ ¬ (m : Int) < 7) ∨ ¬ (m : Int) < l.length := by omega
      have hmax : (m : Int) ≤ 7 := by omega
      clear hlt
      by_cases h0 : m = 0
      · subst h0
        rcases hend with ⟨e1, e2⟩ | e1
        · exact absurd (by omega) e2
        · go_wp2_with (go_at_call 15; refine (lives_any _).mono ?_; rintro e w' ⟨rfl, hb⟩)
          go_ret
          exact ⟨rfl, HM.out.bel.trans (hb.mono HM.out.bel.size)⟩
      · obtain ⟨q, q0, q1, hK⟩ := around_some k0 m (by omega) (by omega) hk0
        obtain ⟨q, rfl⟩ := Int.eq_ofNat_of_zero_le q0
        obtain ⟨n, n0, n1, hN⟩ := around_some more 21 (by omega) (by omega) hmo
        obtain ⟨n, rfl⟩ := Int.eq_ofNat_of_zero_le n0
        have HK := Lib.hid hK
        have HN := Lib.hid hN
        obtain ⟨g, cp, he, hg1, hg2⟩ := World.ownsRow.form HO.out (by omega)
        injection he with e1 _ e2
        subst e1 e2
        obtain ⟨h1, h2⟩ := capv_get _ _ _ (capl_get 3 m q (by omega))
        have d0 := (HO.out.cellAt (q * 2) (by omega)).trans h1
        have d1 := (HO.out.cellAt (q * 2 + 1) (by omega)).trans h2
        have hqi : (q : Int) < m := q1
        have hq0 : (0 : Int) ≤ (q : Int) := q0
        have hm0 : ¬ (m : Int) = 0 := by omega
        have hcq : ((3 : Nat) : Int) * 1048576 + ((q : Int) + 1) = 3145728 + ((q : Int) + 1) := by omega
        dsimp only at d0 d1
        rw [hcq] at d1
        have hbn : b < wr.heap.size := HM.out.t.blt
        have ht00 := HM.out.t
        rw [← HMM.out] at ht00
        have HT00 := Lib.hid ht00
        have HHI := Lib.hid (show q + 1 ≤ rs.length ∧ rs.length ≤ 7 by have := HMM.out; omega)
        clear h1 h2 hcq hK hN ht00
        go_upto_region 6 with (fail)
        go_cut [34] (fun x wx => x = .bool false ∧ wx = wr)
        case first =>
          rcases hend with ⟨e1, e2⟩ | e1
          · go_wp2_with fail
            go_meet
            exact ⟨rfl, rfl⟩
          · go_wp2_with fail
            go_meet
            exact ⟨rfl, rfl⟩
        case rest =>
          obtain ⟨rfl, rfl⟩ := hcut
          clear hend
          go_wp2_with fail
          refine (HK.out _).mono ?_
          rintro e w' ⟨rfl, rfl⟩
          go_upto_region 15 with (fail)
          obtain ⟨wo, hwo⟩ : ∃ wo : World, wo = wc.alloc (.cells #[.int .i64 ((q : Int) + 1), .int .i64 (3145728 + ((q : Int) + 1))] 28) := ⟨_, rfl⟩
          rw [← hwo]
          have n0 : wo.cell? ⟨wc.heap.size, 0, none⟩ = some (.int .i64 ((q : Int) + 1)) := by rw [hwo]; go_simp
          have n1 : wo.cell? ⟨wc.heap.size, 1, none⟩ = some (.int .i64 (3145728 + ((q : Int) + 1))) := by rw [hwo]; go_simp
          have hbw0 : Below wc.heap.size wc wo := by rw [hwo]; exact (Below.refl _ _).alloc (Nat.le_refl _) _
          have hnl : wc.heap.size < wo.heap.size := by rw [hwo]; simp
          have HT0 := Lib.hid (HT00.out.below hbw0)
          have HBW := Lib.hid (HM.out.bel.trans (hbw0.mono HM.out.bel.size))
          obtain ⟨pb, hpb⟩ : ∃ pb, pb = wc.heap.size := ⟨_, rfl⟩
          rw [← hpb] at n0 n1 hnl hbn ⊢
          clear hwo hbw0 hpb d0 d1 HO
          have hnb : pb ≠ b := by omega
          have hwp : w.heap.size ≤ pb := by omega
          obtain ⟨f, hf⟩ : ∃ f, f = gone 3 rs (q + 1) := ⟨_, rfl⟩
          have HF := Lib.hid hf
          clear hf
          have HRT := Lib.hid (fun W (h : Below wo.heap.size wo W) => show Calls Try.prog 10 #[.pointer (some ⟨b, 0, none⟩)] W fun e w' => e = .returned (.agg #[.int .i64 0, .int .i64 3145728]) ∧ Below W.heap.size W w' by simpa using root_any b 3 (m + 1) (stL 3 rs) W (HT0.out.below h))
          have HRV := Lib.hid (fun W (h : Below wo.heap.size wo W) => show Calls Try.prog 19 #[.pointer (some ⟨b, 0, none⟩), .agg #[.int .i64 0, .int .i64 3145728], .agg #[.int .i64 ((q : Int) + 1), .int .i64 (3145728 + ((q : Int) + 1))]] W fun e w' => e = .returned (.int .i64 0) ∧ TAt w' b 3 (m + 1) f ∧ Only1 b W w' by
            have h1 := revoke_ok (HT0.out.below h) (stL_root 3 rs) (i := q + 1) (g := 3145728 + ((q : Int) + 1)) (by have := HHI.out; omega) (stL_used 3 rs HHI.out.1).1 (by rw [(stL_used 3 rs HHI.out.1).2]; simp)
            rw [HF.out]
            simpa [gone] using h1)
          have HRT2 := Lib.hid (fun G W (h : TAt W b 3 G f) => show Calls Try.prog 10 #[.pointer (some ⟨b, 0, none⟩)] W fun e w' => e = .returned (.agg #[.int .i64 0, .int .i64 3145728]) ∧ Below W.heap.size W w' by simpa using root_any b 3 G f W h)
          have hgd0 : gd f ((q : Int) + 1) (3145728 + ((q : Int) + 1)) = none := by
            rw [HF.out]
            have := gd_none (f := gone 3 rs (q + 1)) (i := q + 1) (g := 3145728 + ((q : Int) + 1)) (by unfold gone upd; rw [if_pos rfl]; simp)
            simpa using this
          have hroot : Rooted f 3 := by rw [HF.out]; exact gone_root 3 rs (by omega)
          have HRO := Lib.hid hroot
          have HGD0 := Lib.hid hgd0
          clear hgd0 hroot
          have HRV2 := Lib.hid (fun G W (h : TAt W b 3 G f) => show Calls Try.prog 19 #[.pointer (some ⟨b, 0, none⟩), .agg #[.int .i64 0, .int .i64 3145728], .agg #[.int .i64 ((q : Int) + 1), .int .i64 (3145728 + ((q : Int) + 1))]] W fun e w' => e = .returned (.int .i64 10) ∧ Below W.heap.size W w' by
            simpa using revoke_bad h HRO.out HGD0.out)
          go_cut [79] (fun x wx => x = .bool false ∧ TAt wx b 3 (m + 1) f ∧ wx.cell? ⟨pb, 0, none⟩ = some (.int .i64 ((q : Int) + 1)) ∧ wx.cell? ⟨pb, 1, none⟩ = some (.int .i64 (3145728 + ((q : Int) + 1))) ∧ Below w.heap.size w wx)
          case first =>
            go_region_held3 (fun w' => w'.cell? ⟨pb, 0, none⟩ = some (.int .i64 ((q : Int) + 1)) ∧ w'.cell? ⟨pb, 1, none⟩ = some (.int .i64 (3145728 + ((q : Int) + 1)))) (first | (go_keep; done) | (exact ⟨cell_below (w := w6) (by repeat (first | exact BG.out | exact Below.refl _ _ | with_reducible apply below_drew | with_reducible apply below_alloc0)) d5, cell_below (w := w6) (by repeat (first | exact BG.out | exact Below.refl _ _ | with_reducible apply below_drew | with_reducible apply below_alloc0)) d6⟩) | (exact ⟨cell_below (w := wo) (by repeat (first | exact BF.out | exact Below.refl _ _ | with_reducible apply below_drew | with_reducible apply below_alloc0)) n0, cell_below (w := wo) (by repeat (first | exact BF.out | exact Below.refl _ _ | with_reducible apply below_drew | with_reducible apply below_alloc0)) n1⟩)) (first | (go_at_call 10; refine (HRT2.out _ _ (HT6.out.below (by repeat (first | exact BG.out | exact Below.refl _ _ | with_reducible apply below_drew | with_reducible apply below_alloc0)))).mono ?_; rintro e w7 ⟨rfl, hbf⟩; have bf : Below w6.heap.size w6 w7 := below_then (by repeat (first | exact BG.out | exact Below.refl _ _ | with_reducible apply below_drew | with_reducible apply below_alloc0)) (by first | exact BG.out.size | exact BF.out.size | simp; done | omega | (simp; omega)) hbf; have BG := Lib.hid bf; clear hbf bf) | (go_at_call 10; refine (HRT.out _ (by repeat (first | exact BF.out | exact Below.refl _ _ | with_reducible apply below_drew | with_reducible apply below_alloc0))).mono ?_; rintro e w5 ⟨rfl, hbf⟩; have bf : Below wo.heap.size wo w5 := below_then (by repeat (first | exact BF.out | exact Below.refl _ _ | with_reducible apply below_drew | with_reducible apply below_alloc0)) (by first | exact BG.out.size | exact BF.out.size | simp; done | omega | (simp; omega)) hbf; have BF := Lib.hid bf; clear hbf bf) | (go_at_call 19; (fail_if_success (have := HT6)); refine (HRV.out _ (by repeat (first | exact BF.out | exact Below.refl _ _ | with_reducible apply below_drew | with_reducible apply below_alloc0))).mono ?_; rintro e w6 ⟨rfl, ht6, ho6⟩; have hO6 : Only1 b wo w6 := (Only1.of (by repeat (first | exact BF.out | exact Below.refl _ _ | with_reducible apply below_drew | with_reducible apply below_alloc0))).trans ho6; have d5 := (World.cell?_of_block (a := ⟨pb, 0, none⟩) (hO6.far pb hnl hnb)).trans n0; have d6 := (World.cell?_of_block (a := ⟨pb, 1, none⟩) (hO6.far pb hnl hnb)).trans n1; have HT6 := Lib.hid ht6; have HO6 := Lib.hid (HBW.out.trans (hO6.below hbw HBW.out.size)); clear ht6 ho6 hO6) | (go_at_call 19; refine (HRV2.out _ _ (HT6.out.below (by repeat (first | exact BG.out | exact Below.refl _ _ | with_reducible apply below_drew | with_reducible apply below_alloc0)))).mono ?_; rintro e w8 ⟨rfl, hbf⟩; have bf : Below w6.heap.size w6 w8 := below_then (by repeat (first | exact BG.out | exact Below.refl _ _ | with_reducible apply below_drew | with_reducible apply below_alloc0)) (by first | exact BG.out.size | exact BF.out.size | simp; done | omega | (simp; omega)) hbf; have BG := Lib.hid bf; clear hbf bf))
            all_goals (go_wp2_with fail; go_meet; exact ⟨rfl, HT6.out.below (by repeat (first | exact BG.out | exact Below.refl _ _ | with_reducible apply below_drew | with_reducible apply below_alloc0)), cell_below (w := w6) (by repeat (first | exact BG.out | exact Below.refl _ _ | with_reducible apply below_drew | with_reducible apply below_alloc0)) d5, cell_below (w := w6) (by repeat (first | exact BG.out | exact Below.refl _ _ | with_reducible apply below_drew | with_reducible apply below_alloc0)) d6, HO6.out.trans (Below.mono (by repeat (first | exact BG.out | exact Below.refl _ _ | with_reducible apply below_drew | with_reducible apply below_alloc0)) HO6.out.size)⟩)
          case rest =>
            obtain ⟨rfl, ht1, n0, n1, hb1⟩ := hcut
            have HT1 := Lib.hid ht1
            have HB1 := Lib.hid hb1
            have HN0 := Lib.hid n0
            have HN1 := Lib.hid n1
            clear ht1 hb1 HRT HRV HBW HT0 hnl n0 n1
            go_wp2_with fail
            refine (HN.out _).mono ?_
            rintro e w' ⟨rfl, rfl⟩
            go_wp2_with fail
            have HM4 := Lib.hid HMM.out
            have hmax2 : m ≤ 7 := by omega
            have hnn : n < 21 := by omega
            clear HM
            go_loopw [14, 15, 16] (fun c _ _ wr => ∃ (G i : Nat), c = .int .i64 i ∧ m + 1 ≤ G ∧ G + i ≤ 40 ∧ TAt wr b 3 G f ∧ wr.cell? ⟨pb, 0, none⟩ = some (.int .i64 ((q : Int) + 1)) ∧ wr.cell? ⟨pb, 1, none⟩ = some (.int .i64 (3145728 + ((q : Int) + 1))) ∧ Below w.heap.size w wr) (fun c _ _ _ => (intOf c).toNat)
            case atStart => exact ⟨m + 1, n, rfl, Nat.le_refl _, by omega, HT1.out, HN0.out, HN1.out, HB1.out⟩
            case round =>
              obtain ⟨G, i, rfl, hG1, hG2, ht, n0, n1, hb⟩ := hrel
              have HT2 := Lib.hid ht
              have HB2 := Lib.hid hb
              have hbl := ht.blt
              have hpbl := cell_lt n0
              clear ht hb HT1 HB1 HN0 HN1
              by_cases hi : 0 < i
              · obtain ⟨j, rfl⟩ : ∃ j, i = j + 1 := ⟨i - 1, by omega⟩
                have hji : (0 : Int) < ((j + 1 : Nat) : Int) := by omega
                obtain ⟨z, hz⟩ : ∃ z : Int, z = 3145728 + (G : Int) := ⟨_, rfl⟩
                have hzy : (z == 3145728 + ((q : Int) + 1)) = false := by
                  simp only [beq_eq_false_iff_ne, ne_eq]; omega
                obtain ⟨f2, hf2⟩ : ∃ f2, f2 = upd f (q + 1) (true, z, 15) := ⟨_, rfl⟩
                have HRT := Lib.hid (fun W (h : Below wr.heap.size wr W) => show Calls Try.prog 10 #[.pointer (some ⟨b, 0, none⟩)] W fun e w' => e = .returned (.agg #[.int .i64 0, .int .i64 3145728]) ∧ Below W.heap.size W w' by simpa using root_any b 3 G f W (HT2.out.below h))
                have HMI := Lib.hid (fun W (h : Below wr.heap.size wr W) => show Calls Try.prog 12 #[.pointer (some ⟨b, 0, none⟩), .agg #[.int .i64 0, .int .i64 3145728], .int .i64 15] W fun e w' =>
                    e = .returned (.tuple #[.agg #[.int .i64 ((q : Int) + 1), .int .i64 z], .int .i64 0]) ∧ TAt w' b 3 (G + 1) f2 ∧ Only1 b W w' by
                  have h1 := mint_ok (HT2.out.below h) HRO.out (r := 15) (by omega) (by omega) (i := q + 1) (by rw [HF.out]; exact gone_fre' 3 rs HHI.out.1 HHI.out.2) (by omega)
                  rw [hf2, hz]
                  simpa using h1)
                have HF2 := Lib.hid hf2
                have HZ := Lib.hid hz
                clear hf2 hz
                go_upto_region 20 with (fail)
                go_cut [15, 16] (fun p e wx => ∃ pc, wr.heap.size ≤ pc ∧ p = .pointer (some ⟨pc, 0, none⟩) ∧ e = .int .i64 0 ∧ wx.cell? ⟨pc, 0, none⟩ = some (.int .i64 ((q : Int) + 1)) ∧ wx.cell? ⟨pc, 1, none⟩ = some (.int .i64 z) ∧ TAt wx b 3 (G + 1) f2 ∧ Only1 b wr wx)
                case first =>
                  go_wp2_with fail
                  refine (HRT.out _ (Below.refl _ _)).mono ?_
                  rintro e w5 ⟨rfl, hb5⟩
                  have HB5 := Lib.hid hb5
                  clear hb5
                  go_wp2_with fail
                  refine (allr_any _).mono ?_
                  rintro e w7 ⟨rfl, hb7⟩
                  have HB7 := Lib.hid (HB5.out.trans (hb7.mono HB5.out.size))
                  clear hb7
                  go_wp2_with fail
                  refine (HMI.out _ HB7.out).mono ?_
                  rintro e w6 ⟨rfl, ht6, ho6⟩
                  have HT6 := Lib.hid ht6
                  have HO6 := Lib.hid ((Only1.of HB7.out).trans ho6)
                  clear ht6 ho6
                  go_wp2_with fail
                  go_meet
                  exact ⟨_, HO6.out.size, rfl, rfl, by go_simp, by go_simp, HT6.out.below ((Below.refl _ _).alloc (Nat.le_refl _) _), HO6.out.alloc _⟩

                case rest =>
                  obtain ⟨pc, hpc, rfl, rfl, p0, p1, ht2, ho2⟩ := hcut
                  obtain ⟨w2, hw2⟩ : ∃ w2 : World, w2 = wc := ⟨_, rfl⟩
                  rw [← hw2] at p0 p1 ht2 ho2 ⊢
                  clear hw2
                  have n0 := (World.cell?_of_block (a := ⟨pb, 0, none⟩) (ho2.far pb hpbl hnb)).trans n0
                  have n1 := (World.cell?_of_block (a := ⟨pb, 1, none⟩) (ho2.far pb hpbl hnb)).trans n1
                  have hbl2 := cell_lt n0
                  have hcl2 := cell_lt p0
                  have hnc : pc ≠ b := by omega
                  have HT3 := Lib.hid ht2
                  have HB3 := Lib.hid (HB2.out.trans (ho2.below hbw HB2.out.size))
                  clear ht2 ho2 HRT HMI
                  have HRT := Lib.hid (fun W (h : Below w2.heap.size w2 W) => show Calls Try.prog 10 #[.pointer (some ⟨b, 0, none⟩)] W fun e w' => e = .returned (.agg #[.int .i64 0, .int .i64 3145728]) ∧ Below W.heap.size W w' by simpa using root_any b 3 (G + 1) f2 W (HT3.out.below h))
                  have HCK := Lib.hid (fun W (h : Below w2.heap.size w2 W) => show Calls Try.prog 18 #[.pointer (some ⟨b, 0, none⟩), .agg #[.int .i64 ((q : Int) + 1), .int .i64 (3145728 + ((q : Int) + 1))], .int .i64 0] W fun e w' => e = .returned (.int .i64 10) ∧ Below W.heap.size W w' by
                    refine check_bad (HT3.out.below h) ?_
                    have := gd_none (f := f2) (i := q + 1) (g := 3145728 + ((q : Int) + 1)) (by
                      rw [HF2.out]; unfold upd; rw [if_pos rfl]; rintro ⟨_, h⟩; have := HZ.out; dsimp only at h; omega)
                    simpa using this)
                  have HRV := Lib.hid (fun W (h : Below w2.heap.size w2 W) => show Calls Try.prog 19 #[.pointer (some ⟨b, 0, none⟩), .agg #[.int .i64 0, .int .i64 3145728], .agg #[.int .i64 ((q : Int) + 1), .int .i64 z]] W fun e w' => e = .returned (.int .i64 0) ∧ TAt w' b 3 (G + 1) f ∧ Only1 b W w' by
                    have h1 := revoke_ok (HT3.out.below h) (show Rooted f2 3 by rw [HF2.out]; exact HRO.out.upd (by omega)) (i := q + 1) (g := z) (by have := HHI.out; omega) (by rw [HF2.out]; unfold upd; rw [if_pos rfl]) (by rw [HF2.out]; unfold upd; rw [if_pos rfl])
                    have e : upd f2 (q + 1) (false, 0, 0) = f := by rw [HF2.out, HF.out]; exact gone_back 3 rs (q + 1) _
                    rw [e] at h1
                    simpa using h1)
                  go_upto_region 21 with (fail)
                  go_cut [114] (fun x wx => x = .bool false ∧ TAt wx b 3 (G + 1) f ∧ wx.cell? ⟨pb, 0, none⟩ = some (.int .i64 ((q : Int) + 1)) ∧ wx.cell? ⟨pb, 1, none⟩ = some (.int .i64 (3145728 + ((q : Int) + 1))) ∧ Only1 b w2 wx)
                  case first =>
                    go_region_held3 (fun w' => w'.cell? ⟨pb, 0, none⟩ = some (.int .i64 ((q : Int) + 1)) ∧ w'.cell? ⟨pb, 1, none⟩ = some (.int .i64 (3145728 + ((q : Int) + 1))) ∧ w'.cell? ⟨pc, 0, none⟩ = some (.int .i64 ((q : Int) + 1)) ∧ w'.cell? ⟨pc, 1, none⟩ = some (.int .i64 z)) (first | (exact ⟨d0, d1, d2, d3⟩) | (exact ⟨cell_below (w := w2) (by repeat (first | exact BF.out | exact Below.refl _ _ | with_reducible apply below_drew | with_reducible apply below_alloc0)) n0, cell_below (w := w2) (by repeat (first | exact BF.out | exact Below.refl _ _ | with_reducible apply below_drew | with_reducible apply below_alloc0)) n1, cell_below (w := w2) (by repeat (first | exact BF.out | exact Below.refl _ _ | with_reducible apply below_drew | with_reducible apply below_alloc0)) p0, cell_below (w := w2) (by repeat (first | exact BF.out | exact Below.refl _ _ | with_reducible apply below_drew | with_reducible apply below_alloc0)) p1⟩) | (go_keep; done)) (first | (go_at_call 18; refine (HCK.out _ (by repeat (first | exact BF.out | exact Below.refl _ _ | with_reducible apply below_drew | with_reducible apply below_alloc0))).mono ?_; rintro e w5 ⟨rfl, hbf⟩; have bf : Below w2.heap.size w2 w5 := below_then (by repeat (first | exact BF.out | exact Below.refl _ _ | with_reducible apply below_drew | with_reducible apply below_alloc0)) (by first | exact BF.out.size | simp; done | omega | (simp; omega)) hbf; have BF := Lib.hid bf; clear hbf bf) | (go_at_call 10; refine (HRT.out _ (by repeat (first | exact BF.out | exact Below.refl _ _ | with_reducible apply below_drew | with_reducible apply below_alloc0))).mono ?_; rintro e w5 ⟨rfl, hbf⟩; have bf : Below w2.heap.size w2 w5 := below_then (by repeat (first | exact BF.out | exact Below.refl _ _ | with_reducible apply below_drew | with_reducible apply below_alloc0)) (by first | exact BF.out.size | simp; done | omega | (simp; omega)) hbf; have BF := Lib.hid bf; clear hbf bf) | (go_at_call 19; refine (HRV.out _ (by repeat (first | exact BF.out | exact Below.refl _ _ | with_reducible apply below_drew | with_reducible apply below_alloc0))).mono ?_; rintro e w6 ⟨rfl, ht6, ho6⟩; have hO6 : Only1 b w2 w6 := (Only1.of (by repeat (first | exact BF.out | exact Below.refl _ _ | with_reducible apply below_drew | with_reducible apply below_alloc0))).trans ho6; have d0 := (World.cell?_of_block (a := ⟨pb, 0, none⟩) (hO6.far pb hbl2 hnb)).trans n0; have d1 := (World.cell?_of_block (a := ⟨pb, 1, none⟩) (hO6.far pb hbl2 hnb)).trans n1; have d2 := (World.cell?_of_block (a := ⟨pc, 0, none⟩) (hO6.far pc hcl2 hnc)).trans p0; have d3 := (World.cell?_of_block (a := ⟨pc, 1, none⟩) (hO6.far pc hcl2 hnc)).trans p1; have HT6 := Lib.hid ht6; have HO6 := Lib.hid hO6; clear ht6 ho6 hO6))
                    all_goals (go_wp2_with fail; go_meet; exact ⟨rfl, HT6.out, d0, d1, HO6.out⟩)
                  case rest =>
                    obtain ⟨rfl, ht3, n0, n1, ho3⟩ := hcut
                    have HT4 := Lib.hid ht3
                    have HN0 := Lib.hid n0
                    have HN1 := Lib.hid n1
                    have HB4 := Lib.hid (HB3.out.trans (ho3.below hbw HB3.out.size))
                    clear ht3 n0 n1 ho3 HRT HCK HRV p0 p1
                    go_wp2_with fail
                    go_roundw
                    case rel => exact ⟨G + 1, j, by go_num, by omega, by omega, HT4.out, HN0.out, HN1.out, HB4.out⟩
                    case measure => simp [intOf]
              · have e : i = 0 := by omega
                subst e
                have HCK := Lib.hid (show Calls Try.prog 18 #[.pointer (some ⟨b, 0, none⟩), .agg #[.int .i64 ((q : Int) + 1), .int .i64 (3145728 + ((q : Int) + 1))], .int .i64 0] wr fun e w' => e = .returned (.int .i64 10) ∧ Below wr.heap.size wr w' from check_bad HT2.out HGD0.out)
                have HLV := Lib.hid (fun W (h : Below wr.heap.size wr W) => show Calls Try.prog 16 #[.pointer (some ⟨b, 0, none⟩)] W fun e w' => e = .returned (.int .i64 m) ∧ Below W.heap.size W w' by
                  have h1 := live_any b 3 G f W (HT2.out.below h)
                  have e : (live f 8).length = m := by rw [HF.out, HMM.out]; exact gone_live 3 rs (by omega) HHI.out.1 HHI.out.2
                  rw [e] at h1
                  exact h1)
                go_wp2_with fail
                refine HCK.out.mono ?_
                rintro e w5 ⟨rfl, hb5⟩
                have HB5 := Lib.hid hb5
                clear hb5 HCK
                go_wp2_with fail
                refine (HLV.out _ HB5.out).mono ?_
                rintro e w6 ⟨rfl, hb6⟩
                have HB6 := Lib.hid (HB2.out.trans ((HB5.out.trans (hb6.mono HB5.out.size)).mono HB2.out.size))
                clear hb6 HLV
                go_wp2_with (go_at_call 15; refine (lives_any _).mono ?_; rintro e w' ⟨rfl, hb⟩)
                go_ret
                exact ⟨rfl, HB6.out.trans (hb.mono HB6.out.size)⟩
end Go.Proofs.Ythdcffbifgifeaa
