-- PRINTED BY print.sh 35421559b90ae4d0a3588c463048766b98c2df88dd9212a6774a882060cdf62d: not written by this session
import Derived.Test.YtjbijljcolkioaaPRightsNeedsx0
import Derived.Test.YtjbijljcolkioaaPRightsNeedsx1
namespace Go.Proofs.Ytjbijljcolkioaa.PRightsNeeds
open Go.RowKit Go.Proofs.YtjbijljcolkioaaW.PrintWords Go.Proofs.YtjbijljcolkioaaW.PrintLast Go.Proofs.YtjbijljcolkioaaW.PrintMore
attribute [local go_sem] max2_int min2_int max_two min_two max_three min_three max_four min_four   -- for this text's walks alone
set_option linter.unusedVariables false
set_option linter.unusedSimpArgs false

/-! ### allotmentlaw16_RightsNeeds: function 5 -/
def allotmentlaw16_RightsNeeds.l0 : Nat → List Int → Int → Option (Bool)
  | 0, _, _ => none
  | k + 1, x3, x4 => if x4 < 3 then (if 0 ≤ x4 then (if x4 < (x3.length : Int) then ((rights_Needs.f k (rd x3 x4)).bind fun bt136 => ((allotmentref16_Needs.f (rd x3 x4)).bind fun t139 => (if bt136.1 = t139 then (if (bt136.2 != (decide (t139 > 0))) = true then (some false) else (allotmentlaw16_RightsNeeds.l0 k x3 (wrap64 (x4 + 1)))) else (some false)))) else (none)) else (none)) else ((allotmentlaw16_lives.f k).bind fun t134 => (some t134))
def allotmentlaw16_RightsNeeds.f (k : Nat) (a0 : Int) : Option (Bool) := (allotmentref01_Around.f a0 11).bind fun t130 => (allotmentlaw16_RightsNeeds.l0 k (([a0, t130, (-1)] : List Int)) 0)
theorem allotmentlaw16_RightsNeeds.mono_l : ∀ k, (∀ y0 y1, LeO (allotmentlaw16_RightsNeeds.l0 k y0 y1) (allotmentlaw16_RightsNeeds.l0 (k + 1) y0 y1))
  | 0 => fun _ _ r h => by simp [allotmentlaw16_RightsNeeds.l0] at h
  | k + 1 => by
    have ih0 := allotmentlaw16_RightsNeeds.mono_l k
    · intro y0 y1
      unfold allotmentlaw16_RightsNeeds.l0
      repeat' first
      | (with_reducible exact ih0 _ _)
      | (with_reducible exact allotmentlaw16_lives.mono _)
      | (with_reducible exact rights_Needs.mono _ _)
      | (with_reducible exact LeO.refl _)
      | (with_reducible exact LeO.none _)
      | (with_reducible refine LeO.ite ?_ ?_)
      | (with_reducible refine LeO.bind ?_ (fun _ => ?_))
      | exact ih0 _ _
      | exact allotmentlaw16_lives.mono _
      | exact rights_Needs.mono _ _
      | exact LeO.none _
      | refine LeO.ite ?_ ?_
      | refine LeO.bind ?_ (fun _ => ?_)
theorem allotmentlaw16_RightsNeeds.mono : ∀ a0 k, LeO (allotmentlaw16_RightsNeeds.f k a0) (allotmentlaw16_RightsNeeds.f (k + 1) a0) := by
  intro a0 k
  have ih0 := allotmentlaw16_RightsNeeds.mono_l k
  unfold allotmentlaw16_RightsNeeds.f
  repeat' first
      | (with_reducible exact ih0 _ _)
      | (with_reducible exact allotmentlaw16_lives.mono _)
      | (with_reducible exact rights_Needs.mono _ _)
      | (with_reducible exact LeO.refl _)
      | (with_reducible exact LeO.none _)
      | (with_reducible refine LeO.ite ?_ ?_)
      | (with_reducible refine LeO.bind ?_ (fun _ => ?_))
      | exact ih0 _ _
      | exact allotmentlaw16_lives.mono _
      | exact rights_Needs.mono _ _
      | exact LeO.none _
      | refine LeO.ite ?_ ?_
      | refine LeO.bind ?_ (fun _ => ?_)
set_option maxHeartbeats 8000000 in
set_option maxRecDepth 100000 in
theorem allotmentlaw16_RightsNeeds.calls (k : Nat) (a0 : Int) (r : Bool) (w : World) (h : allotmentlaw16_RightsNeeds.f k a0 = some r) :
    Calls Try.prog 5 #[.int .i64 a0] w fun e w' => e = .returned (.bool r) ∧ Below w.heap.size w w' := by
  have HB := Aside0.mk (Below.refl w.heap.size w)
  have H : ((allotmentref01_Around.f a0 11).bind fun t130 => (allotmentlaw16_RightsNeeds.l0 k (([a0, t130, (-1)] : List Int)) 0)) = some r := h
  clear h
  replace H := Option.bind_eq_some_iff.mp H
  obtain ⟨t130, A20, H⟩ := H
  replace H : (allotmentlaw16_RightsNeeds.l0 k (([a0, t130, (-1)] : List Int)) 0) = some r := H
  have A2 := Aside0.mk A20
  clear A20
  obtain ⟨y131, hy131⟩ : ∃ y_ : List Int, y_ = (([a0, t130, (-1)] : List Int)) := ⟨_, rfl⟩
  replace H : (allotmentlaw16_RightsNeeds.l0 k y131 0) = some r := by first | (rw [hy131]; with_reducible exact H) | (have H2_ := (Option.bind_some _ _).symm.trans H; rw [hy131]; with_reducible exact H2_) | (have H2_ := (Option.bind_some _ _).symm.trans H; with_reducible exact H2_) | with_reducible exact H | (rw [hy131]; exact H) | exact H
  have Ny131 := Aside0.mk hy131
  clear hy131
  have H' := Aside0.mk H
  clear H
  go_enter Try.func5, Try.ntmps5
  go_wp2_with (first | ((with_reducible refine gate_callee (f := 8) rfl ?_); refine goesL_ (some 10) rfl rfl Try.func8 (by kernel_rfl) rfl #[.int .i64 a0, .int .i64 11] rfl (by (try simp only [List.map_toArray, List.map_cons, List.map_nil]); first | done | rfl | (simp only [List.length_drop, List.length_take]; rfl)) ?_; (with_reducible refine (allotmentref01_Around.calls a0 11 t130 _ A2.out).mono ?_); rintro e w' ⟨rfl, ⟨nd, rfl⟩⟩; refine ⟨_, rfl, ?_⟩) | ((with_reducible refine gate_dst (N := 11) rfl ?_); refine Kd.R_lit (Kd.int .i64) _ 3 ?hg (N := 11) ?hd (xs := ([a0, t130, (-1)] : List Int)) (inner := [.int .i64 a0, .int .i64 t130, .int .i64 (-1)]) (ok := fun _ => True) (okp := fun _ => True) ?hr ?hp (fun _ hk => hk) trivial (Below.refl _ _) (Nat.le_refl _) (by simp) ?_; (case hd => rfl); (case hg => rfl); (case hr => first | (go_simp; done) | (go_simp; rfl)); (case hp => exact (Reps.one (show Kd.M (Kd.int .i64) _ _ _ a0 [.int .i64 a0] from rfl) (Reps.one (show Kd.M (Kd.int .i64) _ _ _ t130 [.int .i64 t130] from rfl) (Reps.one (show Kd.M (Kd.int .i64) _ _ _ (-1) [.int .i64 (-1)] from rfl) (Reps.none _ _))))); intro v132 w3 ho4 hb hg_ hnew_; clear hg_ hnew_; (first | rw [← Ny131.out] at ho4 | (simp only [Int.reduceToNat] at ho4; rw [← Ny131.out] at ho4)); have n0_ := Aside0.mk (Kd.R_lower ho4 (below_size (by repeat (first | (with_reducible first | exact HB.out | apply below_alloc | apply pw_below_drewN | apply below_drew1) | exact HB.out)))); have n1_ := Aside0.mk (below_step (by repeat (first | (with_reducible first | exact HB.out | apply below_alloc | apply pw_below_drewN | apply below_drew1) | exact HB.out)) hb); clear HB; have HO133 := n0_; have HB := n1_; clear n0_ n1_; clear hb ho4))
  go_loopg [4] k (fun kq v4 w' => ∃ (x4_1 : Int), v4 = .int .i64 x4_1 ∧ Aside0 (allotmentlaw16_RightsNeeds.l0 kq y131 x4_1 = some r) ∧ Aside0 (kq ≤ k) ∧ Aside0 (Kd.R (Kd.int .i64) 3 w' w.heap.size (fun _ => True) v132 y131) ∧ Aside0 (Below w.heap.size w w'))
  case atStart => exact ⟨(0), (by first | rfl | (simp; done) | (simp [*]; done)), H', ⟨Nat.le_refl _⟩, ⟨by (with_reducible repeat (first | apply Kd.R_alloc | apply Kd.R_drewN | apply Kd.R_drew)); exact HO133.out⟩, ⟨by repeat (first | (with_reducible first | exact HB.out | apply below_alloc | apply pw_below_drewN | apply below_drew1) | exact HB.out)⟩⟩
  case round =>
    clear H'
    try clear p2
    obtain ⟨x4_1, rfl, HA, HK1, HO_3, HB⟩ := hrel
    cases gk with
    | zero => exact absurd HA.out (by simp [allotmentlaw16_RightsNeeds.l0])
    | succ k1 =>
      have H := HA.out
      clear HA
      simp only [allotmentlaw16_RightsNeeds.l0] at H
      by_cases c5 : x4_1 < 3
      · rw [if_pos c5] at H
        have c5b0 : decide (x4_1 < 3) = true := decide_eq_true c5
        clear c5
        by_cases c6 : 0 ≤ x4_1
        · rw [if_pos c6] at H
          have c6b0 : decide (0 ≤ x4_1) = true := decide_eq_true c6
          clear c6
          by_cases c7 : x4_1 < (y131.length : Int)
          · rw [if_pos c7] at H
            have c7b0 : decide (x4_1 < (y131.length : Int)) = true := decide_eq_true c7
            clear c7
            replace H := Option.bind_eq_some_iff.mp H
            obtain ⟨⟨t136, t137⟩, A80, H⟩ := H
            replace H : ((allotmentref16_Needs.f (rd y131 x4_1)).bind fun t139 => (if t136 = t139 then (if (t137 != (decide (t139 > 0))) = true then (some false) else (allotmentlaw16_RightsNeeds.l0 k1 y131 (wrap64 (x4_1 + 1)))) else (some false))) = some r := H
            have A8 := Aside0.mk A80
            clear A80
            replace H := Option.bind_eq_some_iff.mp H
            obtain ⟨t139, A90, H⟩ := H
            replace H : (if t136 = t139 then (if (t137 != (decide (t139 > 0))) = true then (some false) else (allotmentlaw16_RightsNeeds.l0 k1 y131 (wrap64 (x4_1 + 1)))) else (some false)) = some r := H
            have A9 := Aside0.mk A90
            clear A90
            by_cases c10 : t136 = t139
            · rw [if_pos c10] at H
              have c10b0 : (t136 == t139) = true := beq_iff_eq.mpr c10
              have c10b1 : (t136 != t139) = false := bne_eq_false_iff_eq.mpr c10
              clear c10
              by_cases c11 : (t137 != (decide (t139 > 0))) = true
              · rw [if_pos c11] at H
                have c11b0 : (t137 != (decide (t139 > 0))) = true := c11
                (try (have c11b1 : decide (t137 = (decide (t139 > 0))) = false := by simpa using c11))
                (try (have c11b2 : (t137 == (decide (t139 > 0))) = false := by simpa using c11))
                (try (have c11b3 : ¬ (t137 = (decide (t139 > 0))) := by simpa using c11))
                clear c11
                obtain rfl := Option.some.inj H
                obtain ⟨Ao12, co12, eo12⟩ := Kd.R_slice HO_3.out
                subst eo12
                have p135 : 0 ≤ (x4_1 : Int) := of_decide_eq_true (by first | (with_reducible assumption) | assumption)
                have q135 : x4_1 < (y131.length : Int) := of_decide_eq_true (by first | (with_reducible assumption) | assumption)
                obtain ⟨ad135, e135, hx135_0⟩ := Kd.at_int (Kd.R_reads' HO_3.out).2.2 x4_1 p135 q135
                cases e135
                replace p135 := eq_true p135
                replace q135 := eq_true q135
                go_wp2_with (first | ((with_reducible refine gate_callee (f := 17) rfl ?_); refine goesL_ (some 21) rfl rfl Try.func17 (by kernel_rfl) rfl #[.int .i64 (rd y131 x4_1)] rfl (by (try simp only [List.map_toArray, List.map_cons, List.map_nil]); first | done | rfl | (simp only [List.length_drop, List.length_take]; rfl)) ?_; (with_reducible refine (rights_Needs.calls k1 (rd y131 x4_1) t136 t137 _ A8.out).mono ?_); rintro e w' ⟨rfl, ⟨nd, rfl⟩⟩; refine ⟨_, rfl, ?_⟩; have p138 : 0 ≤ (x4_1 : Int) := of_decide_eq_true (by first | (with_reducible assumption) | assumption); have q138 : x4_1 < (y131.length : Int) := of_decide_eq_true (by first | (with_reducible assumption) | assumption); obtain ⟨ad138, e138, hx138_0⟩ := Kd.at_int (Kd.R_reads' HO_3.out).2.2 x4_1 p138 q138; obtain rfl : ad135 = ad138 := (by injection e138); replace p138 := eq_true p138; replace q138 := eq_true q138) | ((with_reducible refine gate_callee (f := 18) rfl ?_); refine goesL_ (some 28) rfl rfl Try.func18 (by kernel_rfl) rfl #[.int .i64 (rd y131 x4_1)] rfl (by (try simp only [List.map_toArray, List.map_cons, List.map_nil]); first | done | rfl | (simp only [List.length_drop, List.length_take]; rfl)) ?_; (with_reducible refine (allotmentref16_Needs.calls (rd y131 x4_1) t139 _ A9.out).mono ?_); rintro e w13 ⟨rfl, hb⟩; refine ⟨_, rfl, ?_⟩; have n0_ := Aside0.mk (Kd.R_below (by (with_reducible repeat (first | apply Kd.R_alloc | apply Kd.R_drewN | apply Kd.R_drew)); exact HO_3.out) hb); have n1_ := Aside0.mk (below_step (by repeat (first | (with_reducible first | exact HB.out | apply below_alloc | apply pw_below_drewN | apply below_drew1) | exact HB.out)) hb); clear HO_3; clear HB; have HO_3 := n0_; have HB := n1_; clear n0_ n1_; (try clear hb); (try clear hb2); (try clear hk); (try clear hi)))
                go_ret
                exact ⟨by first | rfl | (simp [errW_none, errW_some] <;> rfl) | (simp [*, errW_none, errW_some] <;> rfl), by repeat (first | (with_reducible first | exact HB.out | apply below_alloc | apply pw_below_drewN | apply below_drew1) | exact HB.out)⟩
              · rw [if_neg c11] at H
                have c11b0 : (t137 != (decide (t139 > 0))) = false := by simpa using c11
                (try (have c11b1 : decide (t137 = (decide (t139 > 0))) = true := by simpa using c11))
                (try (have c11b2 : (t137 == (decide (t139 > 0))) = true := by simpa using c11))
                clear c11
                have H' := Aside0.mk H
                clear H
                obtain ⟨Ao14, co14, eo14⟩ := Kd.R_slice HO_3.out
                subst eo14
                have p135 : 0 ≤ (x4_1 : Int) := of_decide_eq_true (by first | (with_reducible assumption) | assumption)
                have q135 : x4_1 < (y131.length : Int) := of_decide_eq_true (by first | (with_reducible assumption) | assumption)
                obtain ⟨ad135, e135, hx135_0⟩ := Kd.at_int (Kd.R_reads' HO_3.out).2.2 x4_1 p135 q135
                cases e135
                replace p135 := eq_true p135
                replace q135 := eq_true q135
                go_wp2_with (first | ((with_reducible refine gate_callee (f := 17) rfl ?_); refine goesL_ (some 21) rfl rfl Try.func17 (by kernel_rfl) rfl #[.int .i64 (rd y131 x4_1)] rfl (by (try simp only [List.map_toArray, List.map_cons, List.map_nil]); first | done | rfl | (simp only [List.length_drop, List.length_take]; rfl)) ?_; (with_reducible refine (rights_Needs.calls k1 (rd y131 x4_1) t136 t137 _ A8.out).mono ?_); rintro e w' ⟨rfl, ⟨nd, rfl⟩⟩; refine ⟨_, rfl, ?_⟩; have p138 : 0 ≤ (x4_1 : Int) := of_decide_eq_true (by first | (with_reducible assumption) | assumption); have q138 : x4_1 < (y131.length : Int) := of_decide_eq_true (by first | (with_reducible assumption) | assumption); obtain ⟨ad138, e138, hx138_0⟩ := Kd.at_int (Kd.R_reads' HO_3.out).2.2 x4_1 p138 q138; obtain rfl : ad135 = ad138 := (by injection e138); replace p138 := eq_true p138; replace q138 := eq_true q138) | ((with_reducible refine gate_callee (f := 18) rfl ?_); refine goesL_ (some 28) rfl rfl Try.func18 (by kernel_rfl) rfl #[.int .i64 (rd y131 x4_1)] rfl (by (try simp only [List.map_toArray, List.map_cons, List.map_nil]); first | done | rfl | (simp only [List.length_drop, List.length_take]; rfl)) ?_; (with_reducible refine (allotmentref16_Needs.calls (rd y131 x4_1) t139 _ A9.out).mono ?_); rintro e w15 ⟨rfl, hb⟩; refine ⟨_, rfl, ?_⟩; have n0_ := Aside0.mk (Kd.R_below (by (with_reducible repeat (first | apply Kd.R_alloc | apply Kd.R_drewN | apply Kd.R_drew)); exact HO_3.out) hb); have n1_ := Aside0.mk (below_step (by repeat (first | (with_reducible first | exact HB.out | apply below_alloc | apply pw_below_drewN | apply below_drew1) | exact HB.out)) hb); clear HO_3; clear HB; have HO_3 := n0_; have HB := n1_; clear n0_ n1_; (try clear hb); (try clear hb2); (try clear hk); (try clear hi)))
                go_roundg k1
                case measure => have := HK1.out; omega
                case rel => exact ⟨(wrap64 (x4_1 + 1)), (by first | rfl | (simp; done) | (simp [*]; done)), H', ⟨by have := HK1.out; omega⟩, ⟨by (with_reducible repeat (first | apply Kd.R_alloc | apply Kd.R_drewN | apply Kd.R_drew)); exact HO_3.out⟩, ⟨by repeat (first | (with_reducible first | exact HB.out | apply below_alloc | apply pw_below_drewN | apply below_drew1) | exact HB.out)⟩⟩
            · rw [if_neg c10] at H
              have c10b0 : (t136 == t139) = false := beq_eq_false_iff_ne.mpr c10
              have c10b1 : (t136 != t139) = true := bne_iff_ne.mpr c10
              obtain rfl := Option.some.inj H
              obtain ⟨Ao16, co16, eo16⟩ := Kd.R_slice HO_3.out
              subst eo16
              have p135 : 0 ≤ (x4_1 : Int) := of_decide_eq_true (by first | (with_reducible assumption) | assumption)
              have q135 : x4_1 < (y131.length : Int) := of_decide_eq_true (by first | (with_reducible assumption) | assumption)
              obtain ⟨ad135, e135, hx135_0⟩ := Kd.at_int (Kd.R_reads' HO_3.out).2.2 x4_1 p135 q135
              cases e135
              replace p135 := eq_true p135
              replace q135 := eq_true q135
              go_wp2_with (first | ((with_reducible refine gate_callee (f := 17) rfl ?_); refine goesL_ (some 21) rfl rfl Try.func17 (by kernel_rfl) rfl #[.int .i64 (rd y131 x4_1)] rfl (by (try simp only [List.map_toArray, List.map_cons, List.map_nil]); first | done | rfl | (simp only [List.length_drop, List.length_take]; rfl)) ?_; (with_reducible refine (rights_Needs.calls k1 (rd y131 x4_1) t136 t137 _ A8.out).mono ?_); rintro e w' ⟨rfl, ⟨nd, rfl⟩⟩; refine ⟨_, rfl, ?_⟩; have p138 : 0 ≤ (x4_1 : Int) := of_decide_eq_true (by first | (with_reducible assumption) | assumption); have q138 : x4_1 < (y131.length : Int) := of_decide_eq_true (by first | (with_reducible assumption) | assumption); obtain ⟨ad138, e138, hx138_0⟩ := Kd.at_int (Kd.R_reads' HO_3.out).2.2 x4_1 p138 q138; obtain rfl : ad135 = ad138 := (by injection e138); replace p138 := eq_true p138; replace q138 := eq_true q138) | ((with_reducible refine gate_callee (f := 18) rfl ?_); refine goesL_ (some 28) rfl rfl Try.func18 (by kernel_rfl) rfl #[.int .i64 (rd y131 x4_1)] rfl (by (try simp only [List.map_toArray, List.map_cons, List.map_nil]); first | done | rfl | (simp only [List.length_drop, List.length_take]; rfl)) ?_; (with_reducible refine (allotmentref16_Needs.calls (rd y131 x4_1) t139 _ A9.out).mono ?_); rintro e w17 ⟨rfl, hb⟩; refine ⟨_, rfl, ?_⟩; have n0_ := Aside0.mk (Kd.R_below (by (with_reducible repeat (first | apply Kd.R_alloc | apply Kd.R_drewN | apply Kd.R_drew)); exact HO_3.out) hb); have n1_ := Aside0.mk (below_step (by repeat (first | (with_reducible first | exact HB.out | apply below_alloc | apply pw_below_drewN | apply below_drew1) | exact HB.out)) hb); clear HO_3; clear HB; have HO_3 := n0_; have HB := n1_; clear n0_ n1_; (try clear hb); (try clear hb2); (try clear hk); (try clear hi)))
              go_ret
              exact ⟨by first | rfl | (simp [errW_none, errW_some] <;> rfl) | (simp [*, errW_none, errW_some] <;> rfl), by repeat (first | (with_reducible first | exact HB.out | apply below_alloc | apply pw_below_drewN | apply below_drew1) | exact HB.out)⟩
          · rw [if_neg c7] at H
            exact absurd H (by simp)
        · rw [if_neg c6] at H
          exact absurd H (by simp)
      · rw [if_neg c5] at H
        have c5b0 : decide (x4_1 < 3) = false := decide_eq_false c5
        clear c5
        replace H := Option.bind_eq_some_iff.mp H
        obtain ⟨t134, A180, H⟩ := H
        replace H : (some t134) = some r := H
        have A18 := Aside0.mk A180
        clear A180
        obtain rfl := Option.some.inj H
        go_wp2_with (first | ((with_reducible refine gate_callee (f := 13) rfl ?_); refine goesL_ (some 38) rfl rfl Try.func13 (by kernel_rfl) rfl #[] rfl (by (try simp only [List.map_toArray, List.map_cons, List.map_nil]); first | done | rfl | (simp only [List.length_drop, List.length_take]; rfl)) ?_; (with_reducible refine (allotmentlaw16_lives.calls k1  t134 _ A18.out).mono ?_); rintro e w19 ⟨rfl, hb⟩; refine ⟨_, rfl, ?_⟩; have n0_ := Aside0.mk (Kd.R_below (by (with_reducible repeat (first | apply Kd.R_alloc | apply Kd.R_drewN | apply Kd.R_drew)); exact HO_3.out) hb); have n1_ := Aside0.mk (below_step (by repeat (first | (with_reducible first | exact HB.out | apply below_alloc | apply pw_below_drewN | apply below_drew1) | exact HB.out)) hb); clear HO_3; clear HB; have HO_3 := n0_; have HB := n1_; clear n0_ n1_; (try clear hb); (try clear hb2); (try clear hk); (try clear hi)))
        go_ret
        exact ⟨by first | rfl | (simp [errW_none, errW_some] <;> rfl) | (simp [*, errW_none, errW_some] <;> rfl), by repeat (first | (with_reducible first | exact HB.out | apply below_alloc | apply pw_below_drewN | apply below_drew1) | exact HB.out)⟩

/-- THE ONE PURE STATEMENT of allotmentlaw16_RightsNeeds: yours. -/
def allotmentlaw16_RightsNeeds.Pure : Prop := ∀ (a0 : Int), (Lit.int .i64 a0).wf = true → ∃ k, allotmentlaw16_RightsNeeds.f k a0 = some true
theorem allotmentlaw16_RightsNeeds.walk (P : allotmentlaw16_RightsNeeds.Pure) (a0 : Int) (w : World) (w0 : (Lit.int .i64 a0).wf = true) :
    Calls Try.prog 5 #[.int .i64 a0] w fun e w' => e = .returned (.bool true) ∧ Below w.heap.size w w' := by
  obtain ⟨k, h⟩ := P a0 w0
  refine (allotmentlaw16_RightsNeeds.calls k a0 true w h).mono ?_
  rintro e w' ⟨rfl, hd⟩
  exact ⟨rfl, hd⟩

end Go.Proofs.Ytjbijljcolkioaa.PRightsNeeds
