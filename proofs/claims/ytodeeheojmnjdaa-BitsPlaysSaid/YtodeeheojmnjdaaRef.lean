/- The document's stream (allotmentref03): Next and Add. -/
import Derived.Test.YtodeeheojmnjdaaLawOwns
namespace Go.Proofs.Ytodeeheojmnjdaa
open Go.RowKit
set_option linter.unusedVariables false

theorem ref_next_none (j : Nat) (v : Value) (B : Nat) (w : World) (H : BB w B v []) :
    Calls Try.prog 11 #[.agg #[v, .int .i64 j]] w fun e w' => e = .returned (.tuple #[.agg #[v, .int .i64 j], .bool false]) ∧ Below w.heap.size w w' := by
  obtain ⟨A, c, rfl, _⟩ := H
  go_enter Try.func11, Try.ntmps11
  go_wp2
  refine bodyPost_ret (v := .tuple #[.agg #[.slice A 0 c, .int .i64 j], .bool false]) (by simp [results, Try.results11, go_sem]) rfl ⟨rfl, ?_⟩
  exact ((Below.refl w.heap.size w).alloc (Nat.le_refl _) _).alloc (by simp) _

theorem ref_next_one (j : Nat) (y : Bool) (b o : Nat) (w : World) (d0 : w.cell? ⟨b, o, none⟩ = some (.bool y)) (hj : j ≤ 1000) :
    Calls Try.prog 11 #[.agg #[.slice (some ⟨b, o, none⟩) 1 1, .int .i64 j]] w fun e w' => e = .returned (.tuple #[.agg #[.slice (some ⟨b, o, none⟩) 0 0, .int .i64 ((j : Int) + 1)], .bool y]) ∧ Below w.heap.size w w' := by
  have hlt := cell_lt d0
  obtain ⟨wo, hwo⟩ : ∃ wo : World, wo = (w.alloc (.cells #[.slice (some ⟨b, o, none⟩) 1 1, .int .i64 j] 28)).alloc (.cells #[.slice none 0 0, .int .i64 0] 28) := ⟨_, rfl⟩
  have hb2 : Below w.heap.size w wo := by rw [hwo]; exact ((Below.refl w.heap.size w).alloc (Nat.le_refl _) _).alloc (by simp) _
  have HB := Lib.hid hb2
  have hsz : wo.heap.size = w.heap.size + 1 + 1 := by rw [hwo]; simp
  have c0 : wo.cell? ⟨w.heap.size, 0, none⟩ = some (.slice (some ⟨b, o, none⟩) 1 1) := by rw [hwo]; go_simp
  have c1 : wo.cell? ⟨w.heap.size, 1, none⟩ = some (.int .i64 j) := by rw [hwo]; go_simp
  have c2 : wo.cell? ⟨w.heap.size + 1, 0, none⟩ = some (.slice none 0 0) := by rw [hwo]; go_simp
  have c3 : wo.cell? ⟨w.heap.size + 1, 1, none⟩ = some (.int .i64 0) := by rw [hwo]; go_simp
  have f2 : wo.frozen? ⟨w.heap.size + 1, 0, none⟩ = false := by rw [hwo]; go_simp
  have f3 : wo.frozen? ⟨w.heap.size + 1, 1, none⟩ = false := by rw [hwo]; go_simp
  have d1 : wo.cell? ⟨b, o, none⟩ = some (.bool y) := cell_below hb2 d0
  have HWO := Lib.hid hwo
  clear d0 hb2 hwo
  have n0 : w.heap.size ≠ w.heap.size + 1 := by omega
  have n1 : b ≠ w.heap.size + 1 := by omega
  have hj1 : IntKind.i64.wrap ((j : Int) + 1) = (j : Int) + 1 := by rw [IntKind.wrap_i64]; omega
  go_enter Try.func11, Try.ntmps11
  go_upto_region 3 with (fail)
  rw [← HWO.out]
  go_cut [3] (fun a wx => a = .bool y ∧ wx.cell? ⟨w.heap.size + 1, 0, none⟩ = some (.slice (some ⟨b, o, none⟩) 0 0) ∧ wx.cell? ⟨w.heap.size + 1, 1, none⟩ = some (.int .i64 ((j : Int) + 1)) ∧ Below w.heap.size w wx ∧ w.heap.size + 1 < wx.heap.size)
  case first =>
    go_region_held3 (fun w' => w'.cell? ⟨w.heap.size, 0, none⟩ = some (.slice (some ⟨b, o, none⟩) 1 1) ∧ w'.cell? ⟨w.heap.size, 1, none⟩ = some (Value.int .i64 j) ∧ w'.cell? ⟨b, o, none⟩ = some (.bool y) ∧ (∃ u, w'.cell? ⟨w.heap.size + 1, 0, none⟩ = some u) ∧ (∃ u, w'.cell? ⟨w.heap.size + 1, 1, none⟩ = some u) ∧ w'.frozen? ⟨w.heap.size + 1, 0, none⟩ = false ∧ w'.frozen? ⟨w.heap.size + 1, 1, none⟩ = false) (first | (go_keep; done) | (refine ⟨?_, ?_, ?_, ?_, ?_, ?_, ?_⟩ <;> (go_simp; done))) (fail)
    all_goals (go_wp2_with fail; go_meet; exact ⟨rfl, by go_simp, by go_simp, (by repeat (first | exact HB.out | apply below_drew | refine Below.setCell ?_ (show w.heap.size ≤ w.heap.size + 1 by omega) _)), by simp; omega⟩)
  case rest =>
    obtain ⟨rfl, g0, g1, hbw, hsw⟩ := hcut
    have HBW := Lib.hid hbw
    clear hbw
    go_wp2
    refine bodyPost_ret (v := .tuple #[.agg #[.slice (some ⟨b, o, none⟩) 0 0, .int .i64 ((j : Int) + 1)], .bool y]) (by simp [results, Try.results11, go_sem, g0, g1]) rfl ⟨rfl, HBW.out⟩

theorem ref_next_more (j : Nat) (y : Bool) (b o n c : Nat) (w : World) (d0 : w.cell? ⟨b, o, none⟩ = some (.bool y)) (hj : j ≤ 1000) (hn2 : 1 ≤ n) (h1 : n ≤ c) (h2 : c ≤ 9223372036854775807) (hc1 : ¬ c = 1) :
    Calls Try.prog 11 #[.agg #[.slice (some ⟨b, o, none⟩) n c, .int .i64 j]] w fun e w' => e = .returned (.tuple #[.agg #[.slice (some ⟨b, o + 1, none⟩) (n - 1) (c - 1), .int .i64 ((j : Int) + 1)], .bool y]) ∧ Below w.heap.size w w' := by
  have hlt := cell_lt d0
  have hn0 : ((n : Nat) : Int) ≠ 0 := by omega
  have hn1 : (1 : Int) ≤ (n : Int) := by omega
  have hn4 : 0 < n := by omega
  have hn5 : ¬ n = 0 := by omega
  have hn3 : (0 : Int) < (n : Int) := by omega
  have hni : (n : Int) ≤ (c : Int) := by omega
  have hne : ((n : Int) == 0) = false := by simp; omega
  have hcc : (1 : Int) ≤ (c : Int) := by omega
  have hc2 : ¬ c - 1 = 0 := by omega
  obtain ⟨wo, hwo⟩ : ∃ wo : World, wo = (w.alloc (.cells #[.slice (some ⟨b, o, none⟩) n c, .int .i64 j] 28)).alloc (.cells #[.slice none 0 0, .int .i64 0] 28) := ⟨_, rfl⟩
  have hb2 : Below w.heap.size w wo := by rw [hwo]; exact ((Below.refl w.heap.size w).alloc (Nat.le_refl _) _).alloc (by simp) _
  have HB := Lib.hid hb2
  have hsz : wo.heap.size = w.heap.size + 1 + 1 := by rw [hwo]; simp
  have c0 : wo.cell? ⟨w.heap.size, 0, none⟩ = some (.slice (some ⟨b, o, none⟩) n c) := by rw [hwo]; go_simp
  have c1 : wo.cell? ⟨w.heap.size, 1, none⟩ = some (.int .i64 j) := by rw [hwo]; go_simp
  have c2 : wo.cell? ⟨w.heap.size + 1, 0, none⟩ = some (.slice none 0 0) := by rw [hwo]; go_simp
  have c3 : wo.cell? ⟨w.heap.size + 1, 1, none⟩ = some (.int .i64 0) := by rw [hwo]; go_simp
  have f2 : wo.frozen? ⟨w.heap.size + 1, 0, none⟩ = false := by rw [hwo]; go_simp
  have f3 : wo.frozen? ⟨w.heap.size + 1, 1, none⟩ = false := by rw [hwo]; go_simp
  have d1 : wo.cell? ⟨b, o, none⟩ = some (.bool y) := cell_below hb2 d0
  have HWO := Lib.hid hwo
  clear d0 hb2 hwo
  have n0 : w.heap.size ≠ w.heap.size + 1 := by omega
  have n1 : b ≠ w.heap.size + 1 := by omega
  have hj1 : IntKind.i64.wrap ((j : Int) + 1) = (j : Int) + 1 := by rw [IntKind.wrap_i64]; omega
  go_enter Try.func11, Try.ntmps11
  go_upto_region 3 with (fail)
  rw [← HWO.out]
  go_cut [3] (fun a wx => a = .bool y ∧ wx.cell? ⟨w.heap.size + 1, 0, none⟩ = some (.slice (some ⟨b, o + 1, none⟩) (n - 1) (c - 1)) ∧ wx.cell? ⟨w.heap.size + 1, 1, none⟩ = some (.int .i64 ((j : Int) + 1)) ∧ Below w.heap.size w wx ∧ w.heap.size + 1 < wx.heap.size)
  case first =>
    go_region_held3 (fun w' => w'.cell? ⟨w.heap.size, 0, none⟩ = some (.slice (some ⟨b, o, none⟩) n c) ∧ w'.cell? ⟨w.heap.size, 1, none⟩ = some (Value.int .i64 j) ∧ w'.cell? ⟨b, o, none⟩ = some (.bool y) ∧ (∃ u, w'.cell? ⟨w.heap.size + 1, 0, none⟩ = some u) ∧ (∃ u, w'.cell? ⟨w.heap.size + 1, 1, none⟩ = some u) ∧ w'.frozen? ⟨w.heap.size + 1, 0, none⟩ = false ∧ w'.frozen? ⟨w.heap.size + 1, 1, none⟩ = false) (first | (go_keep; done) | (refine ⟨?_, ?_, ?_, ?_, ?_, ?_, ?_⟩ <;> (go_simp; done))) (fail)
    all_goals (go_wp2_with fail; go_meet; exact ⟨rfl, by go_simp, by go_simp, (by repeat (first | exact HB.out | apply below_drew | refine Below.setCell ?_ (show w.heap.size ≤ w.heap.size + 1 by omega) _)), by simp; omega⟩)
  case rest =>
    obtain ⟨rfl, g0, g1, hbw, hsw⟩ := hcut
    have HBW := Lib.hid hbw
    clear hbw
    go_wp2
    refine bodyPost_ret (v := .tuple #[.agg #[.slice (some ⟨b, o + 1, none⟩) (n - 1) (c - 1), .int .i64 ((j : Int) + 1)], .bool y]) (by simp [results, Try.results11, go_sem, g0, g1]) rfl ⟨rfl, HBW.out⟩

theorem ref_next_some (j : Nat) (v : Value) (B : Nat) (L : List Bool) (w : World) (H : BB w B v L) (hL : 0 < L.length) (hj : j ≤ 1000) :
    Calls Try.prog 11 #[.agg #[v, .int .i64 j]] w fun e w' => ∃ v', e = .returned (.tuple #[.agg #[v', .int .i64 ((j : Int) + 1)], .bool (L.getD 0 false)]) ∧ BB w' B v' (L.drop 1) ∧ Below w.heap.size w w' := by
  obtain ⟨A, c, rfl, h1, h2⟩ := H.shape
  obtain ⟨b, o, rfl, hb⟩ := H.ptr (by omega)
  obtain ⟨b', o', e, _, hc⟩ := H.at hL
  injection e with e
  injection e with e1 e2
  subst e1 e2
  have d0 := hc 0 hL
  rw [Nat.add_zero] at d0
  by_cases hc1 : c = 1
  · subst hc1
    have hl1 : L.length = 1 := by omega
    rw [hl1]
    refine (ref_next_one j _ b o w d0 hj).mono ?_
    rintro e w' ⟨rfl, hb'⟩
    refine ⟨_, rfl, ?_, hb'⟩
    rw [List.drop_eq_nil_of_le (by omega)]
    exact ⟨_, 0, rfl, by simp, by simp, by simp, by simp⟩
  · refine (ref_next_more j _ b o L.length c w d0 hj (by omega) h1 h2 hc1).mono ?_
    rintro e w' ⟨rfl, hb'⟩
    exact ⟨_, rfl, (H.drop (k := 1) (by omega)).below hb', hb'⟩

section
variable {ops : Array Oper} {o : Oper} {a : Act} {K : Act → World → Prop} {Q : Exit → Act → World → Prop} {E : Prop}
/-- As one step of a region that draws its order. -/
theorem step_bb {W : World} {base B n : Nat} {v y : Value} {xs : List Value} {ys : List Bool} (hgd : o.guard = none) (s x : Operand)
    (ho : o.op = .call { callee := .builtin .append, args := #[s, x], argTypes := #[22, 22] })
    (hs : a.eval s = v) (hx : a.eval x = y) (HO : W.ownsRow base 4 1 v n xs) (HY : BB W B y ys) (hbase : base ≤ W.heap.size) (hl : n + ys.length ≤ 140737488355328)
    (h : ∀ v1 w1, w1.ownsRow base 4 1 v1 (n + ys.length) (xs ++ bools ys) → W.grownBy w1 v.ownBlock → K (a.put o.dst v1) w1) :
    if Region.wanted o (yielded ops a.tmps) = true then Oper.wp Try.prog o a W K Q else E := by
  have hw : Region.wanted o (yielded ops a.tmps) = true := by simp [Region.wanted, hgd]
  rw [if_pos hw]
  obtain ⟨i3, hi3, hzz⟩ := Option.map_eq_some_iff.1 info4'
  simp only [Prod.mk.injEq] at hzz
  obtain ⟨hz0, hz1, hz2⟩ := hzz
  obtain ⟨A, c, rfl, h1, h2, h3, h4⟩ := HY
  rcases Nat.eq_zero_or_pos c with rfl | hc
  · obtain rfl : ys = [] := List.eq_nil_of_length_eq_zero (by omega)
    cases A with
    | none =>
      have hr := run_append_owned_none (P := Try.prog) W base 22 o.type 4 i3 1 Try.underlying22 hi3 v n xs HO
      unfold Oper.wp execOp
      have hx' : a.eval x = .slice none 0 0 := hx
      simp only [ho, resolve, invoke, builtin, Sem.run_bind, Sem.run_pure, Result.andThen_ok, List.map_toArray, List.map_cons, List.map_nil, hs, hx', hr]
      exact h _ _ (by simpa [bools] using HO) ⟨rfl, rfl, rfl, Nat.le_refl _, fun _ _ _ => rfl⟩
    | some ad =>
      refine wp_append_own W s x 22 ho base 4 i3 (.bool false) 1 1 Try.underlying22 hi3 hz0 hz1 hz2 rfl (by decide) v n xs hs HO ad 0 0 [] hx (by simp) (by simp) (by simp) (by simp at hl; simp only [maxLen]; omega) (by simpa using hl) hbase ?_
      intro v' w' k1 k2 _
      exact h v' w' (by simpa [bools] using k1) k2
  · obtain ⟨b, o', rfl, _⟩ := h3 hc
    refine wp_append_own W s x 22 ho base 4 i3 (.bool false) 1 1 Try.underlying22 hi3 hz0 hz1 hz2 rfl (by decide) v n xs hs HO ⟨b, o', none⟩ ys.length c (bools ys) hx (by simp [bools]) ?_ (bools_one ys) (by simp only [maxLen]; omega) (by omega) hbase ?_
    · intro j u hj
      simp only [bools, List.getElem?_map, Option.map_eq_some_iff] at hj
      obtain ⟨q, hq, rfl⟩ := hj
      obtain ⟨hlt, rfl⟩ := List.getElem?_eq_some_iff.1 hq
      have := h4 b o' rfl j hlt
      rw [show (⟨b, o', none⟩ : Addr).add j = ⟨b, o' + j, none⟩ by unfold Addr.add; split <;> simp_all]
      rw [this]
      simp [List.getD_eq_getElem?_getD, hlt]
    · intro v' w' k1 k2 _
      exact h v' w' k1 k2
end

set_option maxHeartbeats 1000000 in
theorem ref_add_any (j : Nat) (v mv : Value) (B : Nat) (L M : List Bool) (w : World) (H : BB w B v L) (HM : BB w 0 mv M) (hlm : L.length + M.length ≤ 1000) :
    Calls Try.prog 14 #[.agg #[v, .int .i64 j], mv] w fun e w' => ∃ v', e = .returned (.agg #[v', .int .i64 j]) ∧ BB w' w.heap.size v' (L ++ M) ∧ Below w.heap.size w w' := by
  have HH := Lib.hid H
  have HMM := Lib.hid HM
  obtain ⟨A, c, rfl, h1, h2⟩ := H.shape
  obtain ⟨A2, c2, rfl, h12, h22⟩ := HM.shape
  clear H HM
  obtain ⟨W0, hW0⟩ : ∃ W0 : World, W0 = (w.alloc (.cells #[.slice A L.length c, .int .i64 j] 28)).alloc (.cells #[.slice none 0 0, .int .i64 0] 28) := ⟨_, rfl⟩
  have HW0 := Lib.hid hW0
  have hs0 : W0.heap.size = w.heap.size + 2 := by rw [hW0]; simp
  have hB0 : Below w.heap.size w W0 := by rw [hW0]; exact ((Below.refl w.heap.size w).alloc (Nat.le_refl _) _).alloc (by simp) _
  have c0 : W0.cell? ⟨w.heap.size, 0, none⟩ = some (.slice A L.length c) := by rw [hW0]; go_simp
  have c1 : W0.cell? ⟨w.heap.size, 1, none⟩ = some (.int .i64 j) := by rw [hW0]; go_simp
  have c2' : W0.cell? ⟨w.heap.size + 1, 0, none⟩ = some (.slice none 0 0) := by rw [hW0]; go_simp
  have c3 : W0.cell? ⟨w.heap.size + 1, 1, none⟩ = some (.int .i64 0) := by rw [hW0]; go_simp
  have f2 : W0.frozen? ⟨w.heap.size + 1, 0, none⟩ = false := by rw [hW0]; go_simp
  have f3 : W0.frozen? ⟨w.heap.size + 1, 1, none⟩ = false := by rw [hW0]; go_simp
  have HB0 := Lib.hid hB0
  clear hB0 hW0
  go_enter Try.func14, Try.ntmps14
  go_upto_region 3 with (at_builtin; rw [← HW0.out]; refine app_bb (own_nil _ (w.heap.size + 2) 4 1) (HH.out.below HB0.out) rfl rfl rfl rfl (by omega) (by omega) ?_; intro v1 w1 hown hgr)
  rw [Nat.zero_add, List.nil_append] at hown
  have hb1 : Below (w.heap.size + 2) W0 w1 := (Below.refl _ _).grown hgr (by omega) (by simp [Value.ownBlock])
  have hs1 := hb1.size
  have hlt1 : w.heap.size < w1.heap.size := by omega
  have hlt2 : w.heap.size + 1 < w1.heap.size := by omega
  have hne1 : w.heap.size ≠ w1.heap.size := by omega
  have hne2 : w.heap.size + 1 ≠ w1.heap.size := by omega
  have HB1 := Lib.hid (HB0.out.trans (hb1.mono (by omega)))
  have HOW := Lib.hid hown
  replace c1 := (hb1.cell (p := ⟨w.heap.size, 1, none⟩) (by simp)).trans c1
  replace c2' := (hb1.cell (p := ⟨w.heap.size + 1, 0, none⟩) (by simp)).trans c2'
  replace c3 := (hb1.cell (p := ⟨w.heap.size + 1, 1, none⟩) (by simp)).trans c3
  replace f2 := (hb1.frozen (p := ⟨w.heap.size + 1, 0, none⟩) (by simp)).trans f2
  replace f3 := (hb1.frozen (p := ⟨w.heap.size + 1, 1, none⟩) (by simp)).trans f3
  obtain ⟨A1, c1', rfl⟩ := own_slice hown
  have HM1 := Lib.hid (HMM.out.below HB1.out)
  clear c0 hown hgr hb1 HB0 HW0
  go_region_law (refine step_bb rfl (.tmp 10) (.tmp 11) rfl rfl rfl (own_below HOW.out (by (repeat (first | exact Below.refl _ _ | apply below_drew)))) (HM1.out.below (by (repeat (first | exact Below.refl _ _ | apply below_drew)))) (by first | omega | (simp; omega)) (by omega) ?_; intro v2 w' hown1 hgr; have hb2 := Below.grown (B := w.heap.size + 2) (a := w1) (by (repeat (first | exact Below.refl _ _ | apply below_drew))) hgr (by first | omega | (simp; omega)) (own_base HOW.out); have k1 := (hb2.cell (p := ⟨w.heap.size, 1, none⟩) (by simp)).trans c1; have k2 := (hb2.cell (p := ⟨w.heap.size + 1, 0, none⟩) (by simp)).trans c2'; have k3 := (hb2.cell (p := ⟨w.heap.size + 1, 1, none⟩) (by simp)).trans c3; have l2 := (hb2.frozen (p := ⟨w.heap.size + 1, 0, none⟩) (by simp)).trans f2; have l3 := (hb2.frozen (p := ⟨w.heap.size + 1, 1, none⟩) (by simp)).trans f3; have HOO := Lib.hid hown1; have HB2 := Lib.hid hb2; have hsz2 : w.heap.size + 1 < w'.heap.size := (by have := hb2.size; omega); obtain ⟨A3, c3', rfl⟩ := own_slice hown1; clear hown1 hgr hb2)
  all_goals
    go_wp2
    refine bodyPost_ret (v := .agg #[.slice A3 (L.length + M.length) c3', .int .i64 j]) (by simp [results, Try.results14, go_sem, k2, k3]) rfl ⟨_, rfl, ?_, ?_⟩
    · have h0 := HOO.out
      rw [← bools_append] at h0
      exact (own_BB (ownsRow_setCell_below (ownsRow_setCell_below h0 (show w.heap.size + 1 < w.heap.size + 2 by omega) _) (show w.heap.size + 1 < w.heap.size + 2 by omega) _)).mono (by omega)
    · exact ((HB1.out.trans (HB2.out.mono (by omega))).setCell (show w.heap.size ≤ w.heap.size + 1 by omega) _).setCell (show w.heap.size ≤ w.heap.size + 1 by omega) _
end Go.Proofs.Ytodeeheojmnjdaa
