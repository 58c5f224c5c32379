/- The walk of CapsForged. -/
import Derived.Test.YthdcffbifgifeaaMt
namespace Go.Proofs.Ythdcffbifgifeaa
open Go.RowKit
set_option linter.unusedVariables false

/-- The root and those that were minted, as capabilities. -/
def capr (E m : Nat) : List (Int × Int) := (List.range m).map fun j : Nat => ((j : Int), (E : Int) * 1048576 + (j : Int))
theorem capr_len (E m : Nat) : (capr E m).length = m := by simp [capr]
theorem capr_succ (E m : Nat) : capr E (m + 1) = capr E m ++ [((m : Int), (E : Int) * 1048576 + (m : Int))] := by simp [capr, List.range_succ]
theorem capr_get (E m j : Nat) (h : j < m) : (capr E m)[j]? = some ((j : Int), (E : Int) * 1048576 + (j : Int)) := by simp [capr, h]
theorem hs_zero (x : Int) : hs x 0 = true := by
  unfold hs bits
  simp
  rfl
/-- The table, and the row of the good ones. -/
structure MF (w wr : World) (b E : Nat) (va : Value) (rs : List Int) : Prop where
  t : TAt wr b E (rs.length + 1) (stL E rs)
  o : wr.ownsRow (b + 1) 28 2 va (rs.length + 1) (capv (capr E (rs.length + 1)))
  bel : Below w.heap.size w wr
  lb : w.heap.size ≤ b
theorem MF.push {w w1 : World} {b E : Nat} {v1 : Value} {rs : List Int} {r : Int} {B : Int} {W : World} (hB : B = (E : Int) * 1048576) (ht : TAt W b E (rs.length + 1 + 1) (stL E (rs ++ [r]))) (hown : w1.ownsRow (b + 1) 28 2 v1 (rs.length + 1 + 1) (capv (capr E (rs.length + 1)) ++ [.int .i64 ((rs.length : Int) + 1), .int .i64 (B + ((rs.length : Int) + 1))]))
    (hbel : Below (b + 1) W w1) (hw : Below w.heap.size w W) (lb : w.heap.size ≤ b) : MF w w1 b E v1 (rs ++ [r]) := by
  subst hB
  refine ⟨?_, ?_, hw.trans (hbel.mono (by omega)), lb⟩
  · rw [List.length_append]
    exact ht.keep (hbel.block b (by omega))
  · rw [List.length_append]
    show w1.ownsRow (b + 1) 28 2 v1 (rs.length + 1 + 1) (capv (capr E (rs.length + 1 + 1)))
    rw [capr_succ]
    simpa [capv] using hown
theorem mint_bad {W : World} {b E G : Nat} {f : Nat → Slot} {s g r : Int} (h : TAt W b E G f) (hg : gd f s g = none) :
    Calls Try.prog 12 #[.pointer (some ⟨b, 0, none⟩), .agg #[.int .i64 s, .int .i64 g], .int .i64 r] W fun e w' => e = .returned (.tuple #[.agg #[.int .i64 0, .int .i64 0], .int .i64 10]) ∧ Below W.heap.size W w' := by
  have hm : mcode f G s g r = 10 := by
    unfold mcode
    rw [hg]
    rfl
  refine (mint_any b E G f s g r W h).mono ?_
  rintro e w' (⟨_, rfl, h3⟩ | ⟨h2, _⟩)
  · rw [hm]; exact ⟨rfl, h3⟩
  · rw [hm] at h2; exact absurd h2 (by omega)
theorem revoke_by_bad {W : World} {b E G : Nat} {f : Nat → Slot} {s g s2 g2 : Int} (h : TAt W b E G f) (hg : gd f s g = none) :
    Calls Try.prog 19 #[.pointer (some ⟨b, 0, none⟩), .agg #[.int .i64 s, .int .i64 g], .agg #[.int .i64 s2, .int .i64 g2]] W fun e w' => e = .returned (.int .i64 10) ∧ Below W.heap.size W w' := by
  have hc : rvcode f s g s2 g2 = 10 := by
    unfold rvcode
    rw [hg]
    rfl
  refine (revoke_any b E G f s g s2 g2 W h).mono ?_
  rintro e w' (⟨_, rfl, h2⟩ | ⟨h1, _⟩)
  · rw [hc]; exact ⟨rfl, h2⟩
  · rw [hc] at h1; exact absurd h1 (by omega)
theorem gd_capr (E : Nat) (rs : List Int) (h : rs.length ≤ 7) (s g : Int) : (s, g) ∈ live (stL E rs) 8 ↔ (s, g) ∈ capr E (rs.length + 1) := by
  rw [stL_live E rs h]
  rfl

set_option maxRecDepth 100000 in
set_option maxHeartbeats 4000000 in
theorem law_forged (ep sl ge : Int) (v : Value) (l : List Int) (w : World) (hep : (Lit.int .i64 ep).wf = true) (hsl : (Lit.int .i64 sl).wf = true) (hge : (Lit.int .i64 ge).wf = true) (H : InInts w v l) :
    Calls Try.prog 5 #[.int .i64 ep, .int .i64 sl, .int .i64 ge, v] w fun e w' => e = .returned (.bool true) ∧ Below w.heap.size w w' := by
  obtain ⟨⟨A, c, rfl, hlc, hcm, hA, hcell⟩, hwf⟩ := H
  have HW := Lib.hid hwf
  have HC := Lib.hid hcell
  have HA := Lib.hid hA
  obtain ⟨E, E0, E1, hE⟩ := around_some ep 1073741824 (by omega) (by omega) hep
  obtain ⟨E, rfl⟩ := Int.eq_ofNat_of_zero_le E0
  obtain ⟨y1, y10, y11, hY1⟩ := around_some sl 9 (by omega) (by omega) hsl
  obtain ⟨y2, y20, y21, hY2⟩ := around_some ge 9 (by omega) (by omega) hge
  have HE := Lib.hid hE
  have HY1 := Lib.hid hY1
  have HY2 := Lib.hid hY2
  clear hwf hcell hA hE hY1 hY2
  have hl1 : (l.length : Int) ≤ 9223372036854775807 := by omega
  obtain ⟨F, hF⟩ : ∃ F, F = E + 1 := ⟨_, rfl⟩
  have hwE : IntKind.i64.wrap (1 + (E : Int)) = (F : Int) := by rw [IntKind.wrap_i64]; omega
  have HNW := Lib.hid (new_good F w (by omega) (by omega))
  have hF2 : F ≤ 1073741824 := by omega
  clear hF E0 E1
  go_enter Try.func5, Try.ntmps5
  go_wp2_with fail
  refine (HE.out _).mono ?_
  rintro e w' ⟨rfl, rfl⟩
  go_wp2_with fail
  refine HNW.out.mono ?_
  rintro e w1 ⟨b, hbw, rfl, ht, hb⟩
  obtain ⟨B, hB⟩ : ∃ B : Int, B = (F : Int) * 1048576 := ⟨_, rfl⟩
  have HBB := Lib.hid hB
  have hBr : 0 ≤ B ∧ B ≤ 1125899906842624 := by omega
  have HT1 := Lib.hid (show TAt w1 b F 1 (stL F []) by rw [stL_nil]; exact ht)
  have HB1 := Lib.hid hb
  have HR1 := Lib.hid (show Calls Try.prog 10 #[.pointer (some ⟨b, 0, none⟩)] w1 fun e w' => e = .returned (.agg #[.int .i64 0, .int .i64 B]) ∧ Below w1.heap.size w1 w' by rw [hB]; exact root_any b F 1 _ w1 HT1.out)
  clear ht hb HNW hwE hB
  go_wp2_with fail
  refine HR1.out.mono ?_
  rintro e w2 ⟨rfl, hb⟩
  have HM := Lib.hid (show MF w (w2.alloc (.cells #[.int .i64 0, .int .i64 B] 28)) b F (.slice (some ⟨w2.heap.size, 0, none⟩) 1 1) [] from
    ⟨(HT1.out.below hb).below ((Below.refl _ _).alloc (Nat.le_refl _) _), by have := World.ownsRow_lit (base := b + 1) (e := 28) (size := 2) w2 #[.int .i64 0, .int .i64 B] 1 (by have := HT1.out.blt; have := hb.size; omega) (by simp [maxLen]) rfl; rw [HBB.out] at this ⊢; simpa [capv, capr] using this, (HB1.out.trans (hb.mono HB1.out.size)).alloc (by have := HB1.out.size; have := hb.size; omega) _, hbw⟩)
  clear hb HT1 HB1 HR1
  go_wp2_with fail
  go_loopw [12, 13, 14, 15] (fun va c _ _ wr => ∃ (rs : List Int), rs.length ≤ 5 ∧ c = .int .i64 rs.length ∧ MF w wr b F va rs) (fun _ c _ _ _ => 5 - (intOf c).toNat)
  case atStart => exact ⟨[], by simp, rfl, HM.out⟩
  case round =>
    obtain ⟨rs, hk, rfl, hms⟩ := hrel
    clear HM
    have HM := Lib.hid hms
    clear hms
    by_cases hlt : rs.length < l.length ∧ rs.length < 5
    · obtain ⟨hkl, hk7⟩ := hlt
      obtain ⟨ab, ao, rfl⟩ := HA.out (by omega)
      have d0 := cell_below HM.out.bel (HC.out ab ao rfl rs.length hkl)
      have habw : ab < w.heap.size := cell_lt (HC.out ab ao rfl rs.length hkl)
      obtain ⟨r, r0, r1, hR⟩ := around_some (l.getD rs.length 0) 16 (by omega) (by omega) (HW.out _ (by simp [List.getD_eq_getElem?_getD, List.getElem?_eq_getElem hkl]))
      obtain ⟨x, hx⟩ : ∃ x, x = l.getD rs.length 0 := ⟨_, rfl⟩
      rw [← hx] at d0 hR
      have HR := Lib.hid hR
      have hT := HM.out.t
      have hbl := hT.blt
      have hab : ab < wr.heap.size := cell_lt d0
      have hanb : ab ≠ b := by have := HM.out.lb; omega
      have hbwn : b ≠ wr.heap.size := by omega
      have hawn : ab ≠ wr.heap.size := by omega
      have HRT := Lib.hid (fun W (h : Below wr.heap.size wr W) => show Calls Try.prog 10 #[.pointer (some ⟨b, 0, none⟩)] W fun e w' => e = .returned (.agg #[.int .i64 0, .int .i64 B]) ∧ Below W.heap.size W w' by
        rw [HBB.out]; exact root_any b F (rs.length + 1) (stL F rs) W (hT.below h))
      have HMI := Lib.hid (fun W (h : Below wr.heap.size wr W) => show Calls Try.prog 12 #[.pointer (some ⟨b, 0, none⟩), .agg #[.int .i64 0, .int .i64 B], .int .i64 r] W fun e w' =>
          e = .returned (.tuple #[.agg #[.int .i64 ((rs.length : Int) + 1), .int .i64 (B + ((rs.length : Int) + 1))], .int .i64 0]) ∧ TAt w' b F (rs.length + 1 + 1) (stL F (rs ++ [r])) ∧ Only1 b W w' by
        rw [HBB.out]; exact mint_next (hT.below h) r0 r1 (by omega))
      obtain ⟨m, hm⟩ : ∃ m, m = rs.length := ⟨_, rfl⟩
      have HMM := Lib.hid hm
      rw [← hm] at d0 hkl hk7 HMI ⊢
      obtain ⟨k, hkm⟩ : ∃ k, k = m := ⟨_, rfl⟩
      have hki : (m : Int) < l.length := by omega
      have hki7 : (m : Int) < 5 := by omega
      clear hx hR hT hm
      go_upto_region 9 with (fail)
      subst hkm
      go_cut [14, 15] (fun p e wx => ∃ pb, wr.heap.size ≤ pb ∧ p = .pointer (some ⟨pb, 0, none⟩) ∧ e = .int .i64 0 ∧ wx.cell? ⟨pb, 0, none⟩ = some (.int .i64 ((k : Int) + 1)) ∧ wx.cell? ⟨pb, 1, none⟩ = some (.int .i64 (B + ((k : Int) + 1))) ∧ TAt wx b F (k + 1 + 1) (stL F (rs ++ [r])) ∧ Only1 b wr wx)
      case first =>
        go_region_held3 (fun w' => w'.cell? ⟨ab, ao + k, none⟩ = some (.int .i64 x)) (first | (exact d5) | (exact keep_put (by assumption) d5) | (exact keep_alloc d5) | (exact keep_put (by assumption) (keep_alloc d5)) | (go_keep; done) | (exact cell_below (w := wr) (by repeat (first | exact BF.out | exact Below.refl _ _ | with_reducible apply below_drew | with_reducible apply below_alloc0)) d0)) (first | (go_at_call 10; refine (HRT.out _ (by repeat (first | exact BF.out | exact Below.refl _ _ | with_reducible apply below_drew | with_reducible apply below_alloc0))).mono ?_; rintro e w5 ⟨rfl, hbf⟩; (try (have hq := (hbf.block wr.heap.size (by simp)).trans (heap_alloc_new wr.drew (.cells #[.int .i64 0, .int .i64 0] 28)))); have bf : Below wr.heap.size wr w5 := below_then (by repeat (first | exact BF.out | exact Below.refl _ _ | with_reducible apply below_drew | with_reducible apply below_alloc0)) (by first | simp; done | omega | (simp; omega)) hbf; have q4 := bf.size; have qa5 : ab ≠ w5.heap.size := (by omega); have qb5 : b ≠ w5.heap.size := (by omega); have BF := Lib.hid bf; have ql5 : ab < w5.heap.size := (by omega); (try (have qw5 : wr.heap.size < w5.heap.size := (Array.getElem?_eq_some_iff.1 hq).1)); clear hbf bf) | (go_at_call 11; refine (HR.out _).mono ?_; rintro e w' ⟨rfl, rfl⟩) | (go_at_call 12; refine (HMI.out _ (by repeat (first | exact BF.out | exact Below.refl _ _ | with_reducible apply below_drew | with_reducible apply below_alloc0))).mono ?_; rintro e w6 ⟨rfl, ht6, ho6⟩; have hsz6 := ho6.size; have hO6 : Only1 b wr w6 := (Only1.of (by repeat (first | exact BF.out | exact Below.refl _ _ | with_reducible apply below_drew | with_reducible apply below_alloc0))).trans ho6; have d5 := (World.cell?_of_block (a := ⟨ab, ao + k, none⟩) (hO6.far ab hab hanb)).trans d0; (first | (have hq6 := (ho6.far wr.heap.size qw5 (Ne.symm hbwn)).trans hq; have n0 := cell_of_row w6 _ 0 _ _ _ hq6; have n1 := cell_of_row w6 _ 1 _ _ _ hq6; have m0 := frozen_of_row w6 _ 0 _ _ hq6; have m1 := frozen_of_row w6 _ 1 _ _ hq6; simp at n0 n1; have HQ6 := Lib.hid hq6; clear hq6) | (have hq6 := (ho6.far w5.heap.size (by simp) (Ne.symm qb5)).trans (heap_alloc_new w5 (.cells #[.int .i64 0, .int .i64 0] 28)); have n0 := cell_of_row w6 _ 0 _ _ _ hq6; have n1 := cell_of_row w6 _ 1 _ _ _ hq6; have m0 := frozen_of_row w6 _ 0 _ _ hq6; have m1 := frozen_of_row w6 _ 1 _ _ hq6; simp at n0 n1; have HQ6 := Lib.hid hq6; clear hq6) | (have n0 := True.intro)); have qa6 : ab ≠ w6.heap.size := (by have := hO6.size; omega); have qb6 : b ≠ w6.heap.size := (by have := hO6.size; omega); have HT6 := Lib.hid ht6; have HO6 := Lib.hid hO6; clear ht6 ho6 hO6 hsz6))
        all_goals (go_wp2_with fail; go_meet; first
          | (obtain ⟨z0, z1, z2, z3⟩ := box_put (.int .i64 ((k : Int) + 1)) (.int .i64 (B + ((k : Int) + 1))) HO6.out HT6.out HQ6.out hbl (by omega); exact ⟨_, by omega, rfl, rfl, z0, z1, z2, z3⟩)
          | (obtain ⟨z0, z1, z2, z3⟩ := box_put (.int .i64 ((k : Int) + 1)) (.int .i64 (B + ((k : Int) + 1))) (HO6.out.alloc (.cells #[.int .i64 0, .int .i64 0] 28)) (HT6.out.below ((Below.refl _ _).alloc (Nat.le_refl _) _)) (heap_alloc_new _ _) hbl HO6.out.size; exact ⟨_, HO6.out.size, rfl, rfl, z0, z1, z2, z3⟩)
          | (exact ⟨_, HO6.out.size, rfl, rfl, by go_simp, by go_simp, HT6.out.below ((Below.refl _ _).alloc (Nat.le_refl _) _), HO6.out.alloc _⟩))
      case rest =>
        obtain ⟨pb, hpb, rfl, rfl, n0, n1, ht1, ho1⟩ := hcut
        have hplt := cell_lt n0
        have hmo := HM.out.o
        rw [← HMM.out] at hmo
        have HOB := Lib.hid (own_keep hmo fun j hj hlt => ho1.far j hlt (by omega))
        have HT1 := Lib.hid ht1
        have HB1 := Lib.hid (HM.out.bel.trans (ho1.below HM.out.lb HM.out.bel.size))
        have hblt := ht1.blt
        clear hmo ht1 ho1 HRT HMI HR d0 hab
        go_wp2_with (at_builtin; refine app_one HOB.out [.int .i64 ((k : Int) + 1), .int .i64 (B + ((k : Int) + 1))] rfl rfl Try.underlying42 info28' rfl (by decide) rfl rfl rfl rfl (two_one _ _) (by omega) (by omega) (by omega) ?_; intro v1 w4 hown1 hbel1 hgr)
        have HMS := Lib.hid (show MF w w4 b F v1 (rs ++ [r]) by
          have e := HMM.out
          subst e
          exact MF.push HBB.out HT1.out (by simpa using hown1) hbel1 HB1.out hbw)
        clear hown1 hbel1 hgr
        go_roundw
        case rel => exact ⟨rs ++ [r], by rw [List.length_append]; have := HMM.out; simp only [List.length_singleton]; omega, by rw [List.length_append, ← HMM.out]; simp only [List.length_singleton]; go_num, HMS.out⟩
        case measure => simp [intOf]; omega
    · obtain ⟨m, hm⟩ : ∃ m, m = rs.length + 1 := ⟨_, rfl⟩
      have HMM := Lib.hid hm
      have ho := HM.out.o
      rw [← hm] at ho
      have hend : ((rs.length : Int) < l.length ∧ ¬ (rs.length : Int) < 5) ∨ ¬ (rs.length : Int) < l.length := by omega
      obtain ⟨g, cp, rfl, hg1, hg2⟩ := World.ownsRow.form ho (by omega)
      have HO := Lib.hid ho
      have hm6 : m ≤ 6 := by omega
      clear ho hm
      obtain ⟨rl, hrl⟩ : ∃ rl, rl = rs.length := ⟨_, rfl⟩
      rw [← hrl] at hend ⊢
      clear hrl hlt hk
      go_upto_region 7 with (fail)
      go_cut [47] (fun x wx => x = .bool false ∧ wx = wr)
      case first =>
        rcases hend with ⟨e1, e2⟩ | e1
        · go_wp2_with fail
          go_meet
          exact ⟨rfl, rfl⟩
        · go_wp2_with fail
          go_meet
          exact ⟨rfl, rfl⟩
      case rest =>
        obtain ⟨rfl, rfl⟩ := hcut
        clear hend
        have HRT0 := Lib.hid (show Calls Try.prog 10 #[.pointer (some ⟨b, 0, none⟩)] wc fun e w' => e = .returned (.agg #[.int .i64 0, .int .i64 B]) ∧ Below wc.heap.size wc w' by
          rw [HBB.out]; exact root_any b F _ (stL F rs) wc HM.out.t)
        have hwB : IntKind.i64.wrap (B + y2) = B + y2 := by rw [IntKind.wrap_i64]; omega
        go_wp2_with fail
        refine (HY1.out _).mono ?_
        rintro e w' ⟨rfl, rfl⟩
        go_wp2_with fail
        refine HRT0.out.mono ?_
        rintro e w3 ⟨rfl, hb⟩
        have HB3 := Lib.hid hb
        clear hb HRT0
        have hfld : ∀ W, Sem.run Try.prog (Instr.field 28 (.agg #[.int .i64 0, .int .i64 B]) 1) W = .ok (.int .i64 B) W := fun W => field1 0 B W
        go_wp2_with fail
        refine (HY2.out _).mono ?_
        rintro e w' ⟨rfl, rfl⟩
        go_wp2_with fail
        obtain ⟨wq, hwq⟩ : ∃ wq : World, wq = w3.alloc (.cells #[.int .i64 sl, .int .i64 ge, .int .i64 y1, .int .i64 (B + y2)] 28) := ⟨_, rfl⟩
        rw [← hwq]
        obtain ⟨ob, hob⟩ : ∃ ob, ob = w3.heap.size := ⟨_, rfl⟩
        have hcs : ∀ k, k < 2 → ∃ s g : Int, wq.cell? ⟨ob, k * 2, none⟩ = some (.int .i64 s) ∧ wq.cell? ⟨ob, k * 2 + 1, none⟩ = some (.int .i64 g) := by
          intro k hk
          rcases (show k = 0 ∨ k = 1 by omega) with rfl | rfl
          · exact ⟨sl, ge, by rw [hwq, hob]; go_simp, by rw [hwq, hob]; go_simp⟩
          · exact ⟨y1, B + y2, by rw [hwq, hob]; go_simp, by rw [hwq, hob]; go_simp⟩
        rw [← hob]
        have hbq : Below wc.heap.size wc wq := by rw [hwq]; exact HB3.out.alloc HB3.out.size _
        have HCS := Lib.hid hcs
        have HTQ := Lib.hid (HM.out.t.below hbq)
        have HBQ := Lib.hid (HM.out.bel.trans (hbq.mono HM.out.bel.size))
        have HOQ := Lib.hid (own_below HO.out hbq)
        have HIN := Lib.hid (show ∀ s g : Int, (s, g) ∈ live (stL F rs) 8 ↔ (s, g) ∈ capr F m by
          intro s g; rw [HMM.out]; exact gd_capr F rs (by have := HMM.out; omega) s g)
        have hroot : Rooted (stL F rs) F := stL_root F rs
        have HRO := Lib.hid hroot
        clear hcs hbq hob hwq HB3 HM HO hroot hwB hfld
        obtain ⟨G, hG⟩ : ∃ G, G = rs.length + 1 := ⟨_, rfl⟩
        rw [← hG] at HTQ
        obtain ⟨f, hf⟩ : ∃ f, f = stL F rs := ⟨_, rfl⟩
        rw [← hf] at HTQ HIN HRO
        clear hG hf
        have hml : ((m : Nat) : Int) ≤ 6 := by omega
        go_loopw [17, 18, 19, 20, 21, 22] (fun c _ _ _ _ _ wr => ∃ k : Nat, k ≤ 2 ∧ c = .int .i64 k ∧ Below wq.heap.size wq wr) (fun c _ _ _ _ _ _ => 2 - (intOf c).toNat)
        case atStart => exact ⟨0, by omega, rfl, Below.refl _ _⟩
        case round =>
          obtain ⟨k, hk, rfl, hbr⟩ := hrel
          have HBR := Lib.hid hbr
          clear hbr
          by_cases hk2 : k < 2
          · have hki : (k : Int) < 2 := by omega
            have hk0 : (0 : Int) ≤ (k : Int) := by omega
            obtain ⟨s, gn, hs0, hg0⟩ := HCS.out k hk2
            have hkk : (k : Int) + 1 ≤ 2 := by omega
            go_wp2_with fail
            go_loopw [18, 19] (fun iv c wr => ∃ j : Nat, j ≤ m ∧ c = .int .i64 j ∧ iv = .bool (decide ((s, gn) ∈ (capr F m).take j)) ∧ Below wq.heap.size wq wr) (fun _ c _ => m - (intOf c).toNat)
            case atStart => exact ⟨0, by omega, rfl, by simp, HBR.out⟩
            case round =>
              obtain ⟨j, hj, rfl, rfl, hbr⟩ := hrel
              have HBJ := Lib.hid hbr
              clear hbr
              by_cases hjm : j < m
              · have hji : (j : Int) < m := by omega
                have hj0 : (0 : Int) ≤ (j : Int) := by omega
                have hget := capr_get F m j hjm
                have htk : (capr F m).take (j + 1) = (capr F m).take j ++ [((j : Int), (F : Int) * 1048576 + (j : Int))] := by rw [List.take_add_one, hget]; rfl
                obtain ⟨z, hz⟩ : ∃ z : Int, z = (F : Int) * 1048576 + (j : Int) := ⟨_, rfl⟩
                obtain ⟨h1, h2⟩ := capv_get _ _ _ hget
                have q0 := cell_below HBJ.out ((HOQ.out.cellAt (j * 2) (by omega)).trans h1)
                have q1 := cell_below HBJ.out ((HOQ.out.cellAt (j * 2 + 1) (by omega)).trans h2)
                have o0 := cell_below HBJ.out hs0
                have o1 := cell_below HBJ.out hg0
                dsimp only at q0 q1
                rw [← hz] at q1 htk
                have HTK := Lib.hid htk
                clear hz h1 h2 hget htk
                cases hin : decide ((s, gn) ∈ (capr F m).take j)
                · have HNI := Lib.hid hin
                  clear hin
                  by_cases hs1 : (j : Int) = s
                  · obtain rfl : s = (j : Int) := hs1.symm
                    clear hs1
                    by_cases hs2 : z = gn
                    · subst hs2
                      have HY := Lib.hid (show decide (((j : Int), z) ∈ (capr F m).take (j + 1)) = true by rw [HTK.out]; simp)
                      go_upto_region 21 with (fail)
                      go_quiet (fail)
                      go_wp2
                      go_roundw
                      case rel => exact ⟨j + 1, by omega, by go_num, by rw [HY.out], below_drewN HBJ.out _⟩
                      case measure => simp [intOf]; omega
                    · have hgb : (z == gn) = false := by simp [hs2]
                      have HY := Lib.hid (show decide (((j : Int), gn) ∈ (capr F m).take (j + 1)) = false by
                        rw [HTK.out, decide_eq_false_iff_not, List.mem_append]
                        rintro (h | h)
                        · exact (decide_eq_false_iff_not.1 HNI.out) h
                        · simp at h; exact hs2 h.symm)
                      clear hs2
                      go_upto_region 21 with (fail)
                      go_quiet (fail)
                      go_wp2
                      go_roundw
                      case rel => exact ⟨j + 1, by omega, by go_num, by rw [HY.out], below_drewN HBJ.out _⟩
                      case measure => simp [intOf]; omega
                  · have hsb : ((j : Int) == s) = false := by simp [hs1]
                    have HY := Lib.hid (show decide ((s, gn) ∈ (capr F m).take (j + 1)) = false by
                      rw [HTK.out, decide_eq_false_iff_not, List.mem_append]
                      rintro (h | h)
                      · exact (decide_eq_false_iff_not.1 HNI.out) h
                      · simp at h; exact hs1 h.1.symm)
                    clear hs1
                    go_upto_region 21 with (fail)
                    go_quiet (fail)
                    go_wp2
                    go_roundw
                    case rel => exact ⟨j + 1, by omega, by go_num, by rw [HY.out], below_drewN HBJ.out _⟩
                    case measure => simp [intOf]; omega
                · have HY := Lib.hid (show decide ((s, gn) ∈ (capr F m).take (j + 1)) = true by
                    rw [HTK.out, decide_eq_true_eq, List.mem_append]
                    exact .inl (of_decide_eq_true hin))
                  clear hin
                  go_upto_region 21 with (fail)
                  go_quiet (fail)
                  go_wp2
                  go_roundw
                  case rel => exact ⟨j + 1, by omega, by go_num, by rw [HY.out], below_drewN HBJ.out _⟩
                  case measure => simp [intOf]; omega
              · have e : j = m := by omega
                subst e
                have hfull : (capr F j).take j = capr F j := by have h := List.take_length (l := capr F j); rwa [capr_len] at h
                rw [hfull]
                clear hfull
                have e0 := cell_below HBJ.out hs0
                have e1 := cell_below HBJ.out hg0
                cases hin : decide ((s, gn) ∈ capr F j)
                · have hgd : gd f s gn = none := by
                    unfold gd
                    rw [if_neg (by rw [HIN.out]; exact decide_eq_false_iff_not.1 hin)]
                  have HGD := Lib.hid hgd
                  have HCK := Lib.hid (show Calls Try.prog 18 #[.pointer (some ⟨b, 0, none⟩), .agg #[.int .i64 s, .int .i64 gn], .int .i64 0] wr fun e w' => e = .returned (.int .i64 10) ∧ Below wr.heap.size wr w' from check_bad (HTQ.out.below HBJ.out) hgd)
                  have HMB := Lib.hid (fun W (h : Below wr.heap.size wr W) => mint_bad (r := 0) (HTQ.out.below (HBJ.out.trans (h.mono HBJ.out.size))) hgd)
                  clear hin hgd
                  go_wp2_with fail
                  refine HCK.out.mono ?_
                  rintro e w5 ⟨rfl, hb5⟩
                  have e0 := cell_below hb5 e0
                  have e1 := cell_below hb5 e1
                  have HB5 := Lib.hid hb5
                  clear hb5 HCK
                  go_wp2_with fail
                  refine (HMB.out _ HB5.out).mono ?_
                  rintro e w6 ⟨rfl, hb6⟩
                  have e0 := cell_below hb6 e0
                  have e1 := cell_below hb6 e1
                  have HB6 := Lib.hid (HBJ.out.trans ((HB5.out.trans (hb6.mono HB5.out.size)).mono HBJ.out.size))
                  clear hb6 HMB HB5
                  go_upto_region 29 with (fail)
                  obtain ⟨wz, hwz⟩ : ∃ wz : World, wz = w6.alloc (.cells #[.int .i64 0, .int .i64 0] 28) := ⟨_, rfl⟩
                  rw [← hwz]
                  have hbz : Below w6.heap.size w6 wz := by rw [hwz]; exact (Below.refl _ _).alloc (Nat.le_refl _) _
                  have e0 := cell_below hbz e0
                  have e1 := cell_below hbz e1
                  have HBZ := Lib.hid (HB6.out.trans (hbz.mono HB6.out.size))
                  clear hbz hwz
                  have HRT := Lib.hid (fun W (h : Below wz.heap.size wz W) => show Calls Try.prog 10 #[.pointer (some ⟨b, 0, none⟩)] W fun e w' => e = .returned (.agg #[.int .i64 0, .int .i64 B]) ∧ Below W.heap.size W w' by
                    rw [HBB.out]; exact root_any b F _ f W (HTQ.out.below (HBZ.out.trans (h.mono HBZ.out.size))))
                  have HRV := Lib.hid (fun W (h : Below wz.heap.size wz W) => show Calls Try.prog 19 #[.pointer (some ⟨b, 0, none⟩), .agg #[.int .i64 s, .int .i64 gn], .agg #[.int .i64 0, .int .i64 B]] W fun e w' => e = .returned (.int .i64 10) ∧ Below W.heap.size W w' from
                    revoke_by_bad (HTQ.out.below (HBZ.out.trans (h.mono HBZ.out.size))) HGD.out)
                  go_cut [134] (fun x wx => x = .bool false ∧ Below wz.heap.size wz wx)
                  case first =>
                    go_region_held3 (fun w' => w'.cell? ⟨ob, k * 2, none⟩ = some (.int .i64 s) ∧ w'.cell? ⟨ob, k * 2 + 1, none⟩ = some (.int .i64 gn)) (first | (exact ⟨cell_below (w := wz) (by repeat (first | exact BF.out | exact Below.refl _ _ | with_reducible apply below_drew | with_reducible apply below_alloc0)) e0, cell_below (w := wz) (by repeat (first | exact BF.out | exact Below.refl _ _ | with_reducible apply below_drew | with_reducible apply below_alloc0)) e1⟩) | (go_keep; done)) (first | (go_at_call 10; refine (HRT.out _ (by repeat (first | exact BF.out | exact Below.refl _ _ | with_reducible apply below_drew | with_reducible apply below_alloc0))).mono ?_; rintro e w5 ⟨rfl, hbf⟩; have bf : Below wz.heap.size wz w5 := below_then (by repeat (first | exact BF.out | exact Below.refl _ _ | with_reducible apply below_drew | with_reducible apply below_alloc0)) (by first | exact BF.out.size | simp; done | omega | (simp; omega)) hbf; have BF := Lib.hid bf; clear hbf bf) | (go_at_call 19; refine (HRV.out _ (by repeat (first | exact BF.out | exact Below.refl _ _ | with_reducible apply below_drew | with_reducible apply below_alloc0))).mono ?_; rintro e w5 ⟨rfl, hbf⟩; have bf : Below wz.heap.size wz w5 := below_then (by repeat (first | exact BF.out | exact Below.refl _ _ | with_reducible apply below_drew | with_reducible apply below_alloc0)) (by first | exact BF.out.size | simp; done | omega | (simp; omega)) hbf; have BF := Lib.hid bf; clear hbf bf))
                    all_goals (go_wp2_with fail; go_meet; exact ⟨rfl, (by repeat (first | exact BF.out | exact Below.refl _ _ | with_reducible apply below_drew | with_reducible apply below_alloc0))⟩)
                  case rest =>
                    obtain ⟨rfl, hb7⟩ := hcut
                    have HB7 := Lib.hid (HBZ.out.trans (hb7.mono HBZ.out.size))
                    clear hb7 HRT HRV HBZ
                    go_wp2_with fail
                    go_roundw
                    case rel => exact ⟨k + 1, by omega, by go_num, HB7.out⟩
                    case measure => simp [intOf]; omega
                · have hgd : gd f s gn = some (f s.toNat).2.2 := by
                    unfold gd
                    rw [if_pos (by rw [HIN.out]; exact of_decide_eq_true hin)]
                  have HCK := Lib.hid (show Calls Try.prog 18 #[.pointer (some ⟨b, 0, none⟩), .agg #[.int .i64 s, .int .i64 gn], .int .i64 0] wr fun e w' => e = .returned (.int .i64 0) ∧ Below wr.heap.size wr w' by
                    have h := check_any b F G f s gn 0 wr (HTQ.out.below HBJ.out)
                    rw [hgd] at h
                    simpa [ccode, hs_zero] using h)
                  clear hin hgd
                  go_wp2_with fail
                  refine HCK.out.mono ?_
                  rintro e w5 ⟨rfl, hb5⟩
                  have HB5 := Lib.hid (HBJ.out.trans (hb5.mono HBJ.out.size))
                  clear hb5 HCK
                  go_wp2_with fail
                  go_roundw
                  case rel => exact ⟨k + 1, by omega, by go_num, HB5.out⟩
                  case measure => simp [intOf]; omega
          · have e : k = 2 := by omega
            subst e
            go_wp2_with (go_at_call 15; refine (lives_any _).mono ?_; rintro e w' ⟨rfl, hb⟩)
            go_ret
            exact ⟨rfl, (HBQ.out.trans (HBR.out.mono HBQ.out.size)).trans (hb.mono (by have := HBQ.out.size; have := HBR.out.size; omega))⟩
end Go.Proofs.Ythdcffbifgifeaa
