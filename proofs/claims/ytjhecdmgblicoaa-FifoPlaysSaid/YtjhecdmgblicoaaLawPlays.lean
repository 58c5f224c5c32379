/- The walk of FifoPlays. -/
import Derived.Test.YtjhecdmgblicoaaPlay
namespace Go.Proofs.Ytjhecdmgblicoaa
open Go.RowKit
set_option linter.unusedVariables false

set_option maxRecDepth 100000 in
set_option maxHeartbeats 4000000 in
theorem law_plays (a : Int) (v : Value) (l : List Int) (w : World) (ha : (Lit.int .i64 a).wf = true) (H : InInts w v l) :
    Calls Try.prog 8 #[.int .i64 a, v] w fun e w' => e = .returned (.bool true) ∧ Below w.heap.size w w' := by
  obtain ⟨⟨A, c, rfl, hlc, hcm, hA, hcell⟩, hwf⟩ := H
  obtain ⟨y, y0, y1, hAr⟩ := around_some a 5 (by omega) (by omega) ha
  obtain ⟨y, rfl⟩ := Int.eq_ofNat_of_zero_le y0
  have HAr := Lib.hid hAr
  have HW := Lib.hid hwf
  have HC := Lib.hid hcell
  have HA := Lib.hid hA
  clear hwf hcell hA hAr
  have hl0 : (0 : Int) ≤ (l.length : Int) := by omega
  have hl1 : (l.length : Int) ≤ 9223372036854775807 := by omega
  go_enter Try.func8, Try.ntmps8
  go_wp2_with fail
  refine (HAr.out _).mono ?_
  rintro e w' ⟨rfl, rfl⟩
  go_wp2_with fail
  obtain ⟨m, hm⟩ : ∃ m : Nat, 1 + (y : Int) = (m : Int) := ⟨y + 1, by omega⟩
  rw [hm]
  have hm1 : 1 ≤ m := by omega
  have hm5 : m ≤ 5 := by omega
  clear hm
  refine (newi_good _ _ (by omega) (by omega)).mono ?_
  rintro e w1 ⟨rfl, hq, hb⟩
  rw [Int.toNat_natCast] at hq
  have hPS : PS w (w1.alloc (.cells #[.int .i64 m, .slice none 0 0] 49)) w1.heap.size m [] [] :=
    ⟨⟨0, hq.below ((Below.refl _ _).alloc (Nat.le_refl _) _)⟩, ⟨_, heap_alloc_new _ _, InB.nil _ _⟩, hb.alloc hb.size _, by have := hq.blt; omega, by simp⟩
  have HPS := Lib.hid hPS
  clear hq hb hPS
  go_wp2_with fail
  obtain ⟨sb, hsb⟩ : ∃ sb, sb = w1.heap.size := ⟨_, rfl⟩
  rw [← hsb] at HPS ⊢
  clear hsb
  go_loopw [9, 10, 11, 12, 13, 14, 15, 16, 17, 18] (fun c _ _ _ _ _ _ _ _ _ wr => ∃ (k : Nat) (L : List Int), k ≤ 24 ∧ k ≤ l.length ∧ c = .int .i64 k ∧ PS w wr sb m L L) (fun c _ _ _ _ _ _ _ _ _ _ => 24 - (intOf c).toNat)
  case atStart => exact ⟨0, [], by omega, by omega, rfl, HPS.out⟩
  case round =>
    obtain ⟨k, L, hk, hkl, rfl, hps⟩ := hrel
    clear HPS
    obtain ⟨w0, rfl⟩ : ∃ w0 : World, w0 = wr := ⟨_, rfl⟩
    have HPS := Lib.hid hps
    obtain ⟨v, hs, hv⟩ := hps.s
    have hlo := hps.lo
    have hsz := hps.size
    have hl5 : L.length ≤ 1000 := by obtain ⟨a, hq⟩ := hps.q; have := hq.ll; have := hq.m1; omega
    by_cases hlt : k < l.length ∧ k < 24
    · obtain ⟨hkl, hk24⟩ := hlt
      have hki : (k : Int) < l.length := by omega
      have hki24 : (k : Int) < 24 := by omega
      obtain ⟨ab, ao, rfl⟩ := HA.out (by omega)
      have d0 := HC.out ab ao rfl k (by omega)
      obtain ⟨x, hx⟩ : ∃ x, x = l.getD k 0 := ⟨_, rfl⟩
      rw [← hx] at d0
      clear hx
      have hab := cell_lt d0
      have HD := Lib.hid d0
      replace d0 := cell_below hps.bel d0
      have c0 := cell_of_row w0 sb 0 _ _ _ hs
      have c1 := cell_of_row w0 sb 1 _ _ _ hs
      have f0 := frozen_of_row w0 sb 0 _ _ hs
      have f1 := frozen_of_row w0 sb 1 _ _ hs
      simp at c0 c1
      have HV := Lib.hid hv
      have hsb : sb < w0.heap.size := by omega
      obtain ⟨A0, n0, k0, rfl, hn0⟩ := hv.shape
      have HN0 := Lib.hid hn0
      clear hps hs hv hn0
      have hrem : Int.tmod x 11 = Int.tmod x 11 := rfl
      by_cases hneg : x < 0
      case' pos =>
        have HT := Lib.hid (ref_take_any m _ (sb + 1) L w0 HV.out)
        have HTK := Lib.hid (fun W M (h : PS w W sb m L M) => h.take)
        clear HV HN0
        generalize L.headD 0 = hd at *
        generalize (!L.isEmpty) = ne at *
        generalize L.tail = Ln at *
        go_wp2_with fail
        refine HT.out.mono ?_
        rintro e w2 ⟨v', rfl, hv', hb⟩
        have HV' := Lib.hid hv'
        have hs2 := hb.size
        have hsb2 : sb < w2.heap.size := by omega
        have hne2 : sb ≠ w2.heap.size := by omega
        obtain ⟨hc2, hf2⟩ := bcell hb
        obtain ⟨A1, n1, k1, rfl, hn1⟩ := hv'.shape
        have HP2 := Lib.hid ((HPS.out.below hb).store hv')
        clear hb hv' hn1 HT
        go_wp2_with fail
        refine (HTK.out _ _ (HP2.out.below ((Below.refl _ _).alloc (Nat.le_refl _) _))).mono ?_
        rintro e w3 ⟨rfl, hp3⟩
        have HP3 := Lib.hid hp3
        clear hp3 HP2 HV' hc2 hf2 hsb2 hne2 hs2 HTK
        go_wp2_with fail
      case' neg =>
        cases hmod : (x % 11 == 0)
        case' false =>
          have HPT := Lib.hid (fun W (h : Below w0.heap.size w0 W) => ref_put_two m _ (sb + 1) L x w0 W HV.out h hl5 (by omega))
          have HQP := Lib.hid (fun W M (h : PS w W sb m L M) => h.put x)
          clear HV HN0
          generalize putL m L x = Ln at *
          generalize putE m L = er at *
          go_upto_region 18 with (fail)
          go_cut [15, 16] (fun p e wx => ∃ pb v', p = .pointer (some ⟨pb, 0, none⟩) ∧ e = .int .i64 er ∧ wx.cell? ⟨pb, 0, none⟩ = some (.int .i64 m) ∧ wx.cell? ⟨pb, 1, none⟩ = some v' ∧ InB wx (sb + 1) v' Ln ∧ Below w0.heap.size w0 wx)
          case first =>
            have hne0 : sb ≠ w0.heap.size := by omega
            have hba : ab < w0.heap.size := cell_lt d0
            have hna : ab ≠ w0.heap.size := by omega
            go_region_held3 (fun w' => w'.cell? ⟨sb, 0, none⟩ = some (.int .i64 m) ∧ w'.cell? ⟨sb, 1, none⟩ = some (.slice A0 n0 k0) ∧ w'.cell? ⟨ab, ao + k, none⟩ = some (.int .i64 x)) (first | (go_keep; done) | (exact ⟨cell_below (w := w0) (by (repeat (first | exact BF.out | exact Below.refl _ _ | refine Below.setCell ?_ (by first | omega | (simp; omega) | simp) _ | refine Below.alloc ?_ (by first | omega | (simp; omega) | simp) _ | apply below_drew))) c0, cell_below (w := w0) (by (repeat (first | exact BF.out | exact Below.refl _ _ | refine Below.setCell ?_ (by first | omega | (simp; omega) | simp) _ | refine Below.alloc ?_ (by first | omega | (simp; omega) | simp) _ | apply below_drew))) c1, cell_below (w := w0) (by (repeat (first | exact BF.out | exact Below.refl _ _ | refine Below.setCell ?_ (by first | omega | (simp; omega) | simp) _ | refine Below.alloc ?_ (by first | omega | (simp; omega) | simp) _ | apply below_drew))) d0⟩)) (first | (go_at_call 24; refine (HPT.out _ (by repeat (first | exact Below.refl _ _ | apply below_drew | refine Below.alloc ?_ (by first | exact Nat.le_refl _ | simp) _))).mono ?_; rintro e w2 ⟨v', rfl, hv', hbf, hxx⟩; obtain ⟨A1, n1, k1, rfl, hn1⟩ := hv'.shape; have bf : Below w0.heap.size w0 w2 := below_then (by repeat (first | exact Below.refl _ _ | apply below_drew | refine Below.alloc ?_ (Nat.le_refl _) _)) (by simp) hbf; have q4 := bf.size; have BF := Lib.hid bf; obtain ⟨hcF, hfF⟩ := bcell hbf; have hsF := hbf.size; have q0 : sb ≠ w2.heap.size := (by simp at hsF; omega); have q1 : ab ≠ w2.heap.size := (by simp at hsF; omega); have HV2 := Lib.hid hv'; have HX := Lib.hid hxx; clear hbf hv' hn1 bf hxx))
            all_goals (go_wp2_with fail; go_meet; first | exact ⟨_, _, rfl, rfl, by go_simp, by go_simp, HV2.out.below ((Below.refl _ _).alloc (Nat.le_refl _) _), BF.out.alloc q4 _⟩ | exact ⟨_, _, rfl, rfl, by go_simp, by go_simp, HX.out (by simp) _ (fun b hb => by rw [Go.heap_setCell_other _ _ _ _ (by exact hb), Go.heap_setCell_other _ _ _ _ (by exact hb)]), (BF.out.setCell (Nat.le_refl _) _).setCell (Nat.le_refl _) _⟩ | trace_state)
          case' rest =>
            obtain ⟨pb, v', rfl, rfl, g0, g1, hv', hb⟩ := hcut
            have hs2 := hb.size
            have hsb2 : sb < wc.heap.size := by omega
            have hba : ab < w0.heap.size := cell_lt d0
            obtain ⟨hc2, hf2⟩ := bcell hb
            obtain ⟨A1, n1, k1, rfl, hn1⟩ := hv'.shape
            have HP2 := Lib.hid ((HPS.out.below hb).store hv')
            have hnab : ab ≠ sb := by omega
            clear hb hv' hn1 HPT
            go_wp2_with fail
            refine (HQP.out _ _ HP2.out).mono ?_
            rintro e w3 ⟨rfl, hp3⟩
            have HP3 := Lib.hid hp3
            clear hp3 HP2 hc2 hf2 hsb2 hs2 HQP g0 g1
            go_wp2_with fail
        case' true =>
          have HCL := Lib.hid (HPS.out.store1 (InB.nil w0 _)).clr
          go_wp2_with fail
          refine HCL.out.mono ?_
          rintro e w3 ⟨rfl, hp3⟩
          have HP3 := Lib.hid hp3
          obtain ⟨Ln, hLn⟩ : ∃ Ln : List Int, Ln = [] := ⟨_, rfl⟩
          rw [← hLn] at HP3
          clear hLn hp3 HCL HV HN0
          go_wp2_with fail
      all_goals
        have HF := Lib.hid HP3.out.first
        clear c0 c1 d0 f0 f1
        cases Ln with
        | nil =>
          refine HF.out.mono ?_
          rintro e w4 ⟨rfl, hp4⟩
          obtain ⟨v4, hs4, hv4⟩ := hp4.s
          have HV4 := Lib.hid hv4
          obtain ⟨A4, n4, k4, rfl, hn4⟩ := hv4.shape
          have c0 := cell_of_row w4 sb 0 _ _ _ hs4
          have c1 := cell_of_row w4 sb 1 _ _ _ hs4
          simp at c0 c1
          have hsb4 : sb < w4.heap.size := by have := hp4.size; omega
          simp at hn4
          subst hn4
          have hm0 : ¬ m = 0 := by omega
          have hm0i : ¬ (m : Int) = 0 := by omega
          have hm0j : ¬ (0 : Int) = (m : Int) := by omega
          have HP4 := Lib.hid hp4
          clear hp4 hs4 hv4
          go_upto_region 25 with (fail)
          go_cut [150] (fun b wx => b = .bool false ∧ PS w wx sb m [] [])
          case first =>
            have HAL := Lib.hid (fun W (h : Below w4.heap.size w4 W) => ((HP4.out.below h).all))
            have HSM := Lib.hid (fun W va (h1 : IntsAt W va []) (h : Below w4.heap.size w4 W) => same_any va (.slice A4 0 k4) [] W h1 (HV4.out.below h).reads)
            have HLE := Lib.hid (fun W (h : Below w4.heap.size w4 W) => (show Calls Try.prog 17 #[.pointer (some ⟨w.heap.size + 1, 0, none⟩)] W fun e w' => e = .returned (.int .i64 0) ∧ Below W.heap.size W w' by simpa using (HP4.out.below h).len (n := 0) rfl))
            have HFU := Lib.hid (fun W (h : Below w4.heap.size w4 W) => (show Calls Try.prog 18 #[.pointer (some ⟨w.heap.size + 1, 0, none⟩)] W fun e w' => e = .returned (.bool false) ∧ Below W.heap.size W w' by have := (HP4.out.below h).full (n := 0) rfl; rwa [show decide (0 = m) = false by simp; omega] at this))
            have HE : ((0 : Int) == (m : Int)) = false := by simp; omega
            go_region_held3 (fun w' => w'.cell? ⟨sb, 1, none⟩ = some (.slice A4 0 k4)) (first | (go_keep; done) | (exact cell_below (w := w4) (by (repeat (first | exact BF.out | exact Below.refl _ _ | refine Below.setCell ?_ (by first | omega | (simp; omega) | simp) _ | refine Below.alloc ?_ (by first | omega | (simp; omega) | simp) _ | apply below_drew))) c1)) (first | (go_at_call 19; refine (HAL.out _ (by (repeat (first | exact BF.out | exact Below.refl _ _ | refine Below.setCell ?_ (by first | omega | (simp; omega) | simp) _ | refine Below.alloc ?_ (by first | omega | (simp; omega) | simp) _ | apply below_drew)))).mono ?_; rintro e w5 ⟨va, rfl, hia, hbf⟩; have HIA := Lib.hid hia; clear hia; have bf : Below w4.heap.size w4 w5 := below_then (by (repeat (first | exact BF.out | exact Below.refl _ _ | refine Below.setCell ?_ (by first | omega | (simp; omega) | simp) _ | refine Below.alloc ?_ (by first | omega | (simp; omega) | simp) _ | apply below_drew))) (by first | simp; done | omega | (simp; omega)) hbf; have q4 := bf.size; have BF := Lib.hid bf; clear hbf bf) | (go_at_call 20; refine (HSM.out _ _ (HIA.out.below (by repeat (first | exact Below.refl _ _ | apply below_drew))) (by (repeat (first | exact BF.out | exact Below.refl _ _ | refine Below.setCell ?_ (by first | omega | (simp; omega) | simp) _ | refine Below.alloc ?_ (by first | omega | (simp; omega) | simp) _ | apply below_drew)))).mono ?_; rintro e w5 ⟨rfl, hbf⟩; have bf : Below w4.heap.size w4 w5 := below_then (by (repeat (first | exact BF.out | exact Below.refl _ _ | refine Below.setCell ?_ (by first | omega | (simp; omega) | simp) _ | refine Below.alloc ?_ (by first | omega | (simp; omega) | simp) _ | apply below_drew))) (by first | simp; done | omega | (simp; omega)) hbf; have q4 := bf.size; have BF := Lib.hid bf; clear hbf bf) | (go_at_call 17; refine (HLE.out _ (by (repeat (first | exact BF.out | exact Below.refl _ _ | refine Below.setCell ?_ (by first | omega | (simp; omega) | simp) _ | refine Below.alloc ?_ (by first | omega | (simp; omega) | simp) _ | apply below_drew)))).mono ?_; rintro e w5 ⟨rfl, hbf⟩; have bf : Below w4.heap.size w4 w5 := below_then (by (repeat (first | exact BF.out | exact Below.refl _ _ | refine Below.setCell ?_ (by first | omega | (simp; omega) | simp) _ | refine Below.alloc ?_ (by first | omega | (simp; omega) | simp) _ | apply below_drew))) (by first | simp; done | omega | (simp; omega)) hbf; have q4 := bf.size; have BF := Lib.hid bf; clear hbf bf) | (go_at_call 18; refine (HFU.out _ (by (repeat (first | exact BF.out | exact Below.refl _ _ | refine Below.setCell ?_ (by first | omega | (simp; omega) | simp) _ | refine Below.alloc ?_ (by first | omega | (simp; omega) | simp) _ | apply below_drew)))).mono ?_; rintro e w5 ⟨rfl, hbf⟩; have bf : Below w4.heap.size w4 w5 := below_then (by (repeat (first | exact BF.out | exact Below.refl _ _ | refine Below.setCell ?_ (by first | omega | (simp; omega) | simp) _ | refine Below.alloc ?_ (by first | omega | (simp; omega) | simp) _ | apply below_drew))) (by first | simp; done | omega | (simp; omega)) hbf; have q4 := bf.size; have BF := Lib.hid bf; clear hbf bf))
            all_goals (go_wp2_with fail; go_meet; first | exact ⟨rfl, HP4.out.below (by (repeat (first | exact BF.out | exact Below.refl _ _ | refine Below.setCell ?_ (by first | omega | (simp; omega) | simp) _ | refine Below.alloc ?_ (by first | omega | (simp; omega) | simp) _ | apply below_drew)))⟩ | trace_state)
          case rest =>
            obtain ⟨rfl, hp5⟩ := hcut
            have HP5 := Lib.hid hp5
            clear hp5
            go_wp2
            go_roundw
            case rel => exact ⟨k + 1, [], by omega, by omega, by go_num, HP5.out⟩
            case measure => simp [intOf]; omega
        | cons z zs =>
          refine HF.out.mono ?_
          rintro e w4 ⟨rfl, hp4⟩
          obtain ⟨v4, hs4, hv4⟩ := hp4.s
          have HV4 := Lib.hid hv4
          obtain ⟨A4, n4, k4, rfl, hn4⟩ := hv4.shape
          have c0 := cell_of_row w4 sb 0 _ _ _ hs4
          have c1 := cell_of_row w4 sb 1 _ _ _ hs4
          simp at c0 c1
          have hsb4 : sb < w4.heap.size := by have := hp4.size; omega
          have hn4f : (0 : Int) < (n4 : Int) := by simp at hn4; omega
          have hn4g : 0 < n4 := by omega
          obtain ⟨b4, o4, rfl, hz4⟩ := hv4.head
          have hz4l := cell_lt hz4
          have HN4 := Lib.hid hn4
          have HP4 := Lib.hid hp4
          clear hn4 hp4 hs4 hv4
          go_upto_region 25 with (fail)
          clear hn4f hn4g
          go_cut [150] (fun b wx => b = .bool false ∧ PS w wx sb m (z :: zs) (z :: zs))
          case first =>
            have HAL := Lib.hid (fun W (h : Below w4.heap.size w4 W) => ((HP4.out.below h).all))
            have HSM := Lib.hid (fun W va (h1 : IntsAt W va (z :: zs)) (h : Below w4.heap.size w4 W) => same_any va (.slice (some ⟨b4, o4, none⟩) n4 k4) (z :: zs) W h1 (HV4.out.below h).reads)
            have HLE := Lib.hid (fun W (h : Below w4.heap.size w4 W) => ((HP4.out.below h).len HN4.out))
            have HFU := Lib.hid (fun W (h : Below w4.heap.size w4 W) => ((HP4.out.below h).full HN4.out))
            have HE : ((n4 : Int) == (m : Int)) = decide (n4 = m) := by rw [Bool.eq_iff_iff]; simp; omega
            go_region_held3 (fun w' => w'.cell? ⟨sb, 1, none⟩ = some (.slice (some ⟨b4, o4, none⟩) n4 k4)) (first | (go_keep; done) | (exact cell_below (w := w4) (by (repeat (first | exact BF.out | exact Below.refl _ _ | refine Below.setCell ?_ (by first | omega | (simp; omega) | simp) _ | refine Below.alloc ?_ (by first | omega | (simp; omega) | simp) _ | apply below_drew))) c1)) (first | (go_at_call 19; refine (HAL.out _ (by (repeat (first | exact BF.out | exact Below.refl _ _ | refine Below.setCell ?_ (by first | omega | (simp; omega) | simp) _ | refine Below.alloc ?_ (by first | omega | (simp; omega) | simp) _ | apply below_drew)))).mono ?_; rintro e w5 ⟨va, rfl, hia, hbf⟩; have HIA := Lib.hid hia; clear hia; have bf : Below w4.heap.size w4 w5 := below_then (by (repeat (first | exact BF.out | exact Below.refl _ _ | refine Below.setCell ?_ (by first | omega | (simp; omega) | simp) _ | refine Below.alloc ?_ (by first | omega | (simp; omega) | simp) _ | apply below_drew))) (by first | simp; done | omega | (simp; omega)) hbf; have q4 := bf.size; have BF := Lib.hid bf; clear hbf bf) | (go_at_call 20; refine (HSM.out _ _ (HIA.out.below (by repeat (first | exact Below.refl _ _ | apply below_drew))) (by (repeat (first | exact BF.out | exact Below.refl _ _ | refine Below.setCell ?_ (by first | omega | (simp; omega) | simp) _ | refine Below.alloc ?_ (by first | omega | (simp; omega) | simp) _ | apply below_drew)))).mono ?_; rintro e w5 ⟨rfl, hbf⟩; have bf : Below w4.heap.size w4 w5 := below_then (by (repeat (first | exact BF.out | exact Below.refl _ _ | refine Below.setCell ?_ (by first | omega | (simp; omega) | simp) _ | refine Below.alloc ?_ (by first | omega | (simp; omega) | simp) _ | apply below_drew))) (by first | simp; done | omega | (simp; omega)) hbf; have q4 := bf.size; have BF := Lib.hid bf; clear hbf bf) | (go_at_call 17; refine (HLE.out _ (by (repeat (first | exact BF.out | exact Below.refl _ _ | refine Below.setCell ?_ (by first | omega | (simp; omega) | simp) _ | refine Below.alloc ?_ (by first | omega | (simp; omega) | simp) _ | apply below_drew)))).mono ?_; rintro e w5 ⟨rfl, hbf⟩; have bf : Below w4.heap.size w4 w5 := below_then (by (repeat (first | exact BF.out | exact Below.refl _ _ | refine Below.setCell ?_ (by first | omega | (simp; omega) | simp) _ | refine Below.alloc ?_ (by first | omega | (simp; omega) | simp) _ | apply below_drew))) (by first | simp; done | omega | (simp; omega)) hbf; have q4 := bf.size; have BF := Lib.hid bf; clear hbf bf) | (go_at_call 18; refine (HFU.out _ (by (repeat (first | exact BF.out | exact Below.refl _ _ | refine Below.setCell ?_ (by first | omega | (simp; omega) | simp) _ | refine Below.alloc ?_ (by first | omega | (simp; omega) | simp) _ | apply below_drew)))).mono ?_; rintro e w5 ⟨rfl, hbf⟩; have bf : Below w4.heap.size w4 w5 := below_then (by (repeat (first | exact BF.out | exact Below.refl _ _ | refine Below.setCell ?_ (by first | omega | (simp; omega) | simp) _ | refine Below.alloc ?_ (by first | omega | (simp; omega) | simp) _ | apply below_drew))) (by first | simp; done | omega | (simp; omega)) hbf; have q4 := bf.size; have BF := Lib.hid bf; clear hbf bf))
            all_goals (go_wp2_with fail; go_meet; first | exact ⟨rfl, HP4.out.below (by (repeat (first | exact BF.out | exact Below.refl _ _ | refine Below.setCell ?_ (by first | omega | (simp; omega) | simp) _ | refine Below.alloc ?_ (by first | omega | (simp; omega) | simp) _ | apply below_drew)))⟩ | trace_state)
          case rest =>
            obtain ⟨rfl, hp5⟩ := hcut
            have HP5 := Lib.hid hp5
            clear hp5
            go_wp2
            go_roundw
            case rel => exact ⟨k + 1, (z :: zs), by omega, by omega, by go_num, HP5.out⟩
            case measure => simp [intOf]; omega
    · clear hps hs hv
      by_cases hkl2 : k < l.length
      · have hi1 : (k : Int) < l.length := by omega
        have hi2 : ¬ (k : Int) < 24 := by omega
        go_wp2_with (go_at_call 11; refine (lives_any _).mono ?_; rintro e w' ⟨rfl, hb⟩)
        go_ret
        exact ⟨rfl, HPS.out.bel.trans (hb.mono HPS.out.bel.size)⟩
      · have hi1 : ¬ (k : Int) < l.length := by omega
        go_wp2_with (go_at_call 11; refine (lives_any _).mono ?_; rintro e w' ⟨rfl, hb⟩)
        go_ret
        exact ⟨rfl, HPS.out.bel.trans (hb.mono HPS.out.bel.size)⟩
end Go.Proofs.Ytjhecdmgblicoaa
