/- The walk of BitsOwns. -/
import Derived.Test.YtodeeheojmnjdaaLawAdds
namespace Go.Proofs.Ytodeeheojmnjdaa
open Go.RowKit
set_option linter.unusedVariables false

set_option maxRecDepth 100000 in
set_option maxHeartbeats 1000000 in
theorem law_owns (v : Value) (l : List Bool) (a : Int) (w : World) (H : BB w 0 v l) (ha : (Lit.int .i64 a).wf = true) :
    Calls Try.prog 5 #[v, .int .i64 a] w fun e w' => e = .returned (.bool true) ∧ Below w.heap.size w w' := by
  have HF := Lib.hid (few_any v l 0 10 w H (by omega))
  have HAr := Lib.hid (fun m h1 h2 => around_some a m h1 h2 ha)
  obtain ⟨A, c, rfl, _⟩ := H.shape
  clear H
  have hl : (l.take 10).length ≤ 10 := by simp; omega
  generalize l.take 10 = L at *
  go_enter Try.func5, Try.ntmps5
  go_wp2_with fail
  refine HF.out.mono ?_
  rintro e w' ⟨y1, rfl, hy1, rfl⟩
  have HY := Lib.hid hy1
  clear hy1 HF
  go_wp2_with (first | (at_builtin; refine app_bb (own_nil w w.heap.size 4 1) HY.out rfl rfl rfl rfl (Nat.le_refl _) (by omega) ?_; intro vo w1 hown hgr; rw [Nat.zero_add, List.nil_append] at hown; have HB := Lib.hid ((Below.refl w.heap.size w).grown hgr (Nat.le_refl _) (by simp [Value.ownBlock])); have HO := Lib.hid hown; clear hown hgr HY) | (at_builtin; refine app_bb (own_nil _ _ 4 1) (own_BB HO.out) rfl rfl rfl rfl (Nat.le_refl _) (by omega) ?_; intro vk w2 hownk hgrk; rw [Nat.zero_add, List.nil_append] at hownk))
  have hb2 : Below w1.heap.size w1 w2 := (Below.refl _ _).grown hgrk (Nat.le_refl _) (by simp [Value.ownBlock])
  have HB2 := Lib.hid hb2
  have HK2 := Lib.hid (own_BB hownk)
  have HO2 := Lib.hid (own_below HO.out hb2)
  clear hownk hgrk hb2
  refine (new_any L _ w2 ((own_BB HO2.out).mono (Nat.zero_le _)) (by omega)).mono ?_
  rintro e w3 ⟨bs, hbs, rfl, hs, hb⟩
  have HS3 := Lib.hid hs
  have HB3 := Lib.hid hb
  clear hs hb
  go_wp2_with fail
  refine (left_any _ _ _ _ HS3.out).mono ?_
  rintro e w4 ⟨vl, rfl, hownl, hb⟩
  rw [Nat.sub_zero, List.drop_zero] at hownl
  have HB4 := Lib.hid hb
  have HO4 := Lib.hid (own_below (own_below HO2.out HB3.out) hb)
  have HL4 := Lib.hid hownl
  have hz1 := HB.out.size
  have hz2 := HB2.out.size
  have hz3 := HB3.out.size
  have hz4 := hb.size
  have HLT := Lib.hid HO.out.lt
  obtain ⟨Ao, co, rfl⟩ := own_slice HO.out
  obtain ⟨Al, cl, rfl⟩ := own_slice hownl
  have HK3 := Lib.hid (HK2.out.below HB3.out)
  have HBW := Lib.hid (HB.out.trans ((HB2.out.mono hz1).trans ((HB3.out.mono (Nat.le_trans hz1 hz2)).trans (hb.mono (Nat.le_trans hz1 (Nat.le_trans hz2 hz3))))))
  have HKK := Lib.hid (fun i (hi : i < w3.heap.size) => hb.block i hi)
  clear hb hownl HB HO HB2 HK2 HO2 HB3 HB4
  have hll : (L.length : Int) ≤ 10 := by omega
  go_wp2_with fail
  go_loopw [9] (fun c wr => ∃ (k : Nat), k ≤ L.length ∧ c = .int .i64 k ∧ (∃ ys : List Bool, ys.length = L.length ∧ wr.ownsRow w.heap.size 4 1 (.slice Ao L.length co) L.length (bools ys)) ∧ (∃ ys : List Bool, ys.length = L.length ∧ wr.ownsRow w3.heap.size 4 1 (.slice Al L.length cl) L.length (bools ys)) ∧ (∀ i, w1.heap.size ≤ i → i < w3.heap.size → wr.heap[i]? = w3.heap[i]?) ∧ Below w.heap.size w wr ∧ w4.heap.size ≤ wr.heap.size) (fun c _ => L.length - (intOf c).toNat)
  case atStart => exact ⟨0, by omega, rfl, ⟨L, rfl, HO4.out⟩, ⟨L, rfl, HL4.out⟩, fun i _ h => HKK.out i h, HBW.out, Nat.le_refl _⟩
  case round =>
    obtain ⟨k, hk, rfl, ⟨ys, hys, hown⟩, hol, hfar, hbel, hsz⟩ := hrel
    have HFAR := Lib.hid hfar
    have HBE := Lib.hid hbel
    clear HO4 HL4 HKK HBW
    by_cases hlt : k < L.length
    · have hki : (k : Int) < (L.length : Int) := by omega
      obtain ⟨g, cap, he, hg1, hg2⟩ := World.ownsRow.form hown (by omega)
      injection he with e1 _ e2
      subst e1 e2
      obtain ⟨zs, hzs, hol⟩ := hol
      have d0 := hown.cellAt k (by omega)
      have f0 := hown.frozenAt k
      rw [show (bools ys)[k]? = some (.bool (ys.getD k false)) by simp [bools, List.getElem?_eq_getElem (show k < ys.length by omega), List.getD_eq_getElem?_getD]] at d0
      have hgl := (HLT.out g rfl).2
      have HOW := Lib.hid hown
      have HOL := Lib.hid hol
      clear hown hbel hfar hol
      generalize ys.getD k false = x at *
      go_wp2
      go_roundw
      case rel =>
        refine ⟨k + 1, by omega, by go_num, ⟨ys.set k (!x), by simpa using hys, by have := (HOW.out.stored k (.bool (!x))).1; simpa [bools, List.map_set] using this⟩, ⟨zs, hzs, own_keep HOL.out fun i hi _ => Go.heap_setCell_other _ _ _ _ (by show i ≠ g; omega)⟩, fun i h1 h2 => (Go.heap_setCell_other _ _ _ _ (by show i ≠ g; omega)).trans (HFAR.out i h1 h2), HBE.out.setCell hg1 _, by simpa using hsz⟩
      case measure => simp [intOf]; omega
    · have e : k = L.length := by omega
      subst e
      have HOL := Lib.hid hol
      obtain ⟨wo, rfl⟩ : ∃ wo : World, wo = wr := ⟨_, rfl⟩
      clear hown hbel hfar hol
      go_wp2_with fail
      go_loopw [10] (fun c wr => ∃ (k : Nat), k ≤ L.length ∧ c = .int .i64 k ∧ (∃ ys : List Bool, ys.length = L.length ∧ wr.ownsRow w3.heap.size 4 1 (.slice Al L.length cl) L.length (bools ys)) ∧ (∀ i, w1.heap.size ≤ i → i < w3.heap.size → wr.heap[i]? = w3.heap[i]?) ∧ Below w.heap.size w wr ∧ w4.heap.size ≤ wr.heap.size) (fun c _ => L.length - (intOf c).toNat)
      case atStart => exact ⟨0, by omega, rfl, HOL.out, HFAR.out, HBE.out, hsz⟩
      case round =>
        obtain ⟨k, hk, rfl, ⟨ys, hys, hown⟩, hfar, hbel, hsz⟩ := hrel
        clear HFAR HBE HOL
        have HFAR := Lib.hid hfar
        have HBE := Lib.hid hbel
        by_cases hlt : k < L.length
        · have hki : (k : Int) < (L.length : Int) := by omega
          obtain ⟨g, cap, he, hg1, hg2⟩ := World.ownsRow.form hown (by omega)
          injection he with e1 _ e2
          subst e1 e2
          have d0 := hown.cellAt k (by omega)
          have f0 := hown.frozenAt k
          rw [show (bools ys)[k]? = some (.bool (ys.getD k false)) by simp [bools, List.getElem?_eq_getElem (show k < ys.length by omega), List.getD_eq_getElem?_getD]] at d0
          have HOW := Lib.hid hown
          clear hown hbel hfar
          generalize ys.getD k false = x at *
          go_wp2
          go_roundw
          case rel =>
            refine ⟨k + 1, by omega, by go_num, ⟨ys.set k (!x), by simpa using hys, by have := (HOW.out.stored k (.bool (!x))).1; simpa [bools, List.map_set] using this⟩, fun i h1 h2 => (Go.heap_setCell_other _ _ _ _ (by show i ≠ g; omega)).trans (HFAR.out i h1 h2), HBE.out.setCell (show w.heap.size ≤ g by omega) _, by simpa using hsz⟩
          case measure => simp [intOf]; omega
        · have e : k = L.length := by omega
          subst e
          have hS := HS3.out.keep (fun i h1 h2 => hfar i (by omega) h2)
          have hK := HK3.out.keep (fun i h1 h2 => hfar i h1 h2)
          obtain ⟨q, q0, q1, hQ⟩ := HAr.out ((L.length : Int) + 1) (by omega) (by omega)
          obtain ⟨q, rfl⟩ := Int.eq_ofNat_of_zero_le q0
          have HQ := Lib.hid hQ
          have HS := Lib.hid hS
          have HK := Lib.hid hK
          obtain ⟨Ak, ck, rfl, hck1, hck2⟩ := hK.shape
          obtain ⟨wo, rfl⟩ : ∃ wo : World, wo = wr := ⟨_, rfl⟩
          have hw : IntKind.i64.wrap ((L.length : Int) + 1) = (L.length : Int) + 1 := by rw [IntKind.wrap_i64]; omega
          clear hown hbel hfar hS hK hQ
          go_wp2_with fail
          refine (HQ.out _).mono ?_
          rintro e w' ⟨rfl, rfl⟩
          go_wp2_with fail
          go_loopw [12] (fun c wr => ∃ (k : Nat), k ≤ q ∧ c = .int .i64 k ∧ SAt wr bs L k ∧ BB wr 0 (.slice Ak L.length ck) L ∧ Below w.heap.size w wr) (fun c _ => q - (intOf c).toNat)
          case atStart => exact ⟨0, by omega, rfl, HS.out, HK.out.mono (Nat.zero_le _), HBE.out⟩
          case round =>
            obtain ⟨k, hk, rfl, hs, hkk, hbel⟩ := hrel
            clear HBE HFAR HK HS
            have HBE := Lib.hid hbel
            have HK := Lib.hid hkk
            have HS := Lib.hid hs
            by_cases hlt : k < q
            · have hki : (k : Int) < (q : Int) := by omega
              have hkl : k < L.length := by omega
              have hkli : (k : Int) < (L.length : Int) := by omega
              obtain ⟨ab, ao, rfl, _, hcell⟩ := hkk.at (by omega)
              have d0 := hcell k hkl
              obtain ⟨x, hx⟩ : ∃ x, x = L.getD k false := ⟨_, rfl⟩
              have HP := Lib.hid (fun W (h : Below wr.heap.size wr W) => next_some bs k L W (hs.below h) hkl)
              rw [← hx] at d0 HP
              have HX := Lib.hid hx
              obtain ⟨wo, rfl⟩ : ∃ wo : World, wo = wr := ⟨_, rfl⟩
              have hbsw : w.heap.size ≤ bs := by omega
              clear hs hkk hbel hcell hx
              go_upto_region 21 with (fail)
              go_cut [70] (fun b wx => b = .bool false ∧ SAt wx bs L (k + 1) ∧ BB wx 0 (.slice (some ⟨ab, ao, none⟩) L.length ck) L ∧ Below w.heap.size w wx)
              case first =>
                go_region_held3 (fun w' => w'.cell? ⟨ab, ao + k, none⟩ = some (.bool x)) (first | (go_keep; done) | exact d5) (first | (go_at_call 12; refine (HP.out _ (by repeat (first | exact Below.refl _ _ | apply below_drew))).mono ?_; rintro e w5 ⟨rfl, hs5, ho5⟩; have hk5 := (HK.out.below (by repeat (first | exact Below.refl _ _ | apply below_drew))).other (HS.out.below (by repeat (first | exact Below.refl _ _ | apply below_drew))) ho5; have hb5 := (HBE.out.trans (Below.mono (by repeat (first | exact Below.refl _ _ | apply below_drew)) HBE.out.size)).trans (ho5.below hbsw (by first | exact HBE.out.size | simpa using HBE.out.size)); obtain ⟨_, _, e5, _, hc5⟩ := hk5.at (by omega); have d5 := hc5 k hkl; injection e5 with e5; injection e5 with e6 e7; subst e6 e7; rw [← HX.out] at d5; have HS5 := Lib.hid hs5; have HK5 := Lib.hid hk5; have HB5 := Lib.hid hb5; clear hs5 ho5 hk5 hb5 hc5))
                all_goals (go_wp2_with fail; go_meet; exact ⟨rfl, HS5.out.below (by repeat (first | exact Below.refl _ _ | apply below_drew)), HK5.out.below (by repeat (first | exact Below.refl _ _ | apply below_drew)), HB5.out.trans (Below.mono (by repeat (first | exact Below.refl _ _ | apply below_drew)) HB5.out.size)⟩)
              case rest =>
                obtain ⟨rfl, hs5, hk5, hb5⟩ := hcut
                have HS5 := Lib.hid hs5
                have HK5 := Lib.hid hk5
                have HB5 := Lib.hid hb5
                clear hs5 hk5 hb5
                go_wp2
                go_roundw
                case rel => exact ⟨k + 1, by omega, by go_num, HS5.out, HK5.out, HB5.out⟩
                case measure => simp [intOf]; omega
            · have e : k = q := by omega
              subst e
              have hql : k ≤ L.length := by omega
              have hqi : (k : Int) ≤ (L.length : Int) := by omega
              have hk0 : (0 : Int) ≤ (k : Int) := by omega
              clear hs hkk hbel
              rcases Nat.lt_or_ge k ck with hck | hck
              · obtain ⟨ab, ao, rfl, _⟩ := HK.out.ptr (by omega)
                have HKD := Lib.hid (HK.out.drop hql)
                have hcc1 : ¬ ck - k = 0 := by omega
                have hcc2 : ¬ ck = k := by omega
                have hcci : (k : Int) ≤ (ck : Int) := by omega
                obtain ⟨wo, rfl⟩ : ∃ wo : World, wo = wr := ⟨_, rfl⟩
                have HLF := Lib.hid (fun W (h : Below wo.heap.size wo W) => left_any bs k L W (HS.out.below h))
                have HSM := Lib.hid (fun W vl B (h1 : BB W B vl (L.drop k)) (h : Below wo.heap.size wo W) => same_any vl (.slice (some ⟨ab, ao + k, none⟩) (L.length - k) (ck - k)) (L.drop k) B 0 W h1 (HKD.out.below h))
                go_upto_region 23 with (fail)
                go_cut [4] (fun b wx => b = .bool true ∧ Below w.heap.size w wx)
                case first =>
                  go_region_held3 (fun w' => True) (trivial) (first | (go_at_call 17; refine (HLF.out _ (by (repeat (first | exact BF.out | exact Below.refl _ _ | refine Below.setCell ?_ (by first | omega | (simp; omega) | simp) _ | refine Below.alloc ?_ (by first | omega | (simp; omega) | simp) _ | apply below_drew)))).mono ?_; rintro e w5 ⟨vl, rfl, hown, hbf⟩; have HOL := Lib.hid (own_BB hown); clear hown; have bf : Below wo.heap.size wo w5 := below_then (by (repeat (first | exact BF.out | exact Below.refl _ _ | refine Below.setCell ?_ (by first | omega | (simp; omega) | simp) _ | refine Below.alloc ?_ (by first | omega | (simp; omega) | simp) _ | apply below_drew))) (by first | simp; done | omega | (simp; omega)) hbf; have q4 := bf.size; have BF := Lib.hid bf; clear hbf bf) | (go_at_call 16; refine (HSM.out _ _ _ (HOL.out.below (by repeat (first | exact Below.refl _ _ | apply below_drew))) (by (repeat (first | exact BF.out | exact Below.refl _ _ | refine Below.setCell ?_ (by first | omega | (simp; omega) | simp) _ | refine Below.alloc ?_ (by first | omega | (simp; omega) | simp) _ | apply below_drew)))).mono ?_; rintro e w5 ⟨rfl, hbf⟩; have bf : Below wo.heap.size wo w5 := below_then (by (repeat (first | exact BF.out | exact Below.refl _ _ | refine Below.setCell ?_ (by first | omega | (simp; omega) | simp) _ | refine Below.alloc ?_ (by first | omega | (simp; omega) | simp) _ | apply below_drew))) (by first | simp; done | omega | (simp; omega)) hbf; have q4 := bf.size; have BF := Lib.hid bf; clear hbf bf) | (go_at_call 18; refine (lives_any _).mono ?_; rintro e w5 ⟨rfl, hbf⟩; have bf : Below wo.heap.size wo w5 := below_then (by (repeat (first | exact BF.out | exact Below.refl _ _ | refine Below.setCell ?_ (by first | omega | (simp; omega) | simp) _ | refine Below.alloc ?_ (by first | omega | (simp; omega) | simp) _ | apply below_drew))) (by first | simp; done | omega | (simp; omega)) hbf; have q4 := bf.size; have BF := Lib.hid bf; clear hbf bf))
                  all_goals (go_wp2_with fail; go_meet; exact ⟨rfl, HBE.out.trans (Below.mono (by (repeat (first | exact BF.out | exact Below.refl _ _ | refine Below.setCell ?_ (by first | omega | (simp; omega) | simp) _ | refine Below.alloc ?_ (by first | omega | (simp; omega) | simp) _ | apply below_drew))) HBE.out.size)⟩)
                case rest =>
                  obtain ⟨rfl, hb5⟩ := hcut
                  go_wp2
                  go_ret
                  exact ⟨rfl, hb5⟩
              · obtain rfl : ck = k := by omega
                have hcc1 : ck - ck = 0 := by omega
                have e0 : L.length - ck = 0 := by omega
                have HKD := Lib.hid (show BB wr 0 (.slice Ak 0 0) (L.drop ck) by
                  rw [List.drop_eq_nil_of_le (by omega)]
                  exact ⟨Ak, 0, rfl, by simp, by simp, by simp, by simp⟩)
                obtain ⟨wo, rfl⟩ : ∃ wo : World, wo = wr := ⟨_, rfl⟩
                have HLF := Lib.hid (fun W (h : Below wo.heap.size wo W) => left_any bs ck L W (HS.out.below h))
                have HSM := Lib.hid (fun W vl B (h1 : BB W B vl (L.drop ck)) (h : Below wo.heap.size wo W) => same_any vl (.slice Ak 0 0) (L.drop ck) B 0 W h1 (HKD.out.below h))
                go_upto_region 23 with (fail)
                go_cut [4] (fun b wx => b = .bool true ∧ Below w.heap.size w wx)
                case first =>
                  go_region_held3 (fun w' => True) (trivial) (first | (go_at_call 17; refine (HLF.out _ (by (repeat (first | exact BF.out | exact Below.refl _ _ | refine Below.setCell ?_ (by first | omega | (simp; omega) | simp) _ | refine Below.alloc ?_ (by first | omega | (simp; omega) | simp) _ | apply below_drew)))).mono ?_; rintro e w5 ⟨vl, rfl, hown, hbf⟩; have HOL := Lib.hid (own_BB hown); clear hown; have bf : Below wo.heap.size wo w5 := below_then (by (repeat (first | exact BF.out | exact Below.refl _ _ | refine Below.setCell ?_ (by first | omega | (simp; omega) | simp) _ | refine Below.alloc ?_ (by first | omega | (simp; omega) | simp) _ | apply below_drew))) (by first | simp; done | omega | (simp; omega)) hbf; have q4 := bf.size; have BF := Lib.hid bf; clear hbf bf) | (go_at_call 16; refine (HSM.out _ _ _ (HOL.out.below (by repeat (first | exact Below.refl _ _ | apply below_drew))) (by (repeat (first | exact BF.out | exact Below.refl _ _ | refine Below.setCell ?_ (by first | omega | (simp; omega) | simp) _ | refine Below.alloc ?_ (by first | omega | (simp; omega) | simp) _ | apply below_drew)))).mono ?_; rintro e w5 ⟨rfl, hbf⟩; have bf : Below wo.heap.size wo w5 := below_then (by (repeat (first | exact BF.out | exact Below.refl _ _ | refine Below.setCell ?_ (by first | omega | (simp; omega) | simp) _ | refine Below.alloc ?_ (by first | omega | (simp; omega) | simp) _ | apply below_drew))) (by first | simp; done | omega | (simp; omega)) hbf; have q4 := bf.size; have BF := Lib.hid bf; clear hbf bf) | (go_at_call 18; refine (lives_any _).mono ?_; rintro e w5 ⟨rfl, hbf⟩; have bf : Below wo.heap.size wo w5 := below_then (by (repeat (first | exact BF.out | exact Below.refl _ _ | refine Below.setCell ?_ (by first | omega | (simp; omega) | simp) _ | refine Below.alloc ?_ (by first | omega | (simp; omega) | simp) _ | apply below_drew))) (by first | simp; done | omega | (simp; omega)) hbf; have q4 := bf.size; have BF := Lib.hid bf; clear hbf bf))
                  all_goals (go_wp2_with fail; go_meet; exact ⟨rfl, HBE.out.trans (Below.mono (by (repeat (first | exact BF.out | exact Below.refl _ _ | refine Below.setCell ?_ (by first | omega | (simp; omega) | simp) _ | refine Below.alloc ?_ (by first | omega | (simp; omega) | simp) _ | apply below_drew))) HBE.out.size)⟩)
                case rest =>
                  obtain ⟨rfl, hb5⟩ := hcut
                  go_wp2
                  go_ret
                  exact ⟨rfl, hb5⟩
end Go.Proofs.Ytodeeheojmnjdaa
