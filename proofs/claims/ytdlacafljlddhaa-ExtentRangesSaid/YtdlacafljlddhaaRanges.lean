/- The walk of ExtentRanges. -/
import Derived.Test.YtdlacafljlddhaaGState
namespace Go.Proofs.Ytdlacafljlddhaa
open Go.RowKit
set_option linter.unusedVariables false
set_option linter.unusedSimpArgs false

set_option maxRecDepth 100000 in
set_option maxHeartbeats 2000000 in
theorem law_ranges (f d s : Int) (A : Option Addr) (len cap : Nat) (l : List PartT) (t : Int) (w : World) (hin : InCfg w f d s A len cap l) (ht : (Lit.int .i64 t).wf = true) :
    Calls Try.prog 3 #[.agg #[.int .i64 f, .int .i64 d, .int .i64 s, .slice A len cap], .int .i64 t] w fun e w' => e = .returned (.bool true) ∧ Below w.heap.size w w' := by
  have HI := Lib.hid hin
  clear hin
  go_enter Try.func3, Try.ntmps3
  go_wp2_with fail
  refine (HI.out.good ((Below.refl _ _).alloc (Nat.le_refl _) _)).mono ?_
  rintro e w1 ⟨fr, de, sec, ps, gb, gcap, rfl, hp, hch, hl1, hl4, hs0, hs1, hcp, hgb, hb⟩
  have hst := GState.mk0 (fr := fr) (de := de) (sec := sec) (cap := gcap) ((((Below.refl w.heap.size w).alloc (Nat.le_refl _) _).trans (hb.mono (by simp)))) hp
  have HST := Lib.hid hst
  have HCH := Lib.hid hch
  have HFIT := Lib.hid (chain_fit hch hs1)
  clear hst hch hp hb hgb
  go_wp2_with fail
  obtain ⟨G, hG⟩ : ∃ G, G = w1.heap.size := ⟨_, rfl⟩
  rw [← hG] at HST ⊢
  clear hG
  go_loopw [6] (fun c wr => ∃ k : Nat, k ≤ ps.length + 1 ∧ c = .int .i64 k ∧ GState w wr G fr de sec gb gcap ps) (fun c _ => ps.length + 1 - (intOf c).toNat)
  case atStart => exact ⟨0, by omega, rfl, HST.out⟩
  case round =>
    obtain ⟨k, hk, rfl, hst⟩ := hrel
    clear HST
    obtain ⟨wo, rfl⟩ : ∃ wo : World, wo = wr := ⟨_, rfl⟩
    have HST := Lib.hid hst
    obtain ⟨g0, g1, g2, g3, g4, g5, g6⟩ := hst
    have HP := Lib.hid g4
    have HB := Lib.hid g5
    clear g4 g5
    by_cases hlt : k ≤ ps.length
    · obtain ⟨v, hv⟩ : ∃ v : Int, v = if k = ps.length then t else (k : Int) := ⟨_, rfl⟩
      have HV := Lib.hid hv
      clear hv
      go_upto_if 27 with (fail)
      go_cut [7] (fun x wx => x = .int .i64 v ∧ wx = wo)
      case first =>
        by_cases hkn : k = ps.length
        · have hv := HV.out
          rw [if_pos hkn] at hv
          subst hv
          have hb : ((k : Int) == (ps.length : Int)) = true := beq_iff_eq.2 (by omega)
          go_wp2_with fail
          go_meet
          exact ⟨rfl, rfl⟩
        · have hv := HV.out
          rw [if_neg hkn] at hv
          subst hv
          have hb : ((k : Int) == (ps.length : Int)) = false := beq_eq_false_iff_ne.2 (by omega)
          go_wp2_with fail
          go_meet
          exact ⟨rfl, rfl⟩
      case rest =>
        obtain ⟨rfl, rfl⟩ := hcut
        cases hx : at? ps v with
        | none =>
          have hr : rangeOf ps v = (0, 0) := by unfold rangeOf; rw [hx]
          have hno := at?_none hx
          have HR := Lib.hid hr
          clear hr hx
          go_wp2_with fail
          refine (range_any _ _ _ _ _ ps _ _ HP.out HFIT.out hl4).mono ?_
          rintro e w2 ⟨rfl, hb2⟩
          rw [HR.out]
          dsimp only
          have hst2 := HST.out.below hb2
          clear g0 g1 g2 g3 g6
          have HST2 := Lib.hid hst2
          obtain ⟨g0, g1, g2, g3, g4, g5, g6⟩ := hst2
          have HB2 := Lib.hid g5
          clear g4 g5 hb2
          rcases hno with hno | hno
          all_goals
            go_wp2_with fail
            go_loopw [11, 12] (fun c o wr => ∃ s : Nat, (s : Int) ≤ sec ∧ c = .int .i64 s ∧ GState w wr G fr de sec gb gcap ps) (fun c _ _ => sec.toNat - (intOf c).toNat)
            case atStart => exact ⟨0, by omega, rfl, HST2.out⟩
            case round =>
              obtain ⟨s, hs, rfl, hst⟩ := hrel
              clear g0 g1 g2 g3 g6 HST2
              have HST3 := Lib.hid hst
              obtain ⟨g0, g1, g2, g3, g4, g5, g6⟩ := hst
              have HP3 := Lib.hid g4
              clear g4 g5
              by_cases hsl : (s : Int) < sec
              · go_wp2_with fail
                refine (ref_owner_any _ _ _ _ _ ps _ _ HP3.out HFIT.out hl4).mono ?_
                rintro e w3 ⟨rfl, hb3⟩
                have HB3 := Lib.hid hb3
                clear hb3
                go_wp2_with fail
                go_roundw
                case rel => exact ⟨s + 1, by omega, by go_num, (HST3.out.below HB3.out).below ((Below.refl _ _).alloc (Nat.le_refl _) _)⟩
                case measure => simp [intOf]; omega
              · go_wp2_with fail
                go_roundw
                case rel => exact ⟨k + 1, by omega, by go_num, HST3.out⟩
                case measure => simp [intOf]; omega
        | some x =>
          obtain ⟨v0, v1, hxv⟩ := at?_some hx
          obtain ⟨v, rfl⟩ := Int.eq_ofNat_of_zero_le v0
          rw [Int.toNat_natCast] at hxv
          have hr : rangeOf ps (v : Int) = (x.2.1, x.2.1 + x.2.2 * 2) := by unfold rangeOf; rw [hx]
          obtain ⟨f0, f1, f2, f3⟩ := HFIT.out v _ hxv
          have hten : ∀ s : Int, (x.2.1 ≤ s ∧ s < x.2.1 + 2 * x.2.2) ↔ ((ownF ps 0 s).2.2.2 = true ∧ (ownF ps 0 s).1 = v) := fun s => own_tenant HCH.out hxv
          obtain ⟨q, b, p⟩ := x
          dsimp only at hr f0 f1 f2 f3 hten
          have HR := Lib.hid hr
          have HT := Lib.hid hten
          clear hr hx hxv hten
          go_wp2_with fail
          refine (range_any _ _ _ _ _ ps _ _ HP.out HFIT.out hl4).mono ?_
          rintro e w2 ⟨rfl, hb2⟩
          rw [HR.out]
          dsimp only
          have hst2 := HST.out.below hb2
          clear g0 g1 g2 g3 g6
          have HST2 := Lib.hid hst2
          obtain ⟨g0, g1, g2, g3, g4, g5, g6⟩ := hst2
          clear g4 g5 hb2
          go_wp2_with fail
          go_loopw [11, 12] (fun c o wr => ∃ s : Nat, (s : Int) ≤ sec ∧ c = .int .i64 s ∧ GState w wr G fr de sec gb gcap ps) (fun c _ _ => sec.toNat - (intOf c).toNat)
          case atStart => exact ⟨0, by omega, rfl, HST2.out⟩
          case round =>
            obtain ⟨s, hs, rfl, hst⟩ := hrel
            clear g0 g1 g2 g3 g6 HST2
            have HST3 := Lib.hid hst
            obtain ⟨g0, g1, g2, g3, g4, g5, g6⟩ := hst
            have HP3 := Lib.hid g4
            clear g4 g5
            by_cases hsl : (s : Int) < sec
            · have ht := HT.out s
              have ho : ∃ o, o = ownF ps 0 s := ⟨_, rfl⟩
              obtain ⟨o, ho⟩ := ho
              rw [← ho] at ht
              have HO := Lib.hid ho
              clear ho
              obtain ⟨ot, op, ok, ois⟩ := o
              dsimp only at ht
              go_wp2_with fail
              refine (ref_owner_any _ _ _ _ _ ps _ _ HP3.out HFIT.out hl4).mono ?_
              rintro e w3 ⟨rfl, hb3⟩
              rw [← HO.out]
              dsimp only
              have HB3 := Lib.hid hb3
              clear hb3
              by_cases hi : b ≤ (s : Int) ∧ (s : Int) < b + 2 * p
              · obtain ⟨hois, hot⟩ := ht.1 hi
                subst hois hot
                obtain ⟨i0, i1⟩ := hi
                have i2 : (s : Int) < b + p * 2 := by omega
                clear ht
                go_wp2_with fail
                go_roundw
                case rel => exact ⟨s + 1, by omega, by go_num, (HST3.out.below HB3.out).below ((Below.refl _ _).alloc (Nat.le_refl _) _)⟩
                case measure => simp [intOf]; omega
              · have hno : ¬ (ois = true ∧ ot = v) := fun h => hi (ht.2 h)
                have ib : (decide (b ≤ (s : Int)) && decide ((s : Int) < b + p * 2)) = false := by
                  rw [Bool.and_eq_false_iff, decide_eq_false_iff_not, decide_eq_false_iff_not]
                  omega
                clear ht
                cases ois with
                | false =>
                  clear hno
                  by_cases i0 : b ≤ (s : Int)
                  · have i1 : ¬ (s : Int) < b + p * 2 := by omega
                    go_wp2_with fail
                    go_roundw
                    case rel => exact ⟨s + 1, by omega, by go_num, (HST3.out.below HB3.out).below ((Below.refl _ _).alloc (Nat.le_refl _) _)⟩
                    case measure => simp [intOf]; omega
                  · go_wp2_with fail
                    go_roundw
                    case rel => exact ⟨s + 1, by omega, by go_num, (HST3.out.below HB3.out).below ((Below.refl _ _).alloc (Nat.le_refl _) _)⟩
                    case measure => simp [intOf]; omega
                | true =>
                  have hne : (ot == (v : Int)) = false := by rw [beq_eq_false_iff_ne]; exact fun h => hno ⟨rfl, h⟩
                  clear hno
                  by_cases i0 : b ≤ (s : Int)
                  · have i1 : ¬ (s : Int) < b + p * 2 := by omega
                    go_wp2_with fail
                    go_roundw
                    case rel => exact ⟨s + 1, by omega, by go_num, (HST3.out.below HB3.out).below ((Below.refl _ _).alloc (Nat.le_refl _) _)⟩
                    case measure => simp [intOf]; omega
                  · go_wp2_with fail
                    go_roundw
                    case rel => exact ⟨s + 1, by omega, by go_num, (HST3.out.below HB3.out).below ((Below.refl _ _).alloc (Nat.le_refl _) _)⟩
                    case measure => simp [intOf]; omega
            · go_wp2_with fail
              go_roundw
              case rel => exact ⟨k + 1, by omega, by go_num, HST3.out⟩
              case measure => simp [intOf]; omega
    · go_wp2_with fail
      refine (lives_any _).mono ?_
      rintro e w2 ⟨rfl, hb2⟩
      have HB2 := Lib.hid hb2
      clear hb2
      go_wp2_with fail
      go_ret
      exact ⟨rfl, HB.out.trans (HB2.out.mono HB.out.size)⟩
end Go.Proofs.Ytdlacafljlddhaa
