/- The walks of ExtentOwners and ExtentCovers. -/
import Derived.Test.YtdlacafljlddhaaGState
namespace Go.Proofs.Ytdlacafljlddhaa
open Go.RowKit
set_option linter.unusedVariables false
set_option linter.unusedSimpArgs false

set_option maxRecDepth 100000 in
set_option maxHeartbeats 2000000 in
theorem law_owners (f d s : Int) (A : Option Addr) (len cap : Nat) (l : List PartT) (n : Int) (w : World) (hin : InCfg w f d s A len cap l) (hn : (Lit.int .i64 n).wf = true) :
    Calls Try.prog 5 #[.agg #[.int .i64 f, .int .i64 d, .int .i64 s, .slice A len cap], .int .i64 n] w fun e w' => e = .returned (.bool true) ∧ Below w.heap.size w w' := by
  have HI := Lib.hid hin
  clear hin
  go_enter Try.func5, Try.ntmps5
  go_wp2_with fail
  refine (HI.out.good ((Below.refl _ _).alloc (Nat.le_refl _) _)).mono ?_
  rintro e w1 ⟨fr, de, sec, ps, gb, gcap, rfl, hp, hch, hl1, hl4, hs0, hs1, hcp, hgb, hb⟩
  have hst := GState.mk0 (fr := fr) (de := de) (sec := sec) (cap := gcap) ((((Below.refl w.heap.size w).alloc (Nat.le_refl _) _).trans (hb.mono (by simp)))) hp
  have HST := Lib.hid hst
  have HFIT := Lib.hid (chain_fit hch hs1)
  clear hst hch hp hb hgb
  go_wp2_with fail
  obtain ⟨G, hG⟩ : ∃ G, G = w1.heap.size := ⟨_, rfl⟩
  rw [← hG] at HST ⊢
  clear hG
  go_loopw [6] (fun c wr => ∃ k : Int, -1 ≤ k ∧ k ≤ sec + 2 ∧ c = .int .i64 k ∧ GState w wr G fr de sec gb gcap ps) (fun c _ => (sec + 2 - intOf c).toNat)
  case atStart => exact ⟨-1, by omega, by omega, rfl, HST.out⟩
  case round =>
    obtain ⟨k, hk0, hk, rfl, hst⟩ := hrel
    clear HST
    obtain ⟨wo, rfl⟩ : ∃ wo : World, wo = wr := ⟨_, rfl⟩
    have HST := Lib.hid hst
    obtain ⟨g0, g1, g2, g3, g4, g5, g6⟩ := hst
    have HP := Lib.hid g4
    have HB := Lib.hid g5
    clear g4 g5
    by_cases hlt : k ≤ sec + 1
    · obtain ⟨v, hv⟩ : ∃ v : Int, v = if sec < k then n else k := ⟨_, rfl⟩
      have HV := Lib.hid hv
      clear hv
      go_upto_if 26 with (fail)
      go_cut [7] (fun x wx => x = .int .i64 v ∧ wx = wo)
      case first =>
        by_cases hkn : sec < k
        · have hv := HV.out
          rw [if_pos hkn] at hv
          subst hv
          go_wp2_with fail
          go_meet
          exact ⟨rfl, rfl⟩
        · have hv := HV.out
          rw [if_neg hkn] at hv
          subst hv
          go_wp2_with fail
          go_meet
          exact ⟨rfl, rfl⟩
      case rest =>
        obtain ⟨rfl, rfl⟩ := hcut
        obtain ⟨o, ho⟩ : ∃ o, o = ownF ps 0 v := ⟨_, rfl⟩
        have HO := Lib.hid ho
        clear ho
        obtain ⟨ot, op, ok, ois⟩ := o
        go_wp2_with fail
        refine (owner_any _ _ _ _ _ ps _ _ HP.out HFIT.out hl4).mono ?_
        rintro e w2 ⟨rfl, hb2⟩
        rw [← HO.out]
        dsimp only
        have hst2 := HST.out.below hb2
        clear g0 g1 g2 g3 g6
        have HST2 := Lib.hid hst2
        obtain ⟨g0, g1, g2, g3, g4, g5, g6⟩ := hst2
        have HP2 := Lib.hid g4
        clear g4 g5 hb2
        go_wp2_with fail
        refine (ref_owner_any _ _ _ _ _ ps _ _ HP2.out HFIT.out hl4).mono ?_
        rintro e w3 ⟨rfl, hb3⟩
        rw [← HO.out]
        dsimp only
        have HB3 := Lib.hid hb3
        clear hb3
        go_wp2_with fail
        go_roundw
        case rel => exact ⟨k + 1, by omega, by omega, by go_num, (HST2.out.below HB3.out).below ((Below.refl _ _).alloc (Nat.le_refl _) _)⟩
        case measure => simp [intOf]; omega
    · go_wp2_with fail
      refine (lives_any _).mono ?_
      rintro e w2 ⟨rfl, hb2⟩
      have HB2 := Lib.hid hb2
      clear hb2
      go_wp2_with fail
      go_ret
      exact ⟨rfl, HB.out.trans (HB2.out.mono HB.out.size)⟩

set_option maxRecDepth 100000 in
set_option maxHeartbeats 2000000 in
theorem law_covers (f d s : Int) (A : Option Addr) (len cap : Nat) (l : List PartT) (w : World) (hin : InCfg w f d s A len cap l) :
    Calls Try.prog 6 #[.agg #[.int .i64 f, .int .i64 d, .int .i64 s, .slice A len cap]] w fun e w' => e = .returned (.bool true) ∧ Below w.heap.size w w' := by
  have HI := Lib.hid hin
  clear hin
  go_enter Try.func6, Try.ntmps6
  go_wp2_with fail
  refine (HI.out.good ((Below.refl _ _).alloc (Nat.le_refl _) _)).mono ?_
  rintro e w1 ⟨fr, de, sec, ps, gb, gcap, rfl, hp, hch, hl1, hl4, hs0, hs1, hcp, hgb, hb⟩
  obtain ⟨sec, rfl⟩ := Int.eq_ofNat_of_zero_le hs0
  have hst := GState.mk0 (fr := fr) (de := de) (sec := (sec : Int)) (cap := gcap) ((((Below.refl w.heap.size w).alloc (Nat.le_refl _) _).trans (hb.mono (by simp)))) hp
  have HST := Lib.hid hst
  have HFIT := Lib.hid (chain_fit hch hs1)
  clear hst hch hp hb hgb
  go_wp2_with fail
  obtain ⟨G, hG⟩ : ∃ G, G = w1.heap.size := ⟨_, rfl⟩
  rw [← hG] at HST ⊢
  clear hG
  go_loopw [4, 5] (fun q c wr => ∃ k : Nat, k ≤ sec ∧ c = .int .i64 k ∧ q = .int .i64 (ownN ps k) ∧ GState w wr G fr de sec gb gcap ps) (fun _ c _ => sec - (intOf c).toNat)
  case atStart => exact ⟨0, by omega, rfl, rfl, HST.out⟩
  case round =>
    obtain ⟨k, hk, rfl, rfl, hst⟩ := hrel
    clear HST
    have HST := Lib.hid hst
    obtain ⟨g0, g1, g2, g3, g4, g5, g6⟩ := hst
    have HP := Lib.hid g4
    have HB := Lib.hid g5
    clear g4 g5
    have fb := freeN_bd ps k
    have fe := ownN_free ps k
    have q0 : 0 ≤ ownN ps k := by omega
    have q1 : ownN ps k ≤ 42 := by omega
    by_cases hlt : k < sec
    · clear fb fe
      have HQ : Hid (ownN ps (k + 1) = ownN ps k + if ps.any (hasB · k) then 1 else 0) := rfl
      have ha := ownF_any ps 0 (k : Int)
      generalize ps.any (hasB · k) = is at *
      generalize ownN ps k = q at *
      obtain ⟨o, ho⟩ : ∃ o, o = ownF ps 0 (k : Int) := ⟨_, rfl⟩
      rw [← ho] at ha
      have HO := Lib.hid ho
      clear ho
      obtain ⟨ot, op, ok, ois⟩ := o
      dsimp only at ha
      subst ha
      go_wp2_with fail
      refine (owner_any _ _ _ _ _ ps _ _ HP.out HFIT.out hl4).mono ?_
      rintro e w2 ⟨rfl, hb2⟩
      rw [← HO.out]
      dsimp only
      have HB2 := Lib.hid hb2
      clear hb2
      cases ois with
      | true =>
        go_wp2_with fail
        go_roundw
        case rel => exact ⟨k + 1, by omega, by go_num, by rw [HQ.out]; rfl, HST.out.below HB2.out⟩
        case measure => simp [intOf]; omega
      | false =>
        go_wp2_with fail
        go_roundw
        case rel => exact ⟨k + 1, by omega, by go_num, by rw [HQ.out]; simp, HST.out.below HB2.out⟩
        case measure => simp [intOf]; omega
    · obtain rfl : k = sec := by omega
      have hfe : ownN ps k = (k : Int) - freeN ps k := fe
      rw [hfe]
      generalize hfq : freeN ps k = fq at *
      have HFQ := Lib.hid hfq
      clear hfq fe hfe q0 q1
      have heq : ((k : Int) - fq == (k : Int) - fq) = true := beq_self_eq_true _
      have w1' : IntKind.i64.wrap ((k : Int) - fq) = (k : Int) - fq := IntWalk.i64_in _ (by omega)
      go_wp2_with fail
      go_region_held3 (fun w' => w'.cell? ⟨G, 0, none⟩ = some (.int .i64 fr) ∧ w'.cell? ⟨G, 1, none⟩ = some (.int .i64 de) ∧ w'.cell? ⟨G, 2, none⟩ = some (.int .i64 (k : Int)) ∧ w'.cell? ⟨G, 3, none⟩ = some (.slice (some ⟨gb, 0, none⟩) ps.length gcap)) (first | go_keep | (exact ⟨cell_below HBV.out (cell_below HBF.out (by go_simp)), cell_below HBV.out (cell_below HBF.out (by go_simp)), cell_below HBV.out (cell_below HBF.out (by go_simp)), cell_below HBV.out (cell_below HBF.out (by go_simp))⟩) | (exact ⟨cell_below HBF.out (by go_simp), cell_below HBF.out (by go_simp), cell_below HBF.out (by go_simp), cell_below HBF.out (by go_simp)⟩)) (first | (go_at_call 17; refine (free_any _ _ _ _ _ ps _ (HP.out.below (below_drew (Below.refl _ _))) HFIT.out hl4 (by omega)).mono ?_; rintro e w2 ⟨rfl, hbf⟩; rw [HFQ.out]; have HBF := Lib.hid hbf; clear hbf) | (go_at_call 11; refine (lives_any _).mono ?_; rintro e w3 ⟨rfl, hbl⟩; have HBV := Lib.hid hbl; clear hbl))
      go_wp2_with fail
      go_ret
      have b2 : Below w.heap.size w w2 := below_then (below_drew HB.out) HB.out.size HBF.out
      exact ⟨rfl, below_then b2 b2.size HBV.out⟩
end Go.Proofs.Ytdlacafljlddhaa
