/- caps.Table: Revoke, and the example. -/
import Derived.Test.YthdcffbifgifeaaMint
namespace Go.Proofs.Ythdcffbifgifeaa
open Go.RowKit
set_option linter.unusedVariables false

def rvcode (f : Nat → Slot) (s g s2 g2 : Int) : Int := if ccode (gd f s g) 8 ≠ 0 then ccode (gd f s g) 8 else rcode (gd f s2 g2)

set_option maxRecDepth 100000 in
set_option maxHeartbeats 1000000 in
theorem revoke_any (b E G : Nat) (f : Nat → Slot) (s g s2 g2 : Int) (w : World) (H : TAt w b E G f) :
    Calls Try.prog 19 #[.pointer (some ⟨b, 0, none⟩), .agg #[.int .i64 s, .int .i64 g], .agg #[.int .i64 s2, .int .i64 g2]] w fun e w' =>
      (rvcode f s g s2 g2 ≠ 0 ∧ e = .returned (.int .i64 (rvcode f s g s2 g2)) ∧ Below w.heap.size w w') ∨
      (rvcode f s g s2 g2 = 0 ∧ ∃ i : Nat, i < 8 ∧ s2 = i ∧ (f i).1 = true ∧ g2 = (f i).2.1 ∧ e = .returned (.int .i64 0) ∧ TAt w' b E G (upd f i (false, 0, 0)) ∧ Only1 b w w') := by
  obtain ⟨W0, hW0⟩ : ∃ W0 : World, W0 = (w.alloc (.cells #[.int .i64 s, .int .i64 g] 28)).alloc (.cells #[.int .i64 s2, .int .i64 g2] 28) := ⟨_, rfl⟩
  have hB0 : Below w.heap.size w W0 := by rw [hW0]; exact ((Below.refl w.heap.size w).alloc (Nat.le_refl _) _).alloc (by simp) _
  have a0 : W0.cell? ⟨w.heap.size, 0, none⟩ = some (.int .i64 s) := by rw [hW0]; go_simp
  have a1 : W0.cell? ⟨w.heap.size, 1, none⟩ = some (.int .i64 g) := by rw [hW0]; go_simp
  have a2 : W0.cell? ⟨w.heap.size + 1, 0, none⟩ = some (.int .i64 s2) := by rw [hW0]; go_simp
  have a3 : W0.cell? ⟨w.heap.size + 1, 1, none⟩ = some (.int .i64 g2) := by rw [hW0]; go_simp
  have hbl := H.blt
  have HT := Lib.hid (H.below hB0)
  have HB0 := Lib.hid hB0
  have HW0 := Lib.hid hW0
  have HCK := Lib.hid (check_any b E G f s g 8 W0 (H.below hB0))
  have HRG := Lib.hid (fun W (h : Below W0.heap.size W0 W) => rights_any b E G f s2 g2 W ((H.below hB0).below h))
  clear H hB0 hW0
  go_enter Try.func19, Try.ntmps19
  go_upto_region 1 with (fail)
  rw [← HW0.out]
  go_wp2_with fail
  refine HCK.out.mono ?_
  rintro e w1 ⟨rfl, hb1⟩
  have a2 := cell_below hb1 a2
  have a3 := cell_below hb1 a3
  have HB1 := Lib.hid hb1
  have HT1 := Lib.hid (HT.out.below hb1)
  clear hb1 HT
  by_cases h8 : ccode (gd f s g) 8 = 0
  · have HER0 := Lib.hid (show rvcode f s g s2 g2 = rcode (gd f s2 g2) by unfold rvcode; rw [if_neg (by rw [h8]; simp)])
    rw [h8]
    clear h8
    go_wp2_with fail
    refine (HRG.out _ HB1.out).mono ?_
    rintro e w2 ⟨rfl, hb2⟩
    have a2 := cell_below hb2 a2
    have HB2 := Lib.hid (HB1.out.trans (hb2.mono HB1.out.size))
    have HT2 := Lib.hid (HT1.out.below hb2)
    clear hb2 HT1 HRG HCK
    by_cases hm : (s2, g2) ∈ live f 8
    · have hgd : gd f s2 g2 = some (f s2.toNat).2.2 := by unfold gd; rw [if_pos hm]
      obtain ⟨i, hi, rfl, hu, hg⟩ := live_mem hm
      have HER := Lib.hid (show rvcode f s g i g2 = 0 by rw [HER0.out, hgd]; rfl)
      rw [hgd]
      dsimp only [rcode, Option.getD]
      rw [Int.toNat_natCast]
      have hii : (i : Int) < 8 := by omega
      have hi0 : (0 : Int) ≤ (i : Int) := by omega
      have HI := Lib.hid (And.intro hi (And.intro hu hg))
      clear hgd hm HER0 hu hg hi
      go_upto_region 7 with (fail)
      have c2 := HT2.out.su HI.out.1
      have c3 := HT2.out.sg HI.out.1
      have c4 := HT2.out.so HI.out.1
      have f2 := HT2.out.fz (2 + i * 3)
      have f3 := HT2.out.fz (2 + i * 3 + 1)
      have f4 := HT2.out.fz (2 + i * 3 + 2)
      go_still_tail 7, (by kernel_rfl)
      change wpList _ _ _ _ _ w2.drew
      have hfl := (show TAt w2.drew b E G f from HT2.out.keep rfl).fill HI.out.1 (false, 0, 0)
      replace c2 : w2.drew.cell? ⟨b, 2 + i * 3, none⟩ = _ := c2
      replace c3 : w2.drew.cell? ⟨b, 2 + i * 3 + 1, none⟩ = _ := c3
      replace c4 : w2.drew.cell? ⟨b, 2 + i * 3 + 2, none⟩ = _ := c4
      replace f2 : w2.drew.frozen? ⟨b, 2 + i * 3, none⟩ = _ := f2
      replace f3 : w2.drew.frozen? ⟨b, 2 + i * 3 + 1, none⟩ = _ := f3
      replace f4 : w2.drew.frozen? ⟨b, 2 + i * 3 + 2, none⟩ = _ := f4
      have HB3 := Lib.hid (show Below W0.heap.size W0 w2.drew from below_drew HB2.out)
      have HF := Lib.hid hfl
      clear hfl HT2 HB2
      generalize w2.drew = w3 at *
      go_wp2
      go_ret
      refine .inr ⟨HER.out, i, HI.out.1, rfl, HI.out.2.1, HI.out.2.2, rfl, HF.out.1, ?_⟩
      have h3 : Only1 b w w3 := ⟨(HB0.out.os ▸ HB3.out.os), (HB0.out.tape ▸ HB3.out.tape), (HB0.out.output ▸ HB3.out.output), Nat.le_trans HB0.out.size HB3.out.size, fun j hj _ => (HB3.out.block j (Nat.lt_of_lt_of_le hj HB0.out.size)).trans (HB0.out.block j hj)⟩
      exact h3.trans HF.out.2
    · have hgd : gd f s2 g2 = none := by unfold gd; rw [if_neg hm]
      have HER := Lib.hid (show rvcode f s g s2 g2 = 10 by rw [HER0.out, hgd]; rfl)
      rw [hgd]
      dsimp only [rcode, Option.getD]
      clear hgd hm HER0
      go_wp2_with fail
      go_ret
      exact .inl ⟨by rw [HER.out]; omega, by rw [HER.out]; rfl, HB0.out.trans (HB2.out.mono HB0.out.size)⟩
  · have HER := Lib.hid (show rvcode f s g s2 g2 = ccode (gd f s g) 8 by unfold rvcode; rw [if_pos h8])
    have HNZ := Lib.hid h8
    have hcb : (ccode (gd f s g) 8 != 0) = true := by simp [h8]
    generalize ccode (gd f s g) 8 = er at *
    go_wp2_with fail
    go_ret
    exact .inl ⟨by rw [HER.out]; exact HNZ.out, by rw [HER.out]; rfl, HB0.out.trans (HB1.out.mono HB0.out.size)⟩
end Go.Proofs.Ythdcffbifgifeaa
