/- extent.All: both sectors of a page. -/
import Derived.Test.YtdlacafljlddhaaExtent
namespace Go.Proofs.Ytdlacafljlddhaa
open Go.RowKit
set_option linter.unusedVariables false
set_option linter.unusedSimpArgs false

theorem secOf_second {ps : List PartT} {t p : Int} (h : (secOf ps t p 0).2 = 0) : (secOf ps t p 1).2 = 0 := by
  unfold secOf at h ⊢
  cases hx : at? ps t with
  | none => rw [hx] at h; simp at h
  | some x =>
    rw [hx] at h
    dsimp only at h ⊢
    by_cases hg : 0 ≤ p ∧ p < x.2.2 ∧ (0 : Int) ≤ 0 ∧ (0 : Int) ≤ 1
    · rw [if_pos ⟨hg.1, hg.2.1, by omega, by omega⟩]
    · rw [if_neg hg] at h; simp at h
theorem secOf_other {ps : List PartT} {t p : Int} : (secOf ps t p 1).2 = (secOf ps t p 0).2 := by
  unfold secOf
  cases hx : at? ps t with
  | none => rfl
  | some x =>
    dsimp only
    by_cases hg : 0 ≤ p ∧ p < x.2.2
    · rw [if_pos ⟨hg.1, hg.2, by omega, by omega⟩, if_pos ⟨hg.1, hg.2, by omega, by omega⟩]
    · rw [if_neg (fun h => hg ⟨h.1, h.2.1⟩), if_neg (fun h => hg ⟨h.1, h.2.1⟩)]
theorem secOf_zero {ps : List PartT} {t p k : Int} (h : (secOf ps t p k).2 ≠ 0) : (secOf ps t p k).1 = 0 := by
  unfold secOf at h ⊢
  cases hx : at? ps t with
  | none => rfl
  | some x =>
    rw [hx] at h
    dsimp only at h ⊢
    split
    · rename_i hg; rw [if_pos hg] at h; exact absurd rfl h
    · rfl

theorem all_any (fr de sec : Int) (gb cap : Nat) (ps : List PartT) (t p : Int) (w : World) (hp : PartsIn w gb 0 ps) (hf : PartsFit ps) (hn : ps.length ≤ 4) :
    Calls Try.prog 15 #[.agg #[.int .i64 fr, .int .i64 de, .int .i64 sec, .slice (some ⟨gb, 0, none⟩) ps.length cap], .int .i64 t, .int .i64 p] w
      fun e w' => e = .returned (.tuple #[.agg #[.int .i64 (secOf ps t p 0).1, .int .i64 (secOf ps t p 1).1], .int .i64 (secOf ps t p 0).2]) ∧ Below w.heap.size w w' := by
  have HP := Lib.hid hp
  clear hp
  by_cases h0 : (secOf ps t p 0).2 = 0
  · have hE := h0
    have hE1 := secOf_second h0
    have HE := Lib.hid hE
    have HE1 := Lib.hid hE1
    have HF := Lib.hid hf
    clear h0 hE hE1 hf
    go_enter Try.func15, Try.ntmps15
    go_wp2_with fail
    refine wp_loop_rounds 3 ?_
    rw [rounds_succ]
    go_wp2_with fail
    refine (sector_any _ _ _ _ _ ps _ _ _ _ (HP.out.below ((((Below.refl _ _).alloc (Nat.le_refl _) _).alloc (by simp) _).alloc (by simp; omega) _)) HF.out hn).mono ?_
    rintro e w1 ⟨rfl, hb1⟩
    rw [HE.out]
    obtain ⟨hc, hfz⟩ := bcell hb1
    have hs1 := hb1.size
    have hs1' : w.heap.size + 3 ≤ w1.heap.size := by simp at hs1; omega
    have hs2 : w.heap.size + 1 + 1 < w1.heap.size := by omega
    have hs3 : w.heap.size + 1 < w1.heap.size := by omega
    have hs4 : w.heap.size < w1.heap.size := by omega
    have HB1 := Lib.hid hb1
    clear hb1 hs1
    go_wp2_with fail
    rw [rounds_succ]
    go_wp2_with fail
    have b1 : Below w.heap.size w w1 := ((((Below.refl _ _).alloc (Nat.le_refl _) _).alloc (by simp) _).alloc (by simp; omega) _).trans (HB1.out.mono (by simp; omega))
    have b2 : Below w.heap.size w (w1.setCell ⟨w.heap.size + 1 + 1, 0, none⟩ (.int .i64 (secOf ps t p 0).1)) := b1.setCell (by simp; omega) _
    refine (sector_any _ _ _ _ _ ps _ _ _ _ (HP.out.below b2) HF.out hn).mono ?_
    rintro e w2 ⟨rfl, hb2⟩
    rw [HE1.out]
    obtain ⟨hc2, hfz2⟩ := bcell hb2
    have hs5 := hb2.size
    have hs6 : w.heap.size + 1 + 1 < w2.heap.size := by simp at hs5; omega
    have hs7 : w.heap.size + 1 < w2.heap.size := by omega
    have HB2 := Lib.hid (b2.trans (hb2.mono (by simp; omega)))
    clear hb2 hs5 b1 b2 HB1
    go_wp2_with fail
    rw [rounds_succ]
    go_wp2_with fail
    refine bodyPost_ret (v := .tuple #[.agg #[.int .i64 (secOf ps t p 0).1, .int .i64 (secOf ps t p 1).1], .int .i64 0]) (by simp [results, Try.results15, go_sem, hc2, hc, hs2, hs3]) rfl ⟨by rw [HE.out], ?_⟩
    exact ((HB2.out.setCell (by simp; omega) _).setCell (by simp) _).setCell (by simp) _
  · have z0 := secOf_zero h0
    have z1 := secOf_zero (show (secOf ps t p 1).2 ≠ 0 by rw [secOf_other]; exact h0)
    rw [z0, z1]
    have hne : ((secOf ps t p 0).2 != 0) = true := by simp [h0]
    have HZ := Lib.hid z0
    have HF := Lib.hid hf
    clear z0 z1 h0 hf
    go_enter Try.func15, Try.ntmps15
    go_wp2_with fail
    refine wp_loop_rounds 2 ?_
    rw [rounds_succ]
    go_wp2_with fail
    refine (sector_any _ _ _ _ _ ps _ _ _ _ (HP.out.below ((((Below.refl _ _).alloc (Nat.le_refl _) _).alloc (by simp) _).alloc (by simp; omega) _)) HF.out hn).mono ?_
    rintro e w1 ⟨rfl, hb1⟩
    obtain ⟨hc, hfz⟩ := bcell hb1
    have hs1 := hb1.size
    have hs1' : w.heap.size + 3 ≤ w1.heap.size := by simp at hs1; omega
    have hs2 : w.heap.size + 1 + 1 < w1.heap.size := by omega
    have hs3 : w.heap.size + 1 < w1.heap.size := by omega
    have hs4 : w.heap.size < w1.heap.size := by omega
    have HB1 := Lib.hid hb1
    clear hb1 hs1
    go_wp2_with fail
    have b1 : Below w.heap.size w w1 := ((((Below.refl _ _).alloc (Nat.le_refl _) _).alloc (by simp) _).alloc (by simp; omega) _).trans (HB1.out.mono (by simp; omega))
    refine bodyPost_ret (v := .tuple #[.agg #[.int .i64 0, .int .i64 0], .int .i64 (secOf ps t p 0).2]) (by simp [results, Try.results15, go_sem, hc, hs3]) rfl ⟨rfl, ?_⟩
    exact (b1.setCell (by simp) _).setCell (by simp) _
end Go.Proofs.Ytdlacafljlddhaa
