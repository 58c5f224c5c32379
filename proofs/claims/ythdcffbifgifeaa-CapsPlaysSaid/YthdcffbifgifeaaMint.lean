/- caps.Table: Check, Mint, Revoke. -/
import Derived.Test.YthdcffbifgifeaaCap
namespace Go.Proofs.Ythdcffbifgifeaa
open Go.RowKit
set_option linter.unusedVariables false

def ccode (o : Option Int) (need : Int) : Int := match o with | none => 10 | some x => if hs x need then 0 else 11
theorem check_any (b E G : Nat) (f : Nat → Slot) (s g need : Int) (w : World) (H : TAt w b E G f) :
    Calls Try.prog 18 #[.pointer (some ⟨b, 0, none⟩), .agg #[.int .i64 s, .int .i64 g], .int .i64 need] w fun e w' => e = .returned (.int .i64 (ccode (gd f s g) need)) ∧ Below w.heap.size w w' := by
  have hb0 : Below w.heap.size w (w.alloc (.cells #[.int .i64 s, .int .i64 g] 28)) := (Below.refl _ _).alloc (Nat.le_refl _) _
  have HR := Lib.hid (rights_any b E G f s g _ (H.below hb0))
  have HB0 := Lib.hid hb0
  clear H hb0
  cases hg : gd f s g with
  | none =>
    rw [hg] at HR
    dsimp only [rcode, Option.getD] at HR
    have HE := Lib.hid (show ccode none need = 10 from rfl)
    generalize ccode none need = er at *
    go_enter Try.func18, Try.ntmps18
    go_wp2_with fail
    refine HR.out.mono ?_
    rintro e w1 ⟨rfl, hb⟩
    have HB := Lib.hid (HB0.out.trans (hb.mono (by simp)))
    clear hb
    go_wp2_with fail
    go_ret
    exact ⟨by rw [HE.out]; rfl, HB.out⟩
  | some x =>
    rw [hg] at HR
    dsimp only [rcode, Option.getD] at HR
    cases hh : hs x need with
    | false =>
      have HE := Lib.hid (show ccode (some x) need = 11 by simp [ccode, hh])
      have HH := Lib.hid (fun w => has_any x need w)
      rw [hh] at HH
      generalize ccode (some x) need = er at *
      clear hh hg
      go_enter Try.func18, Try.ntmps18
      go_wp2_with fail
      refine HR.out.mono ?_
      rintro e w1 ⟨rfl, hb⟩
      have HB := Lib.hid (HB0.out.trans (hb.mono (by simp)))
      clear hb
      go_wp2_with fail
      refine (HH.out _).mono ?_
      rintro e w' ⟨rfl, rfl⟩
      go_wp2_with fail
      go_ret
      exact ⟨by rw [HE.out]; rfl, HB.out⟩
    | true =>
      have HE := Lib.hid (show ccode (some x) need = 0 by simp [ccode, hh])
      have HH := Lib.hid (fun w => has_any x need w)
      rw [hh] at HH
      generalize ccode (some x) need = er at *
      clear hh hg
      go_enter Try.func18, Try.ntmps18
      go_wp2_with fail
      refine HR.out.mono ?_
      rintro e w1 ⟨rfl, hb⟩
      have HB := Lib.hid (HB0.out.trans (hb.mono (by simp)))
      clear hb
      go_wp2_with fail
      refine (HH.out _).mono ?_
      rintro e w' ⟨rfl, rfl⟩
      go_wp2_with fail
      go_ret
      exact ⟨by rw [HE.out]; rfl, HB.out⟩

theorem used_any (u : Bool) (g o : Int) (w : World) :
    Calls Try.prog 32 #[.agg #[.bool u, .int .i64 g, .int .i64 o]] w fun e w' => e = .returned (.bool (!u)) ∧ Below w.heap.size w w' := by
  go_enter Try.func32, Try.ntmps32
  go_wp2_with fail
  go_ret
  exact ⟨rfl, (Below.refl _ _).alloc (Nat.le_refl _) _⟩

/-- The first slot that is not used, from k on. -/
def fre (f : Nat → Slot) : Nat → Nat → Int
  | 0, _ => -1
  | n + 1, k => if (f k).1 then fre f n (k + 1) else k
theorem fre_step (f : Nat → Slot) (k : Nat) (hk : k < 8) : fre f (8 - k) k = if (f k).1 then fre f (8 - (k + 1)) (k + 1) else k := by
  rw [show 8 - k = (8 - (k + 1)) + 1 by omega]
  rfl
theorem idxf_any (b E G : Nat) (f : Nat → Slot) (w : World) (H : TAt w b E G f) :
    Calls Try.prog 31 #[.slice (some ⟨b, 2, none⟩) 8 8, .func (.func 32) #[] #[]] w fun e w' => e = .returned (.int .i64 (fre f 8 0)) ∧ Below w.heap.size w w' := by
  have HT := Lib.hid H
  clear H
  go_enter Try.func31, Try.ntmps31
  go_wp2_with fail
  go_loopw [5, 8] (fun _ c wr => ∃ k : Nat, k ≤ 8 ∧ c = .int .i64 k ∧ fre f 8 0 = fre f (8 - k) k ∧ Below w.heap.size w wr) (fun _ c _ => 8 - (intOf c).toNat)
  case atStart => exact ⟨0, by omega, rfl, rfl, Below.refl _ _⟩
  case round =>
    obtain ⟨k, hk, rfl, hfre, hbel⟩ := hrel
    have HBE := Lib.hid hbel
    have HF := Lib.hid hfre
    have ht := HT.out.below hbel
    clear hbel hfre
    by_cases hlt : k < 8
    · have hki : (k : Int) < 8 := by omega
      have hk0 : (0 : Int) ≤ (k : Int) := by omega
      have c2 := ht.su hlt
      have c3 := ht.sg hlt
      have c4 := ht.so hlt
      have hstep := fre_step f k hlt
      clear ht
      cases hu : (f k).1
      · rw [hu] at c2 hstep
        have HS := Lib.hid hstep
        clear hstep
        generalize (f k).2.1 = g at *
        generalize (f k).2.2 = o at *
        go_wp2_with fail
        refine (used_any false g o _).mono ?_
        rintro e w1 ⟨rfl, hb⟩
        have HB := Lib.hid hb
        clear hb
        go_wp2_with fail
        go_ret
        exact ⟨by rw [HF.out, HS.out]; rfl, HBE.out.trans (HB.out.mono HBE.out.size)⟩
      · rw [hu] at c2 hstep
        have HS := Lib.hid hstep
        clear hstep
        generalize (f k).2.1 = g at *
        generalize (f k).2.2 = o at *
        go_wp2_with fail
        refine (used_any true g o _).mono ?_
        rintro e w1 ⟨rfl, hb⟩
        have HB := Lib.hid hb
        clear hb
        go_wp2_with fail
        go_roundw
        case rel => exact ⟨k + 1, by omega, by go_num, by rw [HF.out, HS.out]; rfl, HBE.out.trans (HB.out.mono HBE.out.size)⟩
        case measure => simp [intOf]; omega
    · have e : k = 8 := by omega
      subst e
      clear ht
      go_wp2_with fail
      go_ret
      exact ⟨by rw [HF.out]; rfl, HBE.out⟩

theorem fre_cases (f : Nat → Slot) : ∀ (n k : Nat), fre f n k = -1 ∨ ∃ i : Nat, k ≤ i ∧ i < k + n ∧ fre f n k = i ∧ (f i).1 = false
  | 0, k => .inl rfl
  | n + 1, k => by
    cases hu : (f k).1 with
    | false => exact .inr ⟨k, Nat.le_refl _, by omega, by simp [fre, hu], hu⟩
    | true =>
      rcases fre_cases f n (k + 1) with h | ⟨i, h1, h2, h3, h4⟩
      · exact .inl (by simp [fre, hu, h])
      · exact .inr ⟨i, by omega, by omega, by simp [fre, hu, h3], h4⟩
/-- What Mint answers. -/
def mcode (f : Nat → Slot) (G : Nat) (s g r : Int) : Int :=
  if ccode (gd f s g) 8 ≠ 0 then ccode (gd f s g) 8 else if ¬ (0 ≤ r ∧ r < 16) then 1 else if ccode (gd f s g) r ≠ 0 then ccode (gd f s g) r else if fre f 8 0 < 0 ∨ 1048576 ≤ G then 13 else 0

set_option maxRecDepth 100000 in
set_option maxHeartbeats 1000000 in
theorem mint_any (b E G : Nat) (f : Nat → Slot) (s g r : Int) (w : World) (H : TAt w b E G f) :
    Calls Try.prog 12 #[.pointer (some ⟨b, 0, none⟩), .agg #[.int .i64 s, .int .i64 g], .int .i64 r] w fun e w' =>
      (mcode f G s g r ≠ 0 ∧ e = .returned (.tuple #[.agg #[.int .i64 0, .int .i64 0], .int .i64 (mcode f G s g r)]) ∧ Below w.heap.size w w') ∨
      (mcode f G s g r = 0 ∧ ∃ i : Nat, i < 8 ∧ fre f 8 0 = i ∧ (f i).1 = false ∧ G < 1048576 ∧ e = .returned (.tuple #[.agg #[.int .i64 i, .int .i64 (E * 1048576 + G)], .int .i64 0]) ∧
        TAt w' b E (G + 1) (upd f i (true, E * 1048576 + G, r)) ∧ Only1 b w w') := by
  obtain ⟨W0, hW0⟩ : ∃ W0 : World, W0 = (w.alloc (.cells #[.int .i64 s, .int .i64 g] 28)).alloc (.cells #[.int .i64 0, .int .i64 0] 28) := ⟨_, rfl⟩
  have hB0 : Below w.heap.size w W0 := by rw [hW0]; exact ((Below.refl w.heap.size w).alloc (Nat.le_refl _) _).alloc (by simp) _
  have a0 : W0.cell? ⟨w.heap.size, 0, none⟩ = some (.int .i64 s) := by rw [hW0]; go_simp
  have a1 : W0.cell? ⟨w.heap.size, 1, none⟩ = some (.int .i64 g) := by rw [hW0]; go_simp
  have hn : W0.heap[w.heap.size + 1]? = some (.cells #[.int .i64 0, .int .i64 0] 28 (0, 0)) := by
    rw [hW0]
    have := heap_alloc_new (w.alloc (.cells #[.int .i64 s, .int .i64 g] 28)) (.cells #[.int .i64 0, .int .i64 0] 28)
    simpa using this
  have hbl := H.blt
  have hbn1 : b ≠ w.heap.size + 1 := by omega
  have HT := Lib.hid (H.below hB0)
  have HB0 := Lib.hid hB0
  have HN := Lib.hid hn
  have HW0 := Lib.hid hW0
  have HCK := Lib.hid (fun need W (h : Below W0.heap.size W0 W) => check_any b E G f s g need W ((H.below hB0).below h))
  clear H hB0 hn hW0
  go_enter Try.func12, Try.ntmps12
  go_upto_region 1 with (fail)
  rw [← HW0.out]
  go_wp2_with fail
  refine (HCK.out 8 _ (Below.refl _ _)).mono ?_
  rintro e w1 ⟨rfl, hb1⟩
  have hn1 := (hb1.block _ (Array.getElem?_eq_some_iff.1 HN.out).1).trans HN.out
  have a0 := cell_below hb1 a0
  have a1 := cell_below hb1 a1
  have n0 := cell_of_row w1 (w.heap.size + 1) 0 _ _ _ hn1
  have n1 := cell_of_row w1 (w.heap.size + 1) 1 _ _ _ hn1
  have m0 := frozen_of_row w1 (w.heap.size + 1) 0 _ _ hn1
  have m1 := frozen_of_row w1 (w.heap.size + 1) 1 _ _ hn1
  simp at n0 n1
  have HN1 := Lib.hid hn1
  have HB1 := Lib.hid hb1
  have HT1 := Lib.hid (HT.out.below hb1)
  clear hn1 hb1 HT
  by_cases h8 : ccode (gd f s g) 8 = 0
  · have HM8 := Lib.hid h8
    rw [h8]
    clear h8
    by_cases hr : 0 ≤ r ∧ r < 16
    · have HMY := Lib.hid (fun w => may_any r w)
      rw [show decide (0 ≤ r ∧ r < 16) = true by simp [hr]] at HMY
      have HR := Lib.hid hr
      clear hr
      go_wp2_with fail
      refine (HMY.out _).mono ?_
      rintro e w' ⟨rfl, rfl⟩
      go_wp2_with fail
      refine (HCK.out r _ HB1.out).mono ?_
      rintro e w2 ⟨rfl, hb2⟩
      have hn2 := (hb2.block _ (Array.getElem?_eq_some_iff.1 HN1.out).1).trans HN1.out
      clear n0 n1 m0 m1
      have n0 := cell_of_row w2 (w.heap.size + 1) 0 _ _ _ hn2
      have n1 := cell_of_row w2 (w.heap.size + 1) 1 _ _ _ hn2
      have m0 := frozen_of_row w2 (w.heap.size + 1) 0 _ _ hn2
      have m1 := frozen_of_row w2 (w.heap.size + 1) 1 _ _ hn2
      simp at n0 n1
      have HN2 := Lib.hid hn2
      have HB2 := Lib.hid (HB1.out.trans (hb2.mono HB1.out.size))
      have ht2 := HT1.out.below hb2
      have HT2 := Lib.hid ht2
      have c1 := ht2.c1
      clear hn2 hb2 HT1 ht2 HCK
      by_cases hc : ccode (gd f s g) r = 0
      · have HMC := Lib.hid hc
        rw [hc]
        clear hc
        go_wp2_with fail
        refine (idxf_any b E G f w2 HT2.out).mono ?_
        rintro e w3 ⟨rfl, hb3⟩
        have hn3 := (hb3.block _ (Array.getElem?_eq_some_iff.1 HN2.out).1).trans HN2.out
        clear n0 n1 m0 m1
        have n0 := cell_of_row w3 (w.heap.size + 1) 0 _ _ _ hn3
        have n1 := cell_of_row w3 (w.heap.size + 1) 1 _ _ _ hn3
        have m0 := frozen_of_row w3 (w.heap.size + 1) 0 _ _ hn3
        have m1 := frozen_of_row w3 (w.heap.size + 1) 1 _ _ hn3
        simp at n0 n1
        have HN3 := Lib.hid hn3
        have HB3 := Lib.hid (HB2.out.trans (hb3.mono HB2.out.size))
        have ht3 := HT2.out.below hb3
        have HT3 := Lib.hid ht3
        have c1 := ht3.c1
        clear hn3 hb3 HT2 ht3 c1
        have c1 := HT3.out.c1
        rcases fre_cases f 8 0 with hf | ⟨i, _, hi8, hf, hfu⟩
        · have HER := Lib.hid (show mcode f G s g r = 13 by unfold mcode; rw [if_neg (by rw [HM8.out]; simp), if_neg (by simpa using HR.out), if_neg (by rw [HMC.out]; simp), if_pos (.inl (by rw [hf]; omega))])
          rw [hf]
          clear hf
          go_wp2_with fail
          refine bodyPost_ret (v := .tuple #[.agg #[.int .i64 0, .int .i64 0], .int .i64 13]) (by simp [results, Try.results12, go_sem, n0, n1]) rfl (.inl ⟨by rw [HER.out]; omega, by rw [HER.out], by have hh := HB0.out.trans (HB3.out.mono HB0.out.size); exact (hh.setCell (show w.heap.size ≤ w.heap.size + 1 by omega) _).setCell (show w.heap.size ≤ w.heap.size + 1 by omega) _⟩)
        · by_cases hG : G < 1048576
          · have HER := Lib.hid (show mcode f G s g r = 0 by unfold mcode; rw [if_neg (by rw [HM8.out]; simp), if_neg (by simpa using HR.out), if_neg (by rw [HMC.out]; simp), if_neg (by rw [hf]; omega)])
            have HFI := Lib.hid hf
            have HGV := Lib.hid (give_any b E G i f r w3 HT3.out (by omega) hG)
            have hi0 : (0 : Int) ≤ (i : Int) := by omega
            obtain ⟨z, hz⟩ : ∃ z : Int, z = (G : Int) := ⟨_, rfl⟩
            have hGi : z < 1048576 := by omega
            rw [← hz] at c1
            clear hz
            have HGG := Lib.hid hG
            have HI8 := Lib.hid hi8
            rw [hf]
            clear hf hG hi8
            go_wp2_with fail
            refine HGV.out.mono ?_
            rintro e w4 ⟨rfl, ht4, ho4⟩
            have hn4 := (ho4.far _ (Array.getElem?_eq_some_iff.1 HN3.out).1 (Ne.symm hbn1)).trans HN3.out
            clear n0 n1 m0 m1 c1
            have n0 := cell_of_row w4 (w.heap.size + 1) 0 _ _ _ hn4
            have n1 := cell_of_row w4 (w.heap.size + 1) 1 _ _ _ hn4
            have m0 := frozen_of_row w4 (w.heap.size + 1) 0 _ _ hn4
            have m1 := frozen_of_row w4 (w.heap.size + 1) 1 _ _ hn4
            simp at n0 n1
            have HT4 := Lib.hid ht4
            have HO4 := Lib.hid ho4
            have HN4 := Lib.hid hn4
            clear ht4 ho4 hn4 HGV
            go_wp2_with fail
            refine bodyPost_ret (v := .tuple #[.agg #[.int .i64 i, .int .i64 (E * 1048576 + G)], .int .i64 0]) (by simp [results, Try.results12, go_sem, n0, n1]) rfl (.inr ⟨HER.out, i, by have := HI8.out; omega, HFI.out, hfu, HGG.out, rfl, HT4.out.keep ?_, ?_⟩)
            · rw [Go.heap_setCell_other _ _ _ _ (by exact hbn1), Go.heap_setCell_other _ _ _ _ (by exact hbn1)]
            · have h3 : Only1 b w w3 := ⟨(HB0.out.os ▸ HB3.out.os), (HB0.out.tape ▸ HB3.out.tape), (HB0.out.output ▸ HB3.out.output), Nat.le_trans HB0.out.size HB3.out.size, fun j hj _ => (HB3.out.block j (Nat.lt_of_lt_of_le hj HB0.out.size)).trans (HB0.out.block j hj)⟩
              have h4 := h3.trans HO4.out
              refine ⟨h4.os, h4.tape, h4.output, by simpa using h4.size, fun j h1 h2 => ?_⟩
              rw [Go.heap_setCell_other _ _ _ _ (by show j ≠ w.heap.size + 1; omega), Go.heap_setCell_other _ _ _ _ (by show j ≠ w.heap.size + 1; omega)]
              exact h4.far j h1 h2
          · have HER := Lib.hid (show mcode f G s g r = 13 by unfold mcode; rw [if_neg (by rw [HM8.out]; simp), if_neg (by simpa using HR.out), if_neg (by rw [HMC.out]; simp), if_pos (.inr (by omega))])
            have hi0 : ¬ (i : Int) < 0 := by omega
            have hGi : (1048576 : Int) ≤ (G : Int) := by omega
            rw [hf]
            clear hf
            go_wp2_with fail
            refine bodyPost_ret (v := .tuple #[.agg #[.int .i64 0, .int .i64 0], .int .i64 13]) (by simp [results, Try.results12, go_sem, n0, n1]) rfl (.inl ⟨by rw [HER.out]; omega, by rw [HER.out], by have hh := HB0.out.trans (HB3.out.mono HB0.out.size); exact (hh.setCell (show w.heap.size ≤ w.heap.size + 1 by omega) _).setCell (show w.heap.size ≤ w.heap.size + 1 by omega) _⟩)
      · have HER := Lib.hid (show mcode f G s g r = ccode (gd f s g) r by unfold mcode; rw [if_neg (by rw [HM8.out]; simp), if_neg (by simpa using HR.out), if_pos hc])
        have HNZ := Lib.hid hc
        have hcb : (ccode (gd f s g) r != 0) = true := by simp [hc]
        generalize ccode (gd f s g) r = er at *
        go_wp2_with fail
        refine bodyPost_ret (v := .tuple #[.agg #[.int .i64 0, .int .i64 0], .int .i64 er]) (by simp [results, Try.results12, go_sem, n0, n1]) rfl (.inl ⟨by rw [HER.out]; exact HNZ.out, by rw [HER.out], by have hh := HB0.out.trans (HB2.out.mono HB0.out.size); exact (hh.setCell (show w.heap.size ≤ w.heap.size + 1 by omega) _).setCell (show w.heap.size ≤ w.heap.size + 1 by omega) _⟩)
    · have HER := Lib.hid (show mcode f G s g r = 1 by unfold mcode; rw [if_neg (by rw [HM8.out]; simp), if_pos hr])
      have HMY := Lib.hid (fun w => may_any r w)
      rw [show decide (0 ≤ r ∧ r < 16) = false by simpa using hr] at HMY
      clear hr
      go_wp2_with fail
      refine (HMY.out _).mono ?_
      rintro e w' ⟨rfl, rfl⟩
      go_wp2_with fail
      refine bodyPost_ret (v := .tuple #[.agg #[.int .i64 0, .int .i64 0], .int .i64 1]) (by simp [results, Try.results12, go_sem, n0, n1]) rfl (.inl ⟨by rw [HER.out]; omega, by rw [HER.out], by have hh := HB0.out.trans (HB1.out.mono HB0.out.size); exact (hh.setCell (show w.heap.size ≤ w.heap.size + 1 by omega) _).setCell (show w.heap.size ≤ w.heap.size + 1 by omega) _⟩)
  · have HER := Lib.hid (show mcode f G s g r = ccode (gd f s g) 8 by unfold mcode; rw [if_pos h8])
    have HNZ := Lib.hid h8
    have hcb : (ccode (gd f s g) 8 != 0) = true := by simp [h8]
    generalize ccode (gd f s g) 8 = er at *
    go_wp2_with fail
    refine bodyPost_ret (v := .tuple #[.agg #[.int .i64 0, .int .i64 0], .int .i64 er]) (by simp [results, Try.results12, go_sem, n0, n1]) rfl (.inl ⟨by rw [HER.out]; exact HNZ.out, by rw [HER.out], by have hh := HB0.out.trans (HB1.out.mono HB0.out.size); exact (hh.setCell (show w.heap.size ≤ w.heap.size + 1 by omega) _).setCell (show w.heap.size ≤ w.heap.size + 1 by omega) _⟩)
end Go.Proofs.Ythdcffbifgifeaa
