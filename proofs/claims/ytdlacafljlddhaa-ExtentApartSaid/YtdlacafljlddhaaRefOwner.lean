/- Whose a sector is, by the reference: by looking at all sectors of all pages. -/
import Derived.Test.YtdlacafljlddhaaOwner
namespace Go.Proofs.Ytdlacafljlddhaa
open Go.RowKit
set_option linter.unusedVariables false
set_option linter.unusedSimpArgs false

/-- What a loop of the reference's Owner keeps: the boxes, and all that was there. -/
def Keeps (w wr : World) (fr de sec : Int) (gb n cap : Nat) : Prop :=
  wr.cell? ⟨w.heap.size, 0, none⟩ = some (.int .i64 fr) ∧ wr.cell? ⟨w.heap.size, 1, none⟩ = some (.int .i64 de) ∧ wr.cell? ⟨w.heap.size, 2, none⟩ = some (.int .i64 sec) ∧ wr.cell? ⟨w.heap.size, 3, none⟩ = some (.slice (some ⟨gb, 0, none⟩) n cap) ∧
    wr.heap[w.heap.size + 1]? = some (.cells #[.int .i64 0, .int .i64 0, .int .i64 0, .bool false] 29) ∧ Below w.heap.size w wr ∧ w.heap.size + 2 ≤ wr.heap.size
theorem Keeps.below {w wr w1 : World} {fr de sec : Int} {gb n cap : Nat} (h : Keeps w wr fr de sec gb n cap) (hb : Below wr.heap.size wr w1) : Keeps w w1 fr de sec gb n cap := by
  obtain ⟨h0, h1, h2, h3, h4, h5, h6⟩ := h
  exact ⟨cell_below hb h0, cell_below hb h1, cell_below hb h2, cell_below hb h3, (hb.block _ (by omega)).trans h4, h5.trans (hb.mono h5.size), by have := hb.size; omega⟩

set_option maxHeartbeats 1000000 in
theorem ref_owner_any (fr de sec : Int) (gb cap : Nat) (ps : List PartT) (s : Int) (w : World) (hp : PartsIn w gb 0 ps) (hf : PartsFit ps) (hn : ps.length ≤ 4) :
    Calls Try.prog 10 #[.agg #[.int .i64 fr, .int .i64 de, .int .i64 sec, .slice (some ⟨gb, 0, none⟩) ps.length cap], .int .i64 s] w
      fun e w' => e = .returned (.agg #[.int .i64 (ownF ps 0 s).1, .int .i64 (ownF ps 0 s).2.1, .int .i64 (ownF ps 0 s).2.2.1, .bool (ownF ps 0 s).2.2.2]) ∧ Below w.heap.size w w' := by
  have HP := Lib.hid hp
  have HF := Lib.hid hf
  clear hp hf
  go_enter Try.func10, Try.ntmps10
  go_wp2_with fail
  go_loopw [5] (fun c wr => ∃ k : Nat, k ≤ ps.length ∧ c = .int .i64 k ∧ ownF ps 0 s = ownF (ps.drop k) k s ∧ Keeps w wr fr de sec gb ps.length cap) (fun c _ => ps.length - (intOf c).toNat)
  case atStart => exact ⟨0, by omega, rfl, rfl, by go_simp, by go_simp, by go_simp, by go_simp, heap_alloc2_new _ _ _, ((Below.refl _ _).alloc (Nat.le_refl _) _).alloc (by simp) _, by simp⟩
  case round =>
    obtain ⟨i, hi, rfl, hown, hkeep⟩ := hrel
    obtain ⟨wo, rfl⟩ : ∃ wo : World, wo = wr := ⟨_, rfl⟩
    have HO := Lib.hid hown
    have HK := Lib.hid hkeep
    obtain ⟨g0, g1, g2, g3, g4, g5, g6⟩ := hkeep
    have gb5 := Lib.hid g5
    clear hown g5
    by_cases hlt : i < ps.length
    · clear g4
      have hx : ps[i]? = some ps[i] := List.getElem?_eq_getElem hlt
      have hst := ownF_step (s := s) hx
      have hsec : ∀ p k : Int, secOf ps (i : Int) p k = if 0 ≤ p ∧ p < ps[i].2.2 ∧ 0 ≤ k ∧ k ≤ 1 then (ps[i].2.1 + 2 * p + k, 0) else (0, 4) := by intro p k; unfold secOf; rw [at?_nat, hx]
      obtain ⟨c0, c1, c2⟩ := HP.out i _ hx
      rw [Nat.zero_add] at c0 c1 c2
      obtain ⟨f0, f1, f2, f3⟩ := HF.out i _ hx
      generalize ps[i] = x at *
      obtain ⟨q, b, pg⟩ := x
      dsimp only at f0 f1 f2 f3 hst hsec c0 c1 c2
      have HS := Lib.hid hsec
      have HST := Lib.hid hst
      have HC2 := Lib.hid c2
      have e2 := cell_below gb5.out c2
      clear hst hsec hx c0 c1 c2
      go_wp2_with fail
      go_loopw [6, 7, 8, 9] (fun c _ _ _ wr => ∃ p : Nat, (p : Int) ≤ pg ∧ c = .int .i64 p ∧ ¬ (b ≤ s ∧ s < b + 2 * p) ∧ Keeps w wr fr de sec gb ps.length cap) (fun c _ _ _ _ => (pg - intOf c).toNat)
      case atStart => exact ⟨0, by omega, rfl, by omega, HK.out⟩
      case round =>
        obtain ⟨p, hp, rfl, hno, hkeep⟩ := hrel
        obtain ⟨wp, rfl⟩ : ∃ wp : World, wp = wr := ⟨_, rfl⟩
        have HK2 := Lib.hid hkeep
        clear g0 g1 g2 g3 g6 e2 HK
        obtain ⟨g0, g1, g2, g3, g4, g5, g6⟩ := hkeep
        have e2 := cell_below g5 HC2.out
        have HN := Lib.hid hno
        clear hno g4 g5
        by_cases hpl : (p : Int) < pg
        · go_wp2_with fail
          go_loopw [7, 8, 9] (fun c _ _ wr => ∃ k : Nat, k ≤ 2 ∧ c = .int .i64 k ∧ ¬ (b ≤ s ∧ s < b + 2 * p + k) ∧ Keeps w wr fr de sec gb ps.length cap) (fun c _ _ _ => 2 - (intOf c).toNat)
          case atStart => exact ⟨0, by omega, rfl, by have := HN.out; omega, HK2.out⟩
          case round =>
            obtain ⟨k, hk, rfl, hno, hkeep⟩ := hrel
            have HK3 := Lib.hid hkeep
            clear g0 g1 g2 g3 g6 e2 HK2
            obtain ⟨g0, g1, g2, g3, g4, g5, g6⟩ := hkeep
            have HN2 := Lib.hid hno
            have HB5 := Lib.hid g5
            clear hno g4 g5
            by_cases hkl : k < 2
            · have hse := HS.out p k
              rw [if_pos ⟨by omega, by omega, by omega, by omega⟩] at hse
              have HSE := Lib.hid hse
              clear hse
              go_wp2_with fail
              refine (ref_sector_any _ _ _ _ _ ps _ _ _ _ (HP.out.below HB5.out) HF.out hn).mono ?_
              rintro e w1 ⟨rfl, hb1⟩
              rw [HSE.out]
              dsimp only
              by_cases hm : b + 2 * (p : Int) + k = s
              · have hmb : (b + 2 * (p : Int) + k == s) = true := beq_iff_eq.2 hm
                have he := HST.out
                rw [if_pos ⟨by omega, by omega⟩, ← HO.out, show (s - b) / 2 = p by omega, show (s - b) % 2 = k by omega] at he
                have HE := Lib.hid he
                have HK4 := Lib.hid (HK3.out.below hb1)
                have h4 := HK4.out.2.2.2.2.1
                have r0 := cell_of_row w1 (w.heap.size + 1) 0 _ _ _ h4
                have r1 := cell_of_row w1 (w.heap.size + 1) 1 _ _ _ h4
                have r2 := cell_of_row w1 (w.heap.size + 1) 2 _ _ _ h4
                have r3 := cell_of_row w1 (w.heap.size + 1) 3 _ _ _ h4
                have rf := fun j => frozen_of_row w1 (w.heap.size + 1) j _ _ h4
                simp at r0 r1 r2 r3
                have HM := Lib.hid hm
                have H4 := Lib.hid h4
                have hs1 : w.heap.size + 1 < w1.heap.size := by have := HK4.out.2.2.2.2.2.2; omega
                clear he h4 hm hb1
                go_wp2_with fail
                rw [HE.out]
                have hF1 := heap_setCell_same w1 (w.heap.size + 1) 0 _ _ (.int .i64 i) H4.out
                have hF2 := heap_setCell_same _ (w.heap.size + 1) 1 _ _ (.int .i64 p) hF1
                have hF3 := heap_setCell_same _ (w.heap.size + 1) 2 _ _ (.int .i64 k) hF2
                have hF4 := heap_setCell_same _ (w.heap.size + 1) 3 _ _ (.bool true) hF3
                refine bodyPost_ret (results_cell_row (fn := Try.f10) (p := 4) (ty := 29) rfl _ _ (w.heap.size + 1) 29 #[.int .i64 i, .int .i64 p, .int .i64 k, .bool true] (0, 0) _ rfl hF4 Try.underlying29 rfl (by kernel_rfl)) rfl ⟨rfl, ?_⟩
                exact (((HK4.out.2.2.2.2.2.1.setCell (by simp) _).setCell (by simp) _).setCell (by simp) _).setCell (by simp) _
              · have hmb : (b + 2 * (p : Int) + k == s) = false := beq_eq_false_iff_ne.2 hm
                have hno2 : ¬ (b ≤ s ∧ s < b + 2 * (p : Int) + ((k + 1 : Nat) : Int)) := by have := HN2.out; omega
                have HN3 := Lib.hid hno2
                have HB1 := Lib.hid hb1
                clear hm hno2 hb1
                go_wp2_with fail
                go_roundw
                case rel => exact ⟨k + 1, by omega, by go_num, HN3.out, HK3.out.below HB1.out⟩
                case measure => simp [intOf]; omega
            · have hno2 : ¬ (b ≤ s ∧ s < b + 2 * ((p + 1 : Nat) : Int)) := by have := HN2.out; omega
              have HN3 := Lib.hid hno2
              clear hno2
              go_wp2_with fail
              go_roundw
              case rel => exact ⟨p + 1, by omega, by go_num, HN3.out, HK3.out⟩
              case measure => simp [intOf]; omega
        · have he := HST.out
          rw [if_neg (by have := HN.out; omega), ← HO.out] at he
          have HE := Lib.hid he
          clear he
          go_wp2_with fail
          go_roundw
          case rel => exact ⟨i + 1, by omega, by go_num, HE.out, HK2.out⟩
          case measure => simp [intOf]; omega
    · have he := HO.out
      rw [List.drop_eq_nil_of_le (by omega)] at he
      simp only [ownF] at he
      have HE := Lib.hid he
      have r0 := cell_of_row wo (w.heap.size + 1) 0 _ _ _ g4
      have r1 := cell_of_row wo (w.heap.size + 1) 1 _ _ _ g4
      have r2 := cell_of_row wo (w.heap.size + 1) 2 _ _ _ g4
      have r3 := cell_of_row wo (w.heap.size + 1) 3 _ _ _ g4
      have rf := fun j => frozen_of_row wo (w.heap.size + 1) j _ _ g4
      simp at r0 r1 r2 r3
      have H4 := Lib.hid g4
      clear he g4
      go_wp2_with fail
      rw [HE.out]
      have hF1 := heap_setCell_same wo (w.heap.size + 1) 0 _ _ (.int .i64 0) H4.out
      have hF2 := heap_setCell_same _ (w.heap.size + 1) 1 _ _ (.int .i64 0) hF1
      have hF3 := heap_setCell_same _ (w.heap.size + 1) 2 _ _ (.int .i64 0) hF2
      have hF4 := heap_setCell_same _ (w.heap.size + 1) 3 _ _ (.bool false) hF3
      refine bodyPost_ret (results_cell_row (fn := Try.f10) (p := 4) (ty := 29) rfl _ _ (w.heap.size + 1) 29 #[.int .i64 0, .int .i64 0, .int .i64 0, .bool false] (0, 0) _ rfl hF4 Try.underlying29 rfl (by kernel_rfl)) rfl ⟨rfl, ?_⟩
      exact (((gb5.out.setCell (by simp) _).setCell (by simp) _).setCell (by simp) _).setCell (by simp) _
end Go.Proofs.Ytdlacafljlddhaa
