/- caps.Table: minting by the root; the example; the walk of CapsNews. -/
import Derived.Test.YthdcffbifgifeaaRev
namespace Go.Proofs.Ythdcffbifgifeaa
open Go.RowKit
set_option linter.unusedVariables false

theorem hs_all {r : Int} (h0 : 0 ≤ r) (h1 : r < 16) : hs 15 r = true := by
  rcases (show r = 0 ∨ r = 1 ∨ r = 2 ∨ r = 3 ∨ r = 4 ∨ r = 5 ∨ r = 6 ∨ r = 7 ∨ r = 8 ∨ r = 9 ∨ r = 10 ∨ r = 11 ∨ r = 12 ∨ r = 13 ∨ r = 14 ∨ r = 15 by omega) with rfl | rfl | rfl | rfl | rfl | rfl | rfl | rfl | rfl | rfl | rfl | rfl | rfl | rfl | rfl | rfl <;> rfl
/-- The root stands in the first slot. -/
def Rooted (f : Nat → Slot) (E : Nat) : Prop := f 0 = (true, (E : Int) * 1048576, 15)
theorem Rooted.gd {f : Nat → Slot} {E : Nat} (h : Rooted f E) : gd f 0 ((E : Int) * 1048576) = some 15 := by
  have hm := mem_live (f := f) (i := 0) (by omega) (by rw [h])
  rw [h] at hm
  unfold Proofs.Ythdcffbifgifeaa.gd
  rw [if_pos (by simpa using hm)]
  show some (f 0).2.2 = some 15
  rw [h]
theorem Rooted.code {f : Nat → Slot} {E : Nat} (h : Rooted f E) {r : Int} (h0 : 0 ≤ r) (h1 : r < 16) : ccode (Proofs.Ythdcffbifgifeaa.gd f 0 ((E : Int) * 1048576)) r = 0 := by
  rw [h.gd]
  simp [ccode, hs_all h0 h1]
theorem Rooted.mcode {f : Nat → Slot} {E G : Nat} (h : Rooted f E) {r : Int} (h0 : 0 ≤ r) (h1 : r < 16) : Proofs.Ythdcffbifgifeaa.mcode f G 0 ((E : Int) * 1048576) r = if fre f 8 0 < 0 ∨ 1048576 ≤ G then 13 else 0 := by
  unfold Proofs.Ythdcffbifgifeaa.mcode
  rw [if_neg (by rw [h.code (by omega) (by omega)]; simp), if_neg (by simp; omega), if_neg (by rw [h.code h0 h1]; simp)]
theorem Rooted.upd {f : Nat → Slot} {E i : Nat} {s : Slot} (h : Rooted f E) (hi : i ≠ 0) : Rooted (upd f i s) E := by
  unfold Rooted Proofs.Ythdcffbifgifeaa.upd
  rw [if_neg (by omega)]
  exact h
theorem field0 (x y : Int) (w : World) : Sem.run Try.prog (Instr.field 28 (.agg #[.int .i64 x, .int .i64 y]) 0) w = .ok (.int .i64 x) w := by
  simp [Instr.field, asAgg, go_sem]
theorem field1 (x y : Int) (w : World) : Sem.run Try.prog (Instr.field 28 (.agg #[.int .i64 x, .int .i64 y]) 1) w = .ok (.int .i64 y) w := by
  simp [Instr.field, asAgg, go_sem]
def st0 (E : Nat) : Nat → Slot := upd emp 0 (true, (E : Int) * 1048576, 15)
theorem st0_root (E : Nat) : Rooted (st0 E) E := rfl
theorem st0_live (E : Nat) : (live (st0 E) 8).length = 1 := rfl
theorem st0_fre (E : Nat) : fre (st0 E) 8 0 = 1 := rfl

theorem lives_any (w : World) : Calls Try.prog 15 #[] w fun e w' => e = .returned (.bool true) ∧ Below w.heap.size w w' := by
  have HNW := Lib.hid (new_good 1 w (by omega) (by omega))
  go_enter Try.func15, Try.ntmps15
  go_wp2_with fail
  refine HNW.out.mono ?_
  rintro e w1 ⟨b, hbw, rfl, ht, hb⟩
  have HT := Lib.hid ht
  have HB1 := Lib.hid hb
  clear ht hb HNW
  go_wp2_with fail
  refine (root_any b 1 1 _ w1 HT.out).mono ?_
  rintro e w2 ⟨rfl, hb⟩
  have HT2 := Lib.hid (HT.out.below hb)
  have HB2 := Lib.hid (HB1.out.trans (hb.mono HB1.out.size))
  clear hb HT
  go_wp2_with fail
  refine (mint_any b 1 1 (st0 1) 0 1048576 1 w2 HT2.out).mono ?_
  have hmc : mcode (st0 1) 1 0 1048576 1 = 0 := by
    have := (st0_root 1).mcode (G := 1) (r := 1) (by omega) (by omega)
    rw [st0_fre] at this
    simpa using this
  rintro e w3 (⟨h, _⟩ | ⟨_, i, _, hi, _, _, rfl, ht3, ho3⟩)
  · exact absurd hmc h
  · rw [st0_fre] at hi
    obtain rfl : i = 1 := by omega
    have HT3 := Lib.hid ht3
    have HB3 := Lib.hid (HB2.out.trans (ho3.below hbw HB2.out.size))
    clear ht3 ho3 hmc hi
    go_wp2_with fail
    refine (root_any b 1 2 _ _ (HT3.out.below ((Below.refl _ _).alloc (Nat.le_refl _) _))).mono ?_
    rintro e w4 ⟨rfl, hb⟩
    have HB4 := Lib.hid ((HB3.out.alloc HB3.out.size _).trans (hb.mono (by have := HB3.out.size; simp; omega)))
    have n0 := (hb.cell (p := ⟨w3.heap.size, 0, none⟩) (by simp)).trans (show _ = some (.int .i64 1) by go_simp)
    have n1 := (hb.cell (p := ⟨w3.heap.size, 1, none⟩) (by simp)).trans (show _ = some (.int .i64 1048577) by go_simp)
    clear hb
    go_wp2_with fail
    go_ret
    exact ⟨rfl, HB4.out⟩

set_option maxRecDepth 100000 in
set_option maxHeartbeats 1000000 in
theorem law_news (a : Int) (w : World) (ha : (Lit.int .i64 a).wf = true) :
    Calls Try.prog 4 #[.int .i64 a] w fun e w' => e = .returned (.bool true) ∧ Below w.heap.size w w' := by
  obtain ⟨y, y0, y1, hA⟩ := around_some a 6 (by omega) (by omega) ha
  have HA := Lib.hid hA
  clear hA
  go_enter Try.func4, Try.ntmps4
  go_wp2_with fail
  refine (HA.out _).mono ?_
  rintro e w' ⟨rfl, rfl⟩
  go_wp2_with fail
  go_loopw [4, 5, 6, 7, 8, 9] (fun c _ _ _ _ _ wr => ∃ k : Nat, k ≤ 2 ∧ c = .int .i64 k ∧ Below (w.heap.size + 1) (w.alloc (.cells #[.int .i64 a, .int .i64 y] 3)) wr) (fun c _ _ _ _ _ _ => 2 - (intOf c).toNat)
  case atStart => exact ⟨0, by omega, rfl, Below.refl _ _⟩
  case round =>
    obtain ⟨k, hk, rfl, hbel⟩ := hrel
    have hsz : w.heap.size + 1 ≤ wr.heap.size := by have := hbel.size; simpa using this
    obtain ⟨wp, rfl⟩ : ∃ wp : World, wp = wr := ⟨_, rfl⟩
    have HBE := Lib.hid hbel
    by_cases hlt : k < 2
    · obtain ⟨x, hx⟩ : ∃ x, wp.cell? ⟨w.heap.size, k, none⟩ = some (.int .i64 x) := by
        have e := hbel.cell (p := ⟨w.heap.size, k, none⟩) (by simp)
        rcases (show k = 0 ∨ k = 1 by omega) with rfl | rfl
        · exact ⟨a, by rw [e]; go_simp⟩
        · exact ⟨y, by rw [e]; go_simp⟩
      have hki : (k : Int) < 2 := by omega
      clear hbel
      by_cases h1 : 1 ≤ x
      · by_cases h2 : x ≤ 1073741824
        · obtain ⟨E, rfl⟩ := Int.eq_ofNat_of_zero_le (show 0 ≤ x by omega)
          have HN := Lib.hid (new_good E wp (by omega) (by omega))
          have hwE : IntKind.i64.wrap ((E : Int) * 1048576) = (E : Int) * 1048576 := by rw [IntKind.wrap_i64]; omega
          go_wp2_with fail
          refine HN.out.mono ?_
          rintro e w1 ⟨b, hbw, rfl, ht, hb⟩
          have hx := cell_below hb hx
          have HT := Lib.hid (show TAt w1 b E 1 (st0 E) from ht)
          have HB := Lib.hid (HBE.out.trans (hb.mono hsz))
          clear ht hb HN
          go_wp2_with fail
          refine (root_any b E 1 _ w1 HT.out).mono ?_
          rintro e w2 ⟨rfl, hb⟩
          have hx := cell_below hb hx
          have HT2 := Lib.hid (HT.out.below hb)
          have HB2 := Lib.hid (HB.out.trans (hb.mono (by have := HB.out.size; simpa using this)))
          have HR := Lib.hid (rights_any b E 1 _ 0 ((E : Int) * 1048576) w2 HT2.out)
          rw [(st0_root E).gd] at HR
          dsimp only [rcode, Option.getD] at HR
          clear hb HT HB
          go_wp2_with fail
          refine HR.out.mono ?_
          rintro e wo ⟨rfl, hb⟩
          have hx := cell_below hb hx
          have HT3 := Lib.hid (HT2.out.below hb)
          have HB3 := Lib.hid (HB2.out.trans (hb.mono (by have := HB2.out.size; simpa using this)))
          have hsz3 : w.heap.size + 1 ≤ wo.heap.size := by have := HB3.out.size; simpa using this
          have HLV := Lib.hid (fun W (h : Below wo.heap.size wo W) => live_any b E 1 _ W (HT3.out.below h))
          rw [st0_live] at HLV
          have HRT := Lib.hid (fun W (h : Below wo.heap.size wo W) => root_any b E 1 _ W (HT3.out.below h))
          clear hb HT2 HB2 HR
          have hf0 := field0
          have hf1 := field1
          go_upto_region 11 with (fail)
          go_cut [93] (fun x wx => x = .bool false ∧ Below (w.heap.size + 1) (w.alloc (.cells #[.int .i64 a, .int .i64 y] 3)) wx)
          case first =>
            go_region_held3 (fun w' => w'.cell? ⟨w.heap.size, k, none⟩ = some (.int .i64 E)) (first | (go_keep; done) | (exact cell_below (w := wo) (by repeat (first | exact BF.out | exact Below.refl _ _ | apply below_drew)) hx)) (first | (go_at_call 16; refine (HLV.out _ (by repeat (first | exact BF.out | exact Below.refl _ _ | apply below_drew))).mono ?_; rintro e w5 ⟨rfl, hbf⟩; have bf : Below wo.heap.size wo w5 := below_then (by repeat (first | exact BF.out | exact Below.refl _ _ | apply below_drew)) (by first | simp; done | omega | (simp; omega)) hbf; have q4 := bf.size; have BF := Lib.hid bf; clear hbf bf) | (go_at_call 10; refine (HRT.out _ (by repeat (first | exact BF.out | exact Below.refl _ _ | apply below_drew))).mono ?_; rintro e w5 ⟨rfl, hbf⟩; have bf : Below wo.heap.size wo w5 := below_then (by repeat (first | exact BF.out | exact Below.refl _ _ | apply below_drew)) (by first | simp; done | omega | (simp; omega)) hbf; have q4 := bf.size; have BF := Lib.hid bf; clear hbf bf) | (go_at_call 17; refine (allr_any _).mono ?_; rintro e w5 ⟨rfl, hbf⟩; have bf : Below wo.heap.size wo w5 := below_then (by repeat (first | exact BF.out | exact Below.refl _ _ | apply below_drew)) (by first | simp; done | omega | (simp; omega)) hbf; have q4 := bf.size; have BF := Lib.hid bf; clear hbf bf))
            all_goals (go_wp2_with fail; go_meet; exact ⟨rfl, HB3.out.trans (Below.mono (by repeat (first | exact BF.out | exact Below.refl _ _ | apply below_drew)) hsz3)⟩)
          case rest =>
            obtain ⟨rfl, hb4⟩ := hcut
            have HB4 := Lib.hid hb4
            clear hb4
            go_wp2_with fail
            go_roundw
            case rel => exact ⟨k + 1, by omega, by go_num, HB4.out⟩
            case measure => simp [intOf]; omega
        · have HN := Lib.hid (fun w1 => new_bad x w1 (.inr (by omega)))
          have h2' : 1073741824 < x := by omega
          go_wp2_with fail
          refine (HN.out _).mono ?_
          rintro e w' ⟨rfl, rfl⟩
          go_wp2
          go_roundw
          case rel => exact ⟨k + 1, by omega, by go_num, HBE.out⟩
          case measure => simp [intOf]; omega
      · have HN := Lib.hid (fun w1 => new_bad x w1 (.inl (by omega)))
        have h1' : x < 1 := by omega
        go_wp2_with fail
        refine (HN.out _).mono ?_
        rintro e w' ⟨rfl, rfl⟩
        go_wp2
        go_roundw
        case rel => exact ⟨k + 1, by omega, by go_num, HBE.out⟩
        case measure => simp [intOf]; omega
    · have e : k = 2 := by omega
      subst e
      clear hbel
      go_wp2_with (go_at_call 15; refine (lives_any _).mono ?_; rintro e w' ⟨rfl, hb⟩)
      have HB := Lib.hid hb
      clear hb
      go_wp2
      go_ret
      exact ⟨rfl, ((Below.refl _ _).alloc (Nat.le_refl _) _).trans ((HBE.out.trans (HB.out.mono hsz)).mono (by omega))⟩
end Go.Proofs.Ythdcffbifgifeaa
