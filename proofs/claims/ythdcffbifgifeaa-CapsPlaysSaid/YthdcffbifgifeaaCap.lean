/- caps.Table: Live, Rights, Check. -/
import Derived.Test.YthdcffbifgifeaaTab
namespace Go.Proofs.Ythdcffbifgifeaa
open Go.RowKit
set_option linter.unusedVariables false

/-- A row of capabilities that is read. -/
def CapsAt (W : World) (v : Value) (l : List (Int × Int)) : Prop :=
  ∃ A c, v = .slice A l.length c ∧ l.length ≤ 1000 ∧ (0 < l.length → ∃ g o, A = some ⟨g, o, none⟩ ∧ ∀ j x, l[j]? = some x → W.cell? ⟨g, o + j * 2, none⟩ = some (.int .i64 x.1) ∧ W.cell? ⟨g, o + j * 2 + 1, none⟩ = some (.int .i64 x.2))
theorem capv_get : ∀ (l : List (Int × Int)) (j : Nat) (x : Int × Int), l[j]? = some x → (capv l)[j * 2]? = some (.int .i64 x.1) ∧ (capv l)[j * 2 + 1]? = some (.int .i64 x.2)
  | [], j, x, h => by simp at h
  | y :: r, 0, x, h => by
    obtain rfl : y = x := by simpa using h
    exact ⟨by simp [capv], by simp [capv]⟩
  | y :: r, j + 1, x, h => by
    have ih := capv_get r j x (by simpa using h)
    rw [show (j + 1) * 2 = j * 2 + 2 by omega, show j * 2 + 2 + 1 = (j * 2 + 1) + 2 by omega]
    exact ⟨by simpa [capv] using ih.1, by simpa [capv] using ih.2⟩
theorem own_caps {w : World} {base : Nat} {v : Value} {l : List (Int × Int)} (h : w.ownsRow base 28 2 v l.length (capv l)) (hl : l.length ≤ 1000) : CapsAt w v l := by
  have hcell := fun g hg => h.cells (g := g) hg
  rcases h.2 with ⟨rfl, h1⟩ | ⟨g, cap, cur, rfl, _⟩
  · exact ⟨none, 0, by rw [h1], hl, fun hp => absurd hp (by omega)⟩
  · refine ⟨_, cap, rfl, hl, fun _ => ⟨g, 0, rfl, fun j x hx => ?_⟩⟩
    obtain ⟨h1, h2⟩ := capv_get l j x hx
    have k1 := hcell g rfl _ _ h1
    have k2 := hcell g rfl _ _ h2
    rw [add_plain] at k1 k2
    rw [Nat.zero_add]
    exact ⟨k1, k2⟩
theorem CapsAt.below {w w1 : World} {v : Value} {l : List (Int × Int)} (h : CapsAt w v l) (hb : Below w.heap.size w w1) : CapsAt w1 v l := by
  obtain ⟨A, c, rfl, hl, hc⟩ := h
  refine ⟨A, c, rfl, hl, fun h0 => ?_⟩
  obtain ⟨g, o, rfl, hj⟩ := hc h0
  exact ⟨g, o, rfl, fun j x hx => ⟨cell_below hb (hj j x hx).1, cell_below hb (hj j x hx).2⟩⟩

theorem live_any (b E G : Nat) (f : Nat → Slot) (w : World) (H : TAt w b E G f) :
    Calls Try.prog 16 #[.pointer (some ⟨b, 0, none⟩)] w fun e w' => e = .returned (.int .i64 (live f 8).length) ∧ Below w.heap.size w w' := by
  have HA := Lib.hid (all_any b E G f w H)
  have hl := live_len f 8
  clear H
  generalize (live f 8).length = n at *
  go_enter Try.func16, Try.ntmps16
  go_wp2_with fail
  refine HA.out.mono ?_
  rintro e w1 ⟨v, rfl, hown, hb⟩
  obtain ⟨A, c, rfl⟩ := own_slice hown
  have HB := Lib.hid hb
  clear hown hb HA
  go_wp2
  go_ret
  exact ⟨rfl, HB.out⟩

theorem not_snoc {l l' : List (Int × Int)} {s g x y : Int} (h : l' = l ++ [(x, y)]) (h1 : (s, g) ∉ l) (h2 : ¬ (s = x ∧ g = y)) : (s, g) ∉ l' := by
  rw [h]
  intro hm
  rcases List.mem_append.1 hm with hm | hm
  · exact h1 hm
  · obtain ⟨e1, e2⟩ := Prod.mk.inj (List.mem_singleton.1 hm)
    exact h2 ⟨e1, e2⟩
theorem index_any (v : Value) (l : List (Int × Int)) (s g : Int) (w : World) (H : CapsAt w v l) :
    Calls Try.prog 38 #[v, .agg #[.int .i64 s, .int .i64 g]] w fun e w' => ∃ r : Int, e = .returned (.int .i64 r) ∧ (0 ≤ r ↔ (s, g) ∈ l) ∧ Below w.heap.size w w' := by
  obtain ⟨A, c, rfl, hl, hc⟩ := H
  have hli : (l.length : Int) ≤ 1000 := by omega
  have HC := Lib.hid hc
  clear hc
  go_enter Try.func38, Try.ntmps38
  go_wp2_with fail
  go_loopw [5, 8] (fun _ c wr => ∃ k : Nat, k ≤ l.length ∧ c = .int .i64 k ∧ (s, g) ∉ l.take k ∧ Below (w.heap.size + 1) (w.alloc (.cells #[.int .i64 s, .int .i64 g] 28)) wr) (fun _ c _ => l.length - (intOf c).toNat)
  case atStart => exact ⟨0, by omega, rfl, by simp, Below.refl _ _⟩
  case round =>
    obtain ⟨k, hk, rfl, hnot, hbel⟩ := hrel
    have HBE := Lib.hid hbel
    have HNO := Lib.hid hnot
    have e0 := (hbel.cell (p := ⟨w.heap.size, 0, none⟩) (by simp)).trans (show _ = some (.int .i64 s) by go_simp)
    have e1 := (hbel.cell (p := ⟨w.heap.size, 1, none⟩) (by simp)).trans (show _ = some (.int .i64 g) by go_simp)
    have hsz : w.heap.size + 1 ≤ wr.heap.size := by have := hbel.size; simpa using this
    have hbw : Below w.heap.size w wr := ((Below.refl _ _).alloc (Nat.le_refl _) _).trans (hbel.mono (by omega))
    have HBW := Lib.hid hbw
    clear hnot hbel
    by_cases hlt : k < l.length
    · have hki : (k : Int) < (l.length : Int) := by omega
      have hk0 : (0 : Int) ≤ (k : Int) := by omega
      obtain ⟨gb, o, rfl, hj⟩ := HC.out (by omega)
      have hx : l[k]? = some l[k] := List.getElem?_eq_getElem hlt
      have d0 := cell_below hbw (hj k _ hx).1
      have d1 := cell_below hbw (hj k _ hx).2
      have HTK := Lib.hid (show l.take (k + 1) = l.take k ++ [l[k]] by rw [List.take_add_one, hx]; rfl)
      have HMEM := Lib.hid (show l[k] ∈ l from List.getElem_mem hlt)
      clear hbw hx hj
      generalize l[k] = x at *
      obtain ⟨x, y⟩ := x
      dsimp only at d0 d1
      by_cases he : s = x ∧ g = y
      · obtain ⟨rfl, rfl⟩ := he
        go_upto_region 4 with (fail)
        go_quiet (fail)
        go_wp2
        go_ret
        exact ⟨k, rfl, ⟨fun _ => HMEM.out, fun _ => hk0⟩, below_drewN HBW.out _⟩
      · have HNE := Lib.hid he
        by_cases hs : s = x
        · subst hs
          have hg : ¬ g = y := fun e => he ⟨rfl, e⟩
          have hgb : (g == y) = false := by simp [hg]
          clear he
          go_upto_region 4 with (fail)
          go_quiet (fail)
          go_wp2
          go_roundw
          case rel => exact ⟨k + 1, by omega, by go_num, not_snoc HTK.out HNO.out HNE.out, below_drewN HBE.out _⟩
          case measure => simp [intOf]; omega
        · have hsb : (s == x) = false := by simp [hs]
          clear he
          go_upto_region 4 with (fail)
          go_quiet (fail)
          go_wp2
          go_roundw
          case rel => exact ⟨k + 1, by omega, by go_num, not_snoc HTK.out HNO.out HNE.out, below_drewN HBE.out _⟩
          case measure => simp [intOf]; omega
    · have e : k = l.length := by omega
      subst e
      have hno := HNO.out
      rw [List.take_length] at hno
      have HN := Lib.hid hno
      clear hno hbw
      go_wp2_with fail
      go_ret
      exact ⟨-1, rfl, ⟨fun h => absurd h (by omega), fun h => absurd h HN.out⟩, HBW.out⟩

theorem contains_any (v : Value) (l : List (Int × Int)) (s g : Int) (w : World) (H : CapsAt w v l) :
    Calls Try.prog 34 #[v, .agg #[.int .i64 s, .int .i64 g]] w fun e w' => e = .returned (.bool (decide ((s, g) ∈ l))) ∧ Below w.heap.size w w' := by
  have hb0 : Below w.heap.size w (w.alloc (.cells #[.int .i64 s, .int .i64 g] 28)) := (Below.refl _ _).alloc (Nat.le_refl _) _
  have HB0 := Lib.hid hb0
  have HI := Lib.hid (index_any v l s g _ (H.below hb0))
  obtain ⟨A, c, rfl, _⟩ := H
  clear hb0
  go_enter Try.func34, Try.ntmps34
  go_wp2_with fail
  refine HI.out.mono ?_
  rintro e w1 ⟨r, rfl, hr, hb⟩
  have HB := Lib.hid (HB0.out.trans (hb.mono (by simp)))
  have HD := Lib.hid (show decide ((s, g) ∈ l) = decide (0 ≤ r) by rw [Bool.eq_iff_iff]; simp [hr])
  clear hr hb HI
  go_wp2
  go_ret
  exact ⟨ret_bool HD.out.symm, HB.out⟩

/-- The rights of a good one. -/
def gd (f : Nat → Slot) (s g : Int) : Option Int := if (s, g) ∈ live f 8 then some (f s.toNat).2.2 else none
theorem live_mem {f : Nat → Slot} {s g : Int} (h : (s, g) ∈ live f 8) : ∃ i : Nat, i < 8 ∧ s = i ∧ (f i).1 = true ∧ g = (f i).2.1 := by
  simp only [live, List.mem_map, List.mem_filter, List.mem_range, Prod.mk.injEq] at h
  obtain ⟨i, ⟨h1, h2⟩, h3, h4⟩ := h
  exact ⟨i, h1, h3.symm, h2, h4.symm⟩
theorem mem_live {f : Nat → Slot} {i : Nat} (hi : i < 8) (h : (f i).1 = true) : ((i : Int), (f i).2.1) ∈ live f 8 := by
  simp only [live, List.mem_map, List.mem_filter, List.mem_range]
  exact ⟨i, ⟨hi, h⟩, rfl⟩

def rcode (o : Option Int) : Int := match o with | some _ => 0 | none => 10
theorem rights_any (b E G : Nat) (f : Nat → Slot) (s g : Int) (w : World) (H : TAt w b E G f) :
    Calls Try.prog 14 #[.pointer (some ⟨b, 0, none⟩), .agg #[.int .i64 s, .int .i64 g]] w fun e w' => e = .returned (.tuple #[.int .i64 ((gd f s g).getD 0), .int .i64 (rcode (gd f s g))]) ∧ Below w.heap.size w w' := by
  have hb0 : Below w.heap.size w (w.alloc (.cells #[.int .i64 s, .int .i64 g] 28)) := (Below.refl _ _).alloc (Nat.le_refl _) _
  obtain ⟨w0, hw0⟩ : ∃ w0 : World, w0 = w.alloc (.cells #[.int .i64 s, .int .i64 g] 28) := ⟨_, rfl⟩
  rw [← hw0] at hb0
  have c0 : w0.cell? ⟨w.heap.size, 0, none⟩ = some (.int .i64 s) := by rw [hw0]; go_simp
  have c1 : w0.cell? ⟨w.heap.size, 1, none⟩ = some (.int .i64 g) := by rw [hw0]; go_simp
  have hsz0 : w.heap.size < w0.heap.size := by rw [hw0]; simp
  have HT := Lib.hid (H.below hb0)
  have HB0 := Lib.hid hb0
  have HW0 := Lib.hid hw0
  have HAL := Lib.hid (fun W (h : Below w0.heap.size w0 W) => all_any b E G f W ((H.below hb0).below h))
  have HLN := Lib.hid (live_len f 8)
  clear H hb0 hw0
  go_enter Try.func14, Try.ntmps14
  go_upto_region 1 with (fail)
  rw [← HW0.out]
  go_cut [10] (fun x wx => x = .bool (!(decide ((s, g) ∈ live f 8))) ∧ Below w0.heap.size w0 wx)
  case first =>
    go_region_held3 (fun w' => w'.cell? ⟨w.heap.size, 0, none⟩ = some (.int .i64 s) ∧ w'.cell? ⟨w.heap.size, 1, none⟩ = some (.int .i64 g)) (first | (go_keep; done) | (exact ⟨cell_below (w := w0) (by repeat (first | exact BF.out | exact Below.refl _ _ | apply below_drew)) c0, cell_below (w := w0) (by repeat (first | exact BF.out | exact Below.refl _ _ | apply below_drew)) c1⟩)) (first | (go_at_call 27; refine (HAL.out _ (by repeat (first | exact BF.out | exact Below.refl _ _ | apply below_drew))).mono ?_; rintro e w5 ⟨vl, rfl, hown, hbf⟩; have HOL := Lib.hid (own_caps hown (by have := HLN.out; omega)); obtain ⟨Al, cl, rfl⟩ := own_slice hown; clear hown; have bf : Below w0.heap.size w0 w5 := below_then (by repeat (first | exact BF.out | exact Below.refl _ _ | apply below_drew)) (by first | simp; done | omega | (simp; omega)) hbf; have q4 := bf.size; have BF := Lib.hid bf; clear hbf bf) | (go_at_call 34; refine (contains_any _ _ s g _ (HOL.out.below (by repeat (first | exact Below.refl _ _ | apply below_drew)))).mono ?_; rintro e w5 ⟨rfl, hbf⟩; have bf : Below w0.heap.size w0 w5 := below_then (by repeat (first | exact BF.out | exact Below.refl _ _ | apply below_drew)) (by first | simp; done | omega | (simp; omega)) hbf; have q4 := bf.size; have BF := Lib.hid bf; clear hbf bf))
    all_goals (go_wp2_with fail; go_meet; exact ⟨rfl, (by repeat (first | exact BF.out | exact Below.refl _ _ | apply below_drew))⟩)
  case rest =>
    obtain ⟨rfl, hb1⟩ := hcut
    have HB1 := Lib.hid (HB0.out.trans (hb1.mono HB0.out.size))
    have HT1 := Lib.hid (HT.out.below hb1)
    replace c0 := cell_below hb1 c0
    clear hb1 HAL
    by_cases hm : (s, g) ∈ live f 8
    · have hgd : gd f s g = some (f s.toNat).2.2 := by unfold gd; rw [if_pos hm]
      rw [show decide ((s, g) ∈ live f 8) = true by simp [hm]]
      obtain ⟨i, hi, rfl, _, _⟩ := live_mem hm
      have hii : (i : Int) < 8 := by omega
      have hi0 : (0 : Int) ≤ (i : Int) := by omega
      have co := HT1.out.so hi
      clear hm
      rw [Int.toNat_natCast] at hgd
      generalize (f i).2.2 = ow at *
      have HGD := Lib.hid hgd
      clear hgd
      go_wp2_with fail
      go_quiet (fail)
      go_wp2
      go_ret2
      exact ⟨by rw [HGD.out]; rfl, below_drewN HB1.out _⟩
    · have hgd : gd f s g = none := by unfold gd; rw [if_neg hm]
      have HGD := Lib.hid hgd
      clear hgd
      rw [show decide ((s, g) ∈ live f 8) = false by simp [hm]]
      clear hm
      go_wp2_with fail
      go_ret2
      exact ⟨by rw [HGD.out]; rfl, HB1.out⟩
end Go.Proofs.Ythdcffbifgifeaa
