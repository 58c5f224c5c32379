/- caps.Table: what its plain methods come to. -/
import Derived.Test.YthdcffbifgifeaaBase
import Derived.Deep.AppendLies
import Derived.Deep.MidRow
namespace Go.Proofs.Ythdcffbifgifeaa
open Go.RowKit
set_option linter.unusedVariables false

theorem around_any (a m : Int) (w : World) (hm : 0 < m) (hm' : m ≤ 9223372036854775807) (ha : -9223372036854775808 ≤ a) (ha' : a ≤ 9223372036854775807) :
    Calls Try.prog 11 #[.int .i64 a, .int .i64 m] w fun e w' => e = .returned (.int .i64 (ar a m)) ∧ w = w' := by
  have hm0 : (m == 0) = false := by simp; omega
  by_cases h : a < 0
  · have E : ar a m = (-(a + 1)) % m := by unfold ar; rw [if_pos h]
    rw [E]
    clear E
    have h1 : wrap64 (a + 1) = a + 1 := by unfold wrap64; omega
    have h2 : wrap64 (-(a + 1)) = -(a + 1) := by unfold wrap64; omega
    have h3 : Int.tmod (-(a + 1)) m = (-(a + 1)) % m := Int.tmod_eq_emod_of_nonneg (by omega)
    go_enter Try.func11, Try.ntmps11
    go_wp2
    go_ret
    exact ⟨by simp, rfl⟩
  · have E : ar a m = a % m := by unfold ar; rw [if_neg h]
    rw [E]
    clear E
    go_enter Try.func11, Try.ntmps11
    go_wp2
    go_ret
    exact ⟨by simp, rfl⟩
theorem around_some (a m : Int) (hm : 0 < m) (hm' : m ≤ 9223372036854775807) (ha : (Lit.int .i64 a).wf = true) :
    ∃ y, 0 ≤ y ∧ y < m ∧ ∀ w, Calls Try.prog 11 #[.int .i64 a, .int .i64 m] w fun e w' => e = .returned (.int .i64 y) ∧ w = w' :=
  ⟨ar a m, ar_lo a m hm, ar_hi a m hm, fun w => around_any a m w hm hm' (wf64 ha).1 (wf64 ha).2⟩


/-- A slot: whether it is used, its generation, its rights. -/
abbrev Slot := Bool × Int × Int
def tcells (E G : Int) (f : Nat → Slot) : Array Value :=
  #[.int .i64 E, .int .i64 G,
    .bool (f 0).1, .int .i64 (f 0).2.1, .int .i64 (f 0).2.2, .bool (f 1).1, .int .i64 (f 1).2.1, .int .i64 (f 1).2.2,
    .bool (f 2).1, .int .i64 (f 2).2.1, .int .i64 (f 2).2.2, .bool (f 3).1, .int .i64 (f 3).2.1, .int .i64 (f 3).2.2,
    .bool (f 4).1, .int .i64 (f 4).2.1, .int .i64 (f 4).2.2, .bool (f 5).1, .int .i64 (f 5).2.1, .int .i64 (f 5).2.2,
    .bool (f 6).1, .int .i64 (f 6).2.1, .int .i64 (f 6).2.2, .bool (f 7).1, .int .i64 (f 7).2.1, .int .i64 (f 7).2.2]
/-- A table of the epoch E, of which G were given out, with the slots f. -/
structure TAt (W : World) (b : Nat) (E G : Nat) (f : Nat → Slot) : Prop where
  hb : W.heap[b]? = some (.cells (tcells E G f) 71 (0, 0))
  e1 : 1 ≤ E
  e2 : E ≤ 1073741824
  g : G ≤ 1048576
theorem TAt.keep {W W' : World} {b E G : Nat} {f : Nat → Slot} (h : TAt W b E G f) (hk : W'.heap[b]? = W.heap[b]?) : TAt W' b E G f := ⟨hk.trans h.hb, h.e1, h.e2, h.g⟩
theorem TAt.blt {W : World} {b E G : Nat} {f : Nat → Slot} (h : TAt W b E G f) : b < W.heap.size := (Array.getElem?_eq_some_iff.1 h.hb).1
theorem TAt.below {W W' : World} {b E G : Nat} {f : Nat → Slot} (h : TAt W b E G f) (hb : Below W.heap.size W W') : TAt W' b E G f := h.keep (hb.block b h.blt)
theorem TAt.c0 {W : World} {b E G : Nat} {f : Nat → Slot} (h : TAt W b E G f) : W.cell? ⟨b, 0, none⟩ = some (.int .i64 E) := by
  have := cell_of_row W b 0 _ _ _ h.hb
  simpa [tcells] using this
theorem TAt.c1 {W : World} {b E G : Nat} {f : Nat → Slot} (h : TAt W b E G f) : W.cell? ⟨b, 1, none⟩ = some (.int .i64 G) := by
  have := cell_of_row W b 1 _ _ _ h.hb
  simpa [tcells] using this
theorem eight {i : Nat} (hi : i < 8) : i = 0 ∨ i = 1 ∨ i = 2 ∨ i = 3 ∨ i = 4 ∨ i = 5 ∨ i = 6 ∨ i = 7 := by omega
theorem TAt.su {W : World} {b E G : Nat} {f : Nat → Slot} (h : TAt W b E G f) {i : Nat} (hi : i < 8) : W.cell? ⟨b, 2 + i * 3, none⟩ = some (.bool (f i).1) := by
  have := cell_of_row W b (2 + i * 3) _ _ _ h.hb
  rw [this]
  rcases eight hi with rfl | rfl | rfl | rfl | rfl | rfl | rfl | rfl <;> simp [tcells]
theorem TAt.sg {W : World} {b E G : Nat} {f : Nat → Slot} (h : TAt W b E G f) {i : Nat} (hi : i < 8) : W.cell? ⟨b, 2 + i * 3 + 1, none⟩ = some (.int .i64 (f i).2.1) := by
  have := cell_of_row W b (2 + i * 3 + 1) _ _ _ h.hb
  rw [this]
  rcases eight hi with rfl | rfl | rfl | rfl | rfl | rfl | rfl | rfl <;> simp [tcells]
theorem TAt.so {W : World} {b E G : Nat} {f : Nat → Slot} (h : TAt W b E G f) {i : Nat} (hi : i < 8) : W.cell? ⟨b, 2 + i * 3 + 2, none⟩ = some (.int .i64 (f i).2.2) := by
  have := cell_of_row W b (2 + i * 3 + 2) _ _ _ h.hb
  rw [this]
  rcases eight hi with rfl | rfl | rfl | rfl | rfl | rfl | rfl | rfl <;> simp [tcells]
theorem TAt.fz {W : World} {b E G : Nat} {f : Nat → Slot} (h : TAt W b E G f) (o : Nat) : W.frozen? ⟨b, o, none⟩ = false := frozen_of_row W b o _ _ h.hb
/-- The slots with one that is turned. -/
def upd (f : Nat → Slot) (i : Nat) (s : Slot) : Nat → Slot := fun j => if j = i then s else f j
theorem tcells_upd (E G : Int) (f : Nat → Slot) {i : Nat} (hi : i < 8) (s : Slot) :
    (((tcells E G f).setIfInBounds (2 + i * 3) (.bool s.1)).setIfInBounds (2 + i * 3 + 1) (.int .i64 s.2.1)).setIfInBounds (2 + i * 3 + 2) (.int .i64 s.2.2) = tcells E G (upd f i s) := by
  rcases eight hi with rfl | rfl | rfl | rfl | rfl | rfl | rfl | rfl <;> simp [tcells, upd]
theorem tcells_given (E G G' : Int) (f : Nat → Slot) : (tcells E G f).setIfInBounds 1 (.int .i64 G') = tcells E G' f := by simp [tcells]

/-- One block alone of those that stood there is changed. -/
structure Only1 (b : Nat) (w w' : World) : Prop where
  os : w'.os = w.os
  tape : w'.tape = w.tape
  output : w'.output = w.output
  size : w.heap.size ≤ w'.heap.size
  far : ∀ i, i < w.heap.size → i ≠ b → w'.heap[i]? = w.heap[i]?
theorem Only1.below {b B : Nat} {w w' : World} (h : Only1 b w w') (hb : B ≤ b) (hB : B ≤ w.heap.size) : Below B w w' := ⟨h.os, h.tape, h.output, h.size, fun i hi => h.far i (by omega) (by omega)⟩
theorem Only1.of {b : Nat} {w w' : World} (h : Below w.heap.size w w') : Only1 b w w' := ⟨h.os, h.tape, h.output, h.size, fun i hi _ => h.block i hi⟩
theorem Only1.trans {b : Nat} {w w' w'' : World} (h : Only1 b w w') (k : Only1 b w' w'') : Only1 b w w'' :=
  ⟨k.os.trans h.os, k.tape.trans h.tape, k.output.trans h.output, Nat.le_trans h.size k.size, fun i hi hn => (k.far i (Nat.lt_of_lt_of_le hi h.size) hn).trans (h.far i hi hn)⟩

theorem root_any (b E G : Nat) (f : Nat → Slot) (w : World) (H : TAt w b E G f) :
    Calls Try.prog 10 #[.pointer (some ⟨b, 0, none⟩)] w fun e w' => e = .returned (.agg #[.int .i64 0, .int .i64 (E * 1048576)]) ∧ Below w.heap.size w w' := by
  have c0 := H.c0
  have e2 := H.e2
  have hbl := H.blt
  have hbn : b ≠ w.heap.size := by omega
  have hw : IntKind.i64.wrap ((E : Int) * 1048576) = (E : Int) * 1048576 := by rw [IntKind.wrap_i64]; omega
  clear H
  go_enter Try.func10, Try.ntmps10
  go_wp2
  refine bodyPost_ret (v := .agg #[.int .i64 0, .int .i64 (E * 1048576)]) (by simp [results, Try.results10, go_sem]) rfl ⟨rfl, ?_⟩
  exact (Below.refl w.heap.size w).alloc (Nat.le_refl _) _

theorem may_any (s : Int) (w : World) :
    Calls Try.prog 30 #[.int .i64 s] w fun e w' => e = .returned (.bool (decide (0 ≤ s ∧ s < 16))) ∧ w = w' := by
  by_cases h0 : 0 ≤ s
  · by_cases h1 : s < 16
    · rw [show decide (0 ≤ s ∧ s < 16) = true by simp; omega]
      go_enter Try.func30, Try.ntmps30
      go_wp2
      go_ret
      exact ⟨rfl, rfl⟩
    · rw [show decide (0 ≤ s ∧ s < 16) = false by simp; omega]
      go_enter Try.func30, Try.ntmps30
      go_wp2
      go_ret
      exact ⟨rfl, rfl⟩
  · rw [show decide (0 ≤ s ∧ s < 16) = false by simp; omega]
    go_enter Try.func30, Try.ntmps30
    go_wp2
    go_ret
    exact ⟨rfl, rfl⟩

/-- Are rights among others? As the machine tells it. -/
def hs (o n : Int) : Bool := bits BinOp.and IntKind.i64 o n == n
theorem has_any (o n : Int) (w : World) :
    Calls Try.prog 36 #[.int .i64 o, .int .i64 n] w fun e w' => e = .returned (.bool (hs o n)) ∧ w = w' := by
  go_enter Try.func36, Try.ntmps36
  go_wp2
  go_ret
  exact ⟨rfl, rfl⟩

theorem of4_any (B : Nat) (w : World) (c0 : w.cell? ⟨B, 0, none⟩ = some (.int .i64 1)) (c1 : w.cell? ⟨B, 1, none⟩ = some (.int .i64 2)) (c2 : w.cell? ⟨B, 2, none⟩ = some (.int .i64 4)) (c3 : w.cell? ⟨B, 3, none⟩ = some (.int .i64 8)) :
    Calls Try.prog 35 #[.slice (some ⟨B, 0, none⟩) 4 4] w fun e w' => e = .returned (.int .i64 15) ∧ w = w' := by
  go_enter Try.func35, Try.ntmps35
  go_wp2_with fail
  refine wp_loop_rounds 5 ?_
  rw [rounds_succ]
  go_wp2_with fail
  rw [rounds_succ]
  go_wp2_with fail
  rw [rounds_succ]
  go_wp2_with fail
  rw [rounds_succ]
  go_wp2_with fail
  rw [rounds_succ]
  go_wp2_with fail
  go_ret
  exact ⟨by rfl, rfl⟩
theorem allr_any (w : World) :
    Calls Try.prog 17 #[] w fun e w' => e = .returned (.int .i64 15) ∧ Below w.heap.size w w' := by
  have HO := Lib.hid (of4_any w.heap.size (w.alloc (.cells #[.int .i64 1, .int .i64 2, .int .i64 4, .int .i64 8] 33)) (by go_simp) (by go_simp) (by go_simp) (by go_simp))
  go_enter Try.func17, Try.ntmps17
  go_wp2_with fail
  refine HO.out.mono ?_
  rintro e w' ⟨rfl, rfl⟩
  go_wp2
  go_ret
  exact ⟨rfl, (Below.refl _ _).alloc (Nat.le_refl _) _⟩

theorem TAt.fill {W : World} {b E G : Nat} {f : Nat → Slot} (h : TAt W b E G f) {i : Nat} (hi : i < 8) (s : Slot) :
    TAt (((W.setCell ⟨b, 2 + i * 3, none⟩ (.bool s.1)).setCell ⟨b, 2 + i * 3 + 1, none⟩ (.int .i64 s.2.1)).setCell ⟨b, 2 + i * 3 + 2, none⟩ (.int .i64 s.2.2)) b E G (upd f i s) ∧
      Only1 b W (((W.setCell ⟨b, 2 + i * 3, none⟩ (.bool s.1)).setCell ⟨b, 2 + i * 3 + 1, none⟩ (.int .i64 s.2.1)).setCell ⟨b, 2 + i * 3 + 2, none⟩ (.int .i64 s.2.2)) := by
  have k1 := Go.heap_setCell_same W b (2 + i * 3) _ 71 (.bool s.1) h.hb
  have k2 := Go.heap_setCell_same _ b (2 + i * 3 + 1) _ 71 (.int .i64 s.2.1) k1
  have k3 := Go.heap_setCell_same _ b (2 + i * 3 + 2) _ 71 (.int .i64 s.2.2) k2
  rw [tcells_upd _ _ _ hi] at k3
  exact ⟨⟨k3, h.e1, h.e2, h.g⟩, ⟨rfl, rfl, rfl, by simp, fun j _ hj => by rw [Go.heap_setCell_other _ _ _ _ (by exact hj), Go.heap_setCell_other _ _ _ _ (by exact hj), Go.heap_setCell_other _ _ _ _ (by exact hj)]⟩⟩
theorem TAt.given {W : World} {b E G : Nat} {f : Nat → Slot} (h : TAt W b E G f) (hg : G + 1 ≤ 1048576) : TAt (W.setCell ⟨b, 1, none⟩ (.int .i64 ((G : Int) + 1))) b E (G + 1) f ∧ Only1 b W (W.setCell ⟨b, 1, none⟩ (.int .i64 ((G : Int) + 1))) := by
  have k1 := Go.heap_setCell_same W b 1 _ 71 (.int .i64 ((G : Int) + 1)) h.hb
  rw [tcells_given] at k1
  exact ⟨⟨k1, h.e1, h.e2, hg⟩, ⟨rfl, rfl, rfl, by simp, fun j _ hj => Go.heap_setCell_other _ _ _ _ (by exact hj)⟩⟩

set_option maxHeartbeats 1000000 in
theorem give_any (b E G i : Nat) (f : Nat → Slot) (own : Int) (w : World) (H : TAt w b E G f) (hi : i < 8) (hg : G < 1048576) :
    Calls Try.prog 29 #[.pointer (some ⟨b, 0, none⟩), .int .i64 i, .int .i64 own] w fun e w' => e = .returned (.agg #[.int .i64 i, .int .i64 (E * 1048576 + G)]) ∧ TAt w' b E (G + 1) (upd f i (true, E * 1048576 + G, own)) ∧ Only1 b w w' := by
  have e2 := H.e2
  have hbl := H.blt
  have hbn : b ≠ w.heap.size := by omega
  have hii : (i : Int) < 8 := by omega
  have hi0 : (0 : Int) ≤ (i : Int) := by omega
  have hw : IntKind.i64.wrap ((E : Int) * 1048576) = (E : Int) * 1048576 := by rw [IntKind.wrap_i64]; omega
  have hw2 : IntKind.i64.wrap ((E : Int) * 1048576 + (G : Int)) = (E : Int) * 1048576 + (G : Int) := by rw [IntKind.wrap_i64]; omega
  have hw3 : IntKind.i64.wrap ((G : Int) + 1) = (G : Int) + 1 := by rw [IntKind.wrap_i64]; omega
  have HW := Lib.hid (H.below ((Below.refl _ _).alloc (Nat.le_refl _) (.cells #[.int .i64 0, .int .i64 0] 28)))
  clear H
  go_enter Try.func29, Try.ntmps29
  obtain ⟨w1, hw1⟩ : ∃ w1 : World, w1 = w.alloc (.cells #[.int .i64 0, .int .i64 0] 28) := ⟨_, rfl⟩
  have hn0 : w1.heap[w.heap.size]? = some (.cells #[.int .i64 0, .int .i64 0] 28 (0, 0)) := by rw [hw1]; exact heap_alloc_new w _
  rw [← hw1] at HW
  have hO1 : Only1 b w w1 := by rw [hw1]; exact Only1.of ((Below.refl _ _).alloc (Nat.le_refl _) _)
  have hz1 : w1.heap.size = w.heap.size + 1 := by rw [hw1]; simp
  have HW1 := Lib.hid hw1
  have HN0 := Lib.hid hn0
  have HO1 := Lib.hid hO1
  clear hw1 hn0 hO1
  go_upto_region 1 with (fail)
  rw [← HW1.out]
  have c0 := HW.out.c0
  have c1 := HW.out.c1
  have c2 := HW.out.su hi
  have c3 := HW.out.sg hi
  have c4 := HW.out.so hi
  have f2 := HW.out.fz (2 + i * 3)
  have f3 := HW.out.fz (2 + i * 3 + 1)
  have f4 := HW.out.fz (2 + i * 3 + 2)
  go_still_tail 17, (by kernel_rfl)
  change wpList _ _ _ _ _ w1.drew
  have HT2 := Lib.hid (show TAt w1.drew b E G f from HW.out.keep rfl)
  have HN2 := Lib.hid (show w1.drew.heap[w.heap.size]? = _ from HN0.out)
  have HO2 := Lib.hid (HO1.out.trans (w'' := w1.drew) (Only1.of (below_drew (Below.refl _ _))))
  replace c2 : w1.drew.cell? ⟨b, 2 + i * 3, none⟩ = _ := c2
  replace c3 : w1.drew.cell? ⟨b, 2 + i * 3 + 1, none⟩ = _ := c3
  replace c4 : w1.drew.cell? ⟨b, 2 + i * 3 + 2, none⟩ = _ := c4
  replace f2 : w1.drew.frozen? ⟨b, 2 + i * 3, none⟩ = _ := f2
  replace f3 : w1.drew.frozen? ⟨b, 2 + i * 3 + 1, none⟩ = _ := f3
  replace f4 : w1.drew.frozen? ⟨b, 2 + i * 3 + 2, none⟩ = _ := f4
  clear HW HN0 HO1 HW1 c0 c1 hz1
  generalize w1.drew = w2 at *
  go_upto_region 2 with (fail)
  have hfill := HT2.out.fill hi (true, (E : Int) * 1048576 + G, own)
  obtain ⟨w3, hw3'⟩ : ∃ w3 : World, w3 = ((w2.setCell ⟨b, 2 + i * 3, none⟩ (.bool true)).setCell ⟨b, 2 + i * 3 + 1, none⟩ (.int .i64 ((E : Int) * 1048576 + G))).setCell ⟨b, 2 + i * 3 + 2, none⟩ (.int .i64 own) := ⟨_, rfl⟩
  rw [← hw3']
  have hfill : TAt w3 b E G (upd f i (true, (E : Int) * 1048576 + G, own)) ∧ Only1 b w2 w3 := by rw [hw3']; exact hfill
  obtain ⟨hT3, hO3⟩ := hfill
  have hn3 := (hO3.far w.heap.size (Array.getElem?_eq_some_iff.1 HN2.out).1 (by omega)).trans HN2.out
  have HO3 := Lib.hid (HO2.out.trans hO3)
  have c1 := hT3.c1
  have f1 := hT3.fz 1
  have HN3 := Lib.hid hn3
  have HT3 := Lib.hid hT3
  clear hT3 hO3 hn3 hw3' HT2 HN2 HO2 c2 c3 c4 f2 f3 f4
  go_upto_region 3 with (fail)
  obtain ⟨w4, hw4⟩ : ∃ w4 : World, w4 = w3.setCell ⟨b, 1, none⟩ (.int .i64 ((G : Int) + 1)) := ⟨_, rfl⟩
  rw [← hw4]
  have hgv := HT3.out.given (by omega : G + 1 ≤ 1048576)
  rw [← hw4] at hgv
  obtain ⟨hT4, hO4⟩ := hgv
  have hn4 := (hO4.far w.heap.size (Array.getElem?_eq_some_iff.1 HN3.out).1 (by omega)).trans HN3.out
  have HO4 := Lib.hid (HO3.out.trans hO4)
  have HT4 := Lib.hid hT4
  have c3 := hT4.sg hi
  have n0 := cell_of_row w4 w.heap.size 0 _ _ _ hn4
  have n1 := cell_of_row w4 w.heap.size 1 _ _ _ hn4
  have m0 := frozen_of_row w4 w.heap.size 0 _ _ hn4
  have m1 := frozen_of_row w4 w.heap.size 1 _ _ hn4
  have hlt := (Array.getElem?_eq_some_iff.1 hn4).1
  rw [show (upd f i (true, (E : Int) * 1048576 + (G : Int), own) i).2.1 = (E : Int) * 1048576 + G by simp [upd]] at c3
  simp at n0 n1
  clear hT4 hO4 hn4 hw4 HT3 HN3 HO3 c1 f1
  go_wp2
  refine bodyPost_ret (v := .agg #[.int .i64 i, .int .i64 (E * 1048576 + G)]) (by simp [results, Try.results29, go_sem, n0, n1]) rfl ⟨rfl, HT4.out.keep ?_, ?_⟩
  · rw [Go.heap_setCell_other _ _ _ _ (by exact hbn), Go.heap_setCell_other _ _ _ _ (by exact hbn)]
  · refine ⟨HO4.out.os, HO4.out.tape, HO4.out.output, by simpa using HO4.out.size, fun j h1 h2 => ?_⟩
    rw [Go.heap_setCell_other _ _ _ _ (by show j ≠ w.heap.size; omega), Go.heap_setCell_other _ _ _ _ (by show j ≠ w.heap.size; omega)]
    exact HO4.out.far j h1 h2


def emp : Nat → Slot := fun _ => (false, 0, 0)
theorem new_bad (n : Int) (w : World) (h : n < 1 ∨ 1073741824 < n) :
    Calls Try.prog 9 #[.int .i64 n] w fun e w' => e = .returned (.tuple #[.pointer none, .int .i64 1]) ∧ w = w' := by
  rcases h with h | h
  · go_enter Try.func9, Try.ntmps9
    go_wp2
    go_ret2
    exact ⟨rfl, rfl⟩
  · have h' : ¬ n < 1 := by omega
    go_enter Try.func9, Try.ntmps9
    go_wp2
    go_ret2
    exact ⟨rfl, rfl⟩
theorem new_good (n : Nat) (w : World) (h1 : 1 ≤ n) (h2 : n ≤ 1073741824) :
    Calls Try.prog 9 #[.int .i64 n] w fun e w' => ∃ b, w.heap.size ≤ b ∧ e = .returned (.tuple #[.pointer (some ⟨b, 0, none⟩), .int .i64 0]) ∧ TAt w' b n 1 (upd emp 0 (true, n * 1048576, 15)) ∧ Below w.heap.size w w' := by
  have ha : ¬ (n : Int) < 1 := by omega
  have hb : ¬ (1073741824 : Int) < (n : Int) := by omega
  obtain ⟨w1, hw1⟩ : ∃ w1 : World, w1 = w.alloc (.cells (tcells n 0 emp) 71) := ⟨_, rfl⟩
  have HT := Lib.hid (show TAt w1 w.heap.size n 0 emp from ⟨by rw [hw1]; exact heap_alloc_new w _, h1, h2, by omega⟩)
  have HB1 := Lib.hid (show Below w.heap.size w w1 by rw [hw1]; exact (Below.refl _ _).alloc (Nat.le_refl _) _)
  have hsz : w1.heap.size = w.heap.size + 1 := by rw [hw1]; simp
  simp only [tcells, emp] at hw1
  have HW1 := Lib.hid hw1
  clear hw1
  go_enter Try.func9, Try.ntmps9
  go_wp2_with fail
  rw [show (w.alloc (Obj.cells #[Value.int IntKind.i64 n, Value.int IntKind.i64 0, Value.bool false, Value.int IntKind.i64 0, Value.int IntKind.i64 0, Value.bool false, Value.int IntKind.i64 0, Value.int IntKind.i64 0, Value.bool false, Value.int IntKind.i64 0, Value.int IntKind.i64 0, Value.bool false, Value.int IntKind.i64 0, Value.int IntKind.i64 0, Value.bool false, Value.int IntKind.i64 0, Value.int IntKind.i64 0, Value.bool false, Value.int IntKind.i64 0, Value.int IntKind.i64 0, Value.bool false, Value.int IntKind.i64 0, Value.int IntKind.i64 0, Value.bool false, Value.int IntKind.i64 0, Value.int IntKind.i64 0] 71)) = w1 from HW1.out.symm]
  refine (allr_any w1).mono ?_
  rintro e w2 ⟨rfl, hb2⟩
  have HG := Lib.hid (give_any w.heap.size n 0 0 emp 15 w2 (HT.out.below hb2) (by omega) (by omega))
  have HB2 := Lib.hid (HB1.out.trans (hb2.mono HB1.out.size))
  clear hb2
  go_wp2_with fail
  refine HG.out.mono ?_
  rintro e w3 ⟨rfl, ht3, ho3⟩
  have HT3 := Lib.hid ht3
  have HB3 := Lib.hid (HB2.out.trans (ho3.below (Nat.le_refl _) HB2.out.size))
  clear ht3 ho3 HG
  go_wp2
  go_ret2
  exact ⟨w.heap.size, Nat.le_refl _, rfl, by simpa using HT3.out, HB3.out⟩

/-- Those that are good, of the first k slots. -/
def live (f : Nat → Slot) (k : Nat) : List (Int × Int) := ((List.range k).filter fun i : Nat => (f i).1).map fun i : Nat => ((i : Int), (f i).2.1)
def capv (l : List (Int × Int)) : List Value := l.flatMap fun c => [.int .i64 c.1, .int .i64 c.2]
theorem live_zero (f : Nat → Slot) : live f 0 = [] := rfl
theorem live_yes (f : Nat → Slot) (k : Nat) (h : (f k).1 = true) : live f (k + 1) = live f k ++ [((k : Int), (f k).2.1)] := by simp [live, List.range_succ, h]
theorem live_no (f : Nat → Slot) (k : Nat) (h : (f k).1 = false) : live f (k + 1) = live f k := by simp [live, List.range_succ, h]
theorem live_len (f : Nat → Slot) (k : Nat) : (live f k).length ≤ k := by
  unfold live
  rw [List.length_map]
  exact Nat.le_trans (List.length_filter_le _ _) (by simp)
theorem info28' : (Try.prog.info? 28).map (fun i => (i.zero, i.size, i.bytes)) = some (some (.agg #[.int .i64 0, .int .i64 0]), 2, 16) := by kernel_rfl

def slotsl (f : Nat → Slot) : List Value :=
  [.bool (f 0).1, .int .i64 (f 0).2.1, .int .i64 (f 0).2.2, .bool (f 1).1, .int .i64 (f 1).2.1, .int .i64 (f 1).2.2,
    .bool (f 2).1, .int .i64 (f 2).2.1, .int .i64 (f 2).2.2, .bool (f 3).1, .int .i64 (f 3).2.1, .int .i64 (f 3).2.2,
    .bool (f 4).1, .int .i64 (f 4).2.1, .int .i64 (f 4).2.2, .bool (f 5).1, .int .i64 (f 5).2.1, .int .i64 (f 5).2.2,
    .bool (f 6).1, .int .i64 (f 6).2.1, .int .i64 (f 6).2.2, .bool (f 7).1, .int .i64 (f 7).2.1, .int .i64 (f 7).2.2]
theorem TAt.range {W : World} {b E G : Nat} {f : Nat → Slot} (h : TAt W b E G f) : W.rangeAt b 2 (slotsl f) := by
  intro j v hj
  rw [cell_of_row W b (2 + j) _ _ _ h.hb, ← Array.getElem?_toList]
  have e : (tcells E G f).toList = [.int .i64 E, .int .i64 G] ++ slotsl f := by simp only [tcells, slotsl, List.cons_append, List.nil_append]
  rw [e, List.getElem?_append_right (by simp)]
  simpa using hj

theorem two_one (x y : Int) (u : Value) (h : u ∈ [Value.int .i64 x, Value.int .i64 y]) : u.oneCell' = true := by
  simp only [List.mem_cons, List.not_mem_nil, or_false] at h
  rcases h with rfl | rfl <;> rfl
theorem idx_slot (f : Nat → Slot) (k : Nat) (hk : k < 8) (w : World) :
    Sem.run Try.prog (Instr.index 69 (.agg (slotsl f).toArray) (.int .i64 k)) w = .ok (.agg #[.bool (f k).1, .int .i64 (f k).2.1, .int .i64 (f k).2.2]) w := by
  rcases eight hk with rfl | rfl | rfl | rfl | rfl | rfl | rfl | rfl
  all_goals (unfold slotsl; simp [Instr.index, go_sem])

set_option maxHeartbeats 1000000 in
theorem all_any (b E G : Nat) (f : Nat → Slot) (w : World) (H : TAt w b E G f) :
    Calls Try.prog 27 #[.pointer (some ⟨b, 0, none⟩)] w fun e w' => ∃ v, e = .returned v ∧ w'.ownsRow w.heap.size 28 2 v (live f 8).length (capv (live f 8)) ∧ Below w.heap.size w w' := by
  have hbl := H.blt
  obtain ⟨X, hX⟩ : ∃ X, X = slotsl f := ⟨_, rfl⟩
  have HR := Lib.hid (H.range)
  rw [← hX] at HR
  have hl : (Try.prog.info? 69).map (·.size) = some X.length := by rw [hX]; kernel_rfl
  have HX := Lib.hid hX
  have HL := Lib.hid hl
  clear H hX hl
  go_enter Try.func27, Try.ntmps27
  go_upto_region 3 with (refine wpList_load_mid rfl 69 _ rfl b 2 rfl X _ HR.out Try.underlying69 rfl HL.out ?_)
  go_loopw [3, 4, 5, 10] (fun v _ _ c wr => ∃ k : Nat, k ≤ 8 ∧ c = .int .i64 k ∧ wr.ownsRow w.heap.size 28 2 v (live f k).length (capv (live f k)) ∧ Below w.heap.size w wr) (fun _ _ _ c _ => 8 - (intOf c).toNat)
  case atStart => exact ⟨0, by omega, rfl, by simpa [live, capv] using own_nil _ _ _ _, Below.refl _ _⟩
  case round =>
    obtain ⟨k, hk, rfl, hown, hbel⟩ := hrel
    have HBE := Lib.hid hbel
    have HOW := Lib.hid hown
    have hsz := hbel.size
    clear hown hbel
    by_cases hlt : k < 8
    · have hki : (k : Int) < 8 := by omega
      have hk0 : (0 : Int) ≤ (k : Int) := by omega
      have hidx : ∀ w, Sem.run Try.prog (Instr.index 69 (.agg X.toArray) (.int .i64 k)) w = .ok (.agg #[.bool (f k).1, .int .i64 (f k).2.1, .int .i64 (f k).2.2]) w := by
        rw [HX.out]; exact idx_slot f k hlt
      cases hu : (f k).1
      · rw [hu] at hidx
        go_wp2_with fail
        go_roundw
        case rel => exact ⟨k + 1, by omega, by go_num, by rw [live_no f k hu]; exact own_below HOW.out ((Below.refl _ _).alloc (Nat.le_refl _) _), HBE.out.alloc hsz _⟩
        case measure => simp [intOf]; omega
      · rw [hu] at hidx
        have HOB := Lib.hid (own_below HOW.out ((Below.refl _ _).alloc (Nat.le_refl wr.heap.size) (.cells #[.bool true, .int .i64 (f k).2.1, .int .i64 (f k).2.2] 68)))
        have hln := live_len f k
        go_wp2_with (at_builtin; refine app_one HOB.out [.int .i64 k, .int .i64 (f k).2.1] rfl rfl Try.underlying42 info28' rfl (by decide) rfl rfl (by simp) rfl (two_one _ _) (by simp; omega) (by omega) (by omega) ?_; intro v1 w1 hown1 hbel1 hgr)
        have HO1 := Lib.hid hown1
        have HB1 := Lib.hid ((HBE.out.alloc hsz (.cells #[.bool true, .int .i64 (f k).2.1, .int .i64 (f k).2.2] 68)).trans hbel1)
        clear hown1 hbel1 hgr
        go_roundw
        case rel => exact ⟨k + 1, by omega, by go_num, by rw [live_yes f k hu]; simpa [capv] using HO1.out, HB1.out⟩
        case measure => simp [intOf]; omega
    · have e : k = 8 := by omega
      subst e
      go_wp2_with fail
      go_ret
      exact ⟨_, rfl, HOW.out, HBE.out⟩
end Go.Proofs.Ythdcffbifgifeaa
