/- caps.Table: minting by the root in a drawn region. -/
import Derived.Test.YthdcffbifgifeaaLawFull
import Derived.Test.YthdcffbifgifeaaLawLess
namespace Go.Proofs.Ythdcffbifgifeaa
open Go.RowKit
set_option linter.unusedVariables false

theorem mint_next {W : World} {b E : Nat} {rs : List Int} {r : Int} (h : TAt W b E (rs.length + 1) (stL E rs)) (h0 : 0 ≤ r) (h1 : r < 16) (hl : rs.length < 7) :
    Calls Try.prog 12 #[.pointer (some ⟨b, 0, none⟩), .agg #[.int .i64 0, .int .i64 (E * 1048576)], .int .i64 r] W fun e w' =>
      e = .returned (.tuple #[.agg #[.int .i64 ((rs.length : Int) + 1), .int .i64 (E * 1048576 + ((rs.length : Int) + 1))], .int .i64 0]) ∧
        TAt w' b E (rs.length + 1 + 1) (stL E (rs ++ [r])) ∧ Only1 b W w' := by
  have hf := stL_fre E rs
  rw [if_pos hl] at hf
  have hm := (stL_root E rs).mcode (G := rs.length + 1) h0 h1
  rw [hf, if_neg (by omega)] at hm
  refine (mint_any b E (rs.length + 1) (stL E rs) 0 (E * 1048576) r W h).mono ?_
  rintro e w' (⟨h2, _⟩ | ⟨_, i, hi, h2, _, _, rfl, h3, h4⟩)
  · exact absurd hm h2
  · rw [hf] at h2
    obtain rfl : i = rs.length + 1 := by omega
    rw [stL_snoc] at h3
    exact ⟨by simp, h3, h4⟩
/-- A box that the region made is filled. -/
theorem box_put {wr Y : World} {b E G pb : Nat} {f : Nat → Slot} {x y : Value} (u v : Value) (hO : Only1 b wr Y) (hT : TAt Y b E G f) (hblk : Y.heap[pb]? = some (.cells #[x, y] 28 (0, 0))) (hb : b < wr.heap.size) (hpb : wr.heap.size ≤ pb) :
    ((Y.setCell ⟨pb, 0, none⟩ u).setCell ⟨pb, 1, none⟩ v).cell? ⟨pb, 0, none⟩ = some u ∧ ((Y.setCell ⟨pb, 0, none⟩ u).setCell ⟨pb, 1, none⟩ v).cell? ⟨pb, 1, none⟩ = some v ∧
      TAt ((Y.setCell ⟨pb, 0, none⟩ u).setCell ⟨pb, 1, none⟩ v) b E G f ∧ Only1 b wr ((Y.setCell ⟨pb, 0, none⟩ u).setCell ⟨pb, 1, none⟩ v) := by
  have k1 := Go.heap_setCell_same Y pb 0 _ 28 u hblk
  have k2 := Go.heap_setCell_same _ pb 1 _ 28 v k1
  have c0 := cell_of_row _ pb 0 _ _ _ k2
  have c1 := cell_of_row _ pb 1 _ _ _ k2
  simp at c0 c1
  refine ⟨c0, c1, hT.keep ?_, hO.os, hO.tape, hO.output, by simpa using hO.size, fun i hi hn => ?_⟩
  · rw [Go.heap_setCell_other _ _ _ _ (by show b ≠ pb; omega), Go.heap_setCell_other _ _ _ _ (by show b ≠ pb; omega)]
  · rw [Go.heap_setCell_other _ _ _ _ (by show i ≠ pb; omega), Go.heap_setCell_other _ _ _ _ (by show i ≠ pb; omega)]
    exact hO.far i hi hn
theorem below_alloc0 {w W : World} {o : Obj} (h : Below w.heap.size w W) : Below w.heap.size w (W.alloc o) := h.alloc h.size _
theorem keep_put {Y : World} {ab o pb : Nat} {u v z : Value} (h : ab ≠ pb) (d : Y.cell? ⟨ab, o, none⟩ = some z) : ((Y.setCell ⟨pb, 0, none⟩ u).setCell ⟨pb, 1, none⟩ v).cell? ⟨ab, o, none⟩ = some z :=
  (World.cell?_of_block (a := ⟨ab, o, none⟩) (by rw [Go.heap_setCell_other _ _ _ _ (by exact h), Go.heap_setCell_other _ _ _ _ (by exact h)])).trans d
theorem keep_alloc {Y : World} {a : Addr} {z : Value} {ob : Obj} (d : Y.cell? a = some z) : (Y.alloc ob).cell? a = some z := cell_below ((Below.refl _ _).alloc (Nat.le_refl _) _) d
/-- A box that the region has made. -/
structure Bx (b B : Nat) (W : World) (p : Nat) : Prop where
  blk : W.heap[p]? = some (.cells #[.int .i64 0, .int .i64 0] 28 (0, 0))
  ne : p ≠ b
  ge : B ≤ p
theorem Bx.below {b B p : Nat} {W W' : World} (h : Bx b B W p) (hb : Below W.heap.size W W') : Bx b B W' p := ⟨(hb.block _ (Array.getElem?_eq_some_iff.1 h.blk).1).trans h.blk, h.ne, h.ge⟩
theorem Bx.only {b B p : Nat} {W W' : World} (h : Bx b B W p) (ho : Only1 b W W') : Bx b B W' p := ⟨(ho.far _ (Array.getElem?_eq_some_iff.1 h.blk).1 h.ne).trans h.blk, h.ne, h.ge⟩
theorem Bx.new {b B : Nat} (W : World) (hb : b < B) (hB : B ≤ W.heap.size) : Bx b B (W.alloc (.cells #[.int .i64 0, .int .i64 0] 28)) W.heap.size := ⟨heap_alloc_new W _, by omega, hB⟩
theorem Bx.f0 {b B p : Nat} {W : World} (h : Bx b B W p) : W.frozen? ⟨p, 0, none⟩ = false ∧ W.frozen? ⟨p, 1, none⟩ = false ∧ W.cell? ⟨p, 0, none⟩ = some (.int .i64 0) ∧ W.cell? ⟨p, 1, none⟩ = some (.int .i64 0) := by
  refine ⟨frozen_of_row W p 0 _ _ h.blk, frozen_of_row W p 1 _ _ h.blk, ?_, ?_⟩
  · have := cell_of_row W p 0 _ _ _ h.blk; simpa using this
  · have := cell_of_row W p 1 _ _ _ h.blk; simpa using this
theorem gd_none {f : Nat → Slot} {i : Nat} {g : Int} (h : ¬ ((f i).1 = true ∧ g = (f i).2.1)) : gd f i g = none := by
  unfold gd
  rw [if_neg]
  intro hm
  obtain ⟨j, _, h1, h2, h3⟩ := live_mem hm
  obtain rfl : i = j := by omega
  exact h ⟨h2, h3⟩
theorem gd_some {f : Nat → Slot} {i : Nat} {g : Int} (hi : i < 8) (h1 : (f i).1 = true) (h2 : g = (f i).2.1) : gd f i g = some (f i).2.2 := by
  subst h2
  have hm := mem_live hi h1
  unfold gd
  rw [if_pos hm, Int.toNat_natCast]
theorem revoke_bad {W : World} {b E G : Nat} {f : Nat → Slot} {s g : Int} (h : TAt W b E G f) (hr : Rooted f E) (hg : gd f s g = none) :
    Calls Try.prog 19 #[.pointer (some ⟨b, 0, none⟩), .agg #[.int .i64 0, .int .i64 (E * 1048576)], .agg #[.int .i64 s, .int .i64 g]] W fun e w' => e = .returned (.int .i64 10) ∧ Below W.heap.size W w' := by
  have hc : rvcode f 0 ((E : Int) * 1048576) s g = 10 := by
    unfold rvcode
    rw [hr.code (by omega) (by omega), if_neg (by simp), hg]
    rfl
  refine (revoke_any b E G f 0 (E * 1048576) s g W h).mono ?_
  rintro e w' (⟨_, rfl, h2⟩ | ⟨h1, _⟩)
  · rw [hc]; exact ⟨rfl, h2⟩
  · rw [hc] at h1; exact absurd h1 (by omega)
theorem revoke_ok {W : World} {b E G i : Nat} {f : Nat → Slot} {g : Int} (h : TAt W b E G f) (hr : Rooted f E) (hi : i < 8) (h1 : (f i).1 = true) (h2 : g = (f i).2.1) :
    Calls Try.prog 19 #[.pointer (some ⟨b, 0, none⟩), .agg #[.int .i64 0, .int .i64 (E * 1048576)], .agg #[.int .i64 i, .int .i64 g]] W fun e w' => e = .returned (.int .i64 0) ∧ TAt w' b E G (upd f i (false, 0, 0)) ∧ Only1 b W w' := by
  have hc : rvcode f 0 ((E : Int) * 1048576) i g = 0 := by
    unfold rvcode
    rw [hr.code (by omega) (by omega), if_neg (by simp), gd_some hi h1 h2]
    rfl
  refine (revoke_any b E G f 0 (E * 1048576) i g W h).mono ?_
  rintro e w' (⟨h1, _⟩ | ⟨_, j, hj, h1, _, _, rfl, h2, h3⟩)
  · exact absurd hc h1
  · obtain rfl : i = j := by omega
    exact ⟨rfl, h2, h3⟩
theorem check_bad {W : World} {b E G : Nat} {f : Nat → Slot} {s g need : Int} (h : TAt W b E G f) (hg : gd f s g = none) :
    Calls Try.prog 18 #[.pointer (some ⟨b, 0, none⟩), .agg #[.int .i64 s, .int .i64 g], .int .i64 need] W fun e w' => e = .returned (.int .i64 10) ∧ Below W.heap.size W w' := by
  have := check_any b E G f s g need W h
  rw [hg] at this
  exact this
theorem mint_ok {W : World} {b E G i : Nat} {f : Nat → Slot} {r : Int} (h : TAt W b E G f) (hr : Rooted f E) (h0 : 0 ≤ r) (h1 : r < 16) (hf : fre f 8 0 = i) (hG : G < 1048576) :
    Calls Try.prog 12 #[.pointer (some ⟨b, 0, none⟩), .agg #[.int .i64 0, .int .i64 (E * 1048576)], .int .i64 r] W fun e w' =>
      e = .returned (.tuple #[.agg #[.int .i64 i, .int .i64 (E * 1048576 + G)], .int .i64 0]) ∧ TAt w' b E (G + 1) (upd f i (true, E * 1048576 + G, r)) ∧ Only1 b W w' := by
  have hm := hr.mcode (G := G) h0 h1
  rw [hf, if_neg (by omega)] at hm
  refine (mint_any b E G f 0 (E * 1048576) r W h).mono ?_
  rintro e w' (⟨h2, _⟩ | ⟨_, j, hj, h2, _, _, rfl, h3, h4⟩)
  · exact absurd hm h2
  · rw [hf] at h2
    obtain rfl : i = j := by omega
    exact ⟨rfl, h3, h4⟩
theorem gone_fre' (E : Nat) (rs : List Int) {i : Nat} (hi : i ≤ rs.length) (hl : rs.length ≤ 7) : fre (gone E rs i) 8 0 = i := by
  rw [fre_run (gone E rs i) 8 0 i (by omega) (fun j _ h => by unfold gone upd; rw [if_neg (by omega)]; exact (stL_used E rs (by omega)).1) (fun _ => by unfold gone upd; rw [if_pos rfl]), if_pos (by omega)]
theorem gone_back (E : Nat) (rs : List Int) (i : Nat) (s : Slot) : upd (upd (gone E rs i) i s) i (false, 0, 0) = gone E rs i := by
  funext j
  unfold gone upd
  by_cases h : j = i
  · rw [if_pos h, if_pos h]
  · rw [if_neg h, if_neg h, if_neg h]
theorem flags8 : ∀ n i : Fin 8, 1 ≤ i.val → i.val ≤ n.val → ((List.range 8).filter fun j => decide (j ≠ i.val ∧ j ≤ n.val)).length = n.val := by decide +kernel
theorem gone_live (E : Nat) (rs : List Int) {i : Nat} (h1 : 1 ≤ i) (hi : i ≤ rs.length) (hl : rs.length ≤ 7) : (live (gone E rs i) 8).length = rs.length := by
  unfold live
  rw [List.length_map]
  have := flags8 ⟨rs.length, by omega⟩ ⟨i, by omega⟩ h1 hi
  rw [List.filter_congr (q := fun j => decide (j ≠ i ∧ j ≤ rs.length))]
  · exact this
  · intro j hj
    unfold gone upd
    by_cases h : j = i
    · rw [if_pos h]; simp [h]
    · rw [if_neg h]
      by_cases hle : j ≤ rs.length
      · rw [(stL_used E rs hle).1]; simp [h, hle]
      · rw [stL_free E rs (by omega)]; simp; omega
theorem capl_get' (E m j : Nat) (h : j < m) : (capl E m)[j]? = some ((j : Int) + 1, (E : Int) * 1048576 + ((j : Int) + 1)) := capl_get E m j h
theorem Only1.alloc {b : Nat} {w W : World} (h : Only1 b w W) (o : Obj) : Only1 b w (W.alloc o) := h.trans (Only1.of ((Below.refl _ _).alloc (Nat.le_refl _) o))
end Go.Proofs.Ythdcffbifgifeaa
