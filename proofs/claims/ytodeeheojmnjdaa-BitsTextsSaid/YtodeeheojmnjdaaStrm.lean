/- allotmentref03.Same, allotmentref01.Around, bits.New, the example, and a []bool among the arguments. -/
import Derived.Test.YtodeeheojmnjdaaBits
import Derived.Deep.Grids
import Derived.OpenShut
namespace Go.Proofs.Ytodeeheojmnjdaa
open Go.RowKit
set_option linter.unusedVariables false

theorem around_any (a m : Int) (w : World) (hm : 0 < m) (hm' : m ≤ 9223372036854775807) (ha : -9223372036854775808 ≤ a) (ha' : a ≤ 9223372036854775807) :
    Calls Try.prog 10 #[.int .i64 a, .int .i64 m] w fun e w' => e = .returned (.int .i64 (ar a m)) ∧ w = w' := by
  have hm0 : (m == 0) = false := by simp; omega
  by_cases h : a < 0
  · have E : ar a m = (-(a + 1)) % m := by unfold ar; rw [if_pos h]
    rw [E]
    clear E
    have h1 : wrap64 (a + 1) = a + 1 := by unfold wrap64; omega
    have h2 : wrap64 (-(a + 1)) = -(a + 1) := by unfold wrap64; omega
    have h3 : Int.tmod (-(a + 1)) m = (-(a + 1)) % m := Int.tmod_eq_emod_of_nonneg (by omega)
    go_enter Try.func10, Try.ntmps10
    go_wp2
    go_ret
    exact ⟨by simp, rfl⟩
  · have E : ar a m = a % m := by unfold ar; rw [if_neg h]
    rw [E]
    clear E
    go_enter Try.func10, Try.ntmps10
    go_wp2
    go_ret
    exact ⟨by simp, rfl⟩
theorem around_some (a m : Int) (hm : 0 < m) (hm' : m ≤ 9223372036854775807) (ha : (Lit.int .i64 a).wf = true) :
    ∃ y, 0 ≤ y ∧ y < m ∧ ∀ w, Calls Try.prog 10 #[.int .i64 a, .int .i64 m] w fun e w' => e = .returned (.int .i64 y) ∧ w = w' :=
  ⟨ar a m, ar_lo a m hm, ar_hi a m hm, fun w => around_any a m w hm hm' (wf64 ha).1 (wf64 ha).2⟩

theorem same_any (v1 v2 : Value) (L : List Bool) (B1 B2 : Nat) (w : World) (h1 : BB w B1 v1 L) (h2 : BB w B2 v2 L) :
    Calls Try.prog 16 #[v1, v2] w fun e w' => e = .returned (.bool true) ∧ Below w.heap.size w w' := by
  obtain ⟨A1, c1, rfl, hlc1, hm1⟩ := h1.shape
  obtain ⟨A2, c2, rfl, hlc2, hm2⟩ := h2.shape
  have hmi : (L.length : Int) ≤ 9223372036854775807 := by omega
  go_enter Try.func16, Try.ntmps16
  go_wp2
  go_loopw [5] (fun c wr => ∃ k : Nat, k ≤ L.length ∧ c = .int .i64 k ∧ Below w.heap.size w wr) (fun c _ => L.length - (intOf c).toNat)
  case atStart => exact ⟨0, by omega, rfl, Below.refl _ _⟩
  case round =>
    obtain ⟨k, hk, rfl, hbel⟩ := hrel
    have HBE := Lib.hid hbel
    by_cases hlt : k < L.length
    · have hki : (k : Int) < (L.length : Int) := by omega
      obtain ⟨b1, o1, rfl, _, g1⟩ := h1.at (by omega)
      obtain ⟨b2, o2, rfl, _, g2⟩ := h2.at (by omega)
      have d1 := cell_below hbel (g1 k hlt)
      have d2 := cell_below hbel (g2 k hlt)
      clear h1 h2 g1 g2 hbel
      generalize L.getD k false = x at *
      go_upto_region 6 with (fail)
      go_quiet (fail)
      go_wp2
      go_roundw
      case rel => exact ⟨k + 1, by omega, by go_num, below_drewN HBE.out _⟩
      case measure => simp [intOf]; omega
    · have e : k = L.length := by omega
      subst e
      clear h1 h2 hbel
      go_wp2
      go_ret
      exact ⟨rfl, HBE.out⟩

section
open Go.ChangeShapes Go.WideShapes
theorem addr_plain {w : World} {a : Addr} {k : Nat} {v : Value} (h : w.cell? (a.add 0) = some v) : a.add k = ⟨a.block, a.off + k, none⟩ := by
  have h0 : a.spot = none := by
    have e : a.add 0 = a := by simp [Addr.add]
    rw [e] at h
    unfold World.cell? at h
    split at h
    · split at h
      · cases h
      · rename_i hs; simpa using hs
    · cases h
  obtain ⟨b, o, s⟩ := a
  dsimp only at h0
  subst h0
  unfold Addr.add
  split
  · rename_i e; subst e; rfl
  · rfl
theorem open_bools' {H : Type} {enc : TypeId × Value → H} {W : World} {r : Reach} {b0 base : Nat} {v : Value} {d : DataW H} {p : List MemPlace} (hv : Value.okWide Try.prog W r b0 22 v) (h : DataW.Trod enc Try.prog W base (fun _ => true) true 22 v d p) :
    ∃ l, BB W 0 v l := by
  obtain ⟨a, len, cap, rfl⟩ := okWide_slice Try.underlying22 hv
  obtain ⟨fuel, hf⟩ := h
  rcases Go.Deep.open_bools Try.underlying22 Try.underlying4 (by kernel_rfl) hf with ⟨hcs, _⟩ | ⟨x, l, c, Bf, hcs, _, hl, hm, _, hcell⟩
  · simp [Value.cells] at hcs
    obtain ⟨rfl, rfl, rfl⟩ := hcs
    exact ⟨[], BB.nil _ _⟩
  · simp [Value.cells] at hcs
    obtain ⟨rfl, rfl, rfl⟩ := hcs
    have hml := hm
    simp only [maxLen] at hml
    refine ⟨(List.range len).map Bf, some x, cap, by simp, by simp; omega, by omega, ?_, ?_⟩
    · intro hc0
      have h0 := addr_plain (k := 0) (hcell 0 hc0)
      refine ⟨x.block, x.off, ?_, Nat.zero_le _⟩
      have : x.add 0 = x := by simp [Addr.add]
      rw [← this, h0]
    · intro b o hb j hj
      injection hb with hb
      simp at hj
      have := hcell j (by omega)
      rw [addr_plain (hcell 0 (by omega)), hb] at this
      rw [this]
      simp [List.getD_eq_getElem?_getD, hj]
end

theorem new_any (M : List Bool) (bv : Value) (w : World) (HM : BB w 0 bv M) (hlm : M.length ≤ 1000) :
    Calls Try.prog 8 #[bv] w fun e w' => ∃ b, w.heap.size ≤ b ∧ e = .returned (.pointer (some ⟨b, 0, none⟩)) ∧ SAt w' b M 0 ∧ Below w.heap.size w w' := by
  have HA := Lib.hid (add_any w.heap.size 0 [] M bv (w.alloc (.cells #[.slice none 0 0, .int .i64 0] 50)) ⟨⟨_, heap_alloc_new w _, BB.nil _ _⟩, by simp, by simp⟩ (HM.below ((Below.refl _ _).alloc (Nat.le_refl _) _)) (by simpa using hlm))
  obtain ⟨A, c, rfl, _⟩ := HM.shape
  clear HM
  go_enter Try.func8, Try.ntmps8
  go_wp2_with fail
  refine HA.out.mono ?_
  rintro e w1 ⟨rfl, hs, ho⟩
  have HS := Lib.hid hs
  have HO := Lib.hid (((Below.refl w.heap.size w).alloc (Nat.le_refl _) (.cells #[.slice none 0 0, .int .i64 0] 50)).trans (ho.below (Nat.le_refl _) (by simp)))
  clear hs ho HA
  go_wp2
  go_ret
  exact ⟨w.heap.size, Nat.le_refl _, rfl, by simpa using HS.out, HO.out⟩

theorem lives_any (w : World) : Calls Try.prog 18 #[] w fun e w' => e = .returned (.bool true) ∧ Below w.heap.size w w' := by
  have hb0 : Below w.heap.size w (w.alloc (.cells #[.bool true, .bool false] 4)) := (Below.refl _ _).alloc (Nat.le_refl _) _
  have HB0 := Lib.hid hb0
  have HN := Lib.hid (new_any [true, false] (.slice (some ⟨w.heap.size, 0, none⟩) 2 2) (w.alloc (.cells #[.bool true, .bool false] 4)) (own_BB (own_whole (base := 0) (xs := [true, false]) (heap_alloc_new w _) (Nat.zero_le _) (by decide))) (by simp))
  clear hb0
  go_enter Try.func18, Try.ntmps18
  go_wp2_with fail
  refine HN.out.mono ?_
  rintro e w1 ⟨b, hbl, rfl, hs1, hb1⟩
  have hbl : w.heap.size ≤ b := by simp at hbl; omega
  have HB1 := Lib.hid (HB0.out.trans (hb1.mono (by simp)))
  have H1 := Lib.hid (next_some _ 0 _ w1 hs1 (by simp))
  clear hs1 hb1 HN HB0
  go_wp2_with fail
  refine H1.out.mono ?_
  rintro e w2 ⟨rfl, hs2, ho2⟩
  have HB2 := Lib.hid (HB1.out.trans (ho2.below hbl HB1.out.size))
  have H2 := Lib.hid (next_some _ 1 _ w2 hs2 (by simp))
  clear hs2 ho2 H1
  go_wp2_with fail
  refine H2.out.mono ?_
  rintro e w3 ⟨rfl, hs3, ho3⟩
  have HB3 := Lib.hid (HB2.out.trans (ho3.below hbl HB2.out.size))
  have H3 := Lib.hid (next_none _ _ w3 hs3)
  have HS3 := Lib.hid hs3
  clear hs3 ho3 H2
  go_wp2_with fail
  refine H3.out.mono ?_
  rintro e w4 ⟨rfl, k, rfl⟩
  have HA := Lib.hid (at_any _ _ _ _ (HS3.out.below (below_drewN (Below.refl _ _) k)))
  go_wp2_with fail
  refine HA.out.mono ?_
  rintro e w5 ⟨rfl, rfl⟩
  go_wp2
  go_ret
  exact ⟨rfl, below_drewN HB3.out k⟩
end Go.Proofs.Ytodeeheojmnjdaa
