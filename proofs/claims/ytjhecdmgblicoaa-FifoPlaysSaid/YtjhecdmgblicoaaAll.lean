/- fifo.Queue[int].All, allotmentref01.SameInts, and a []int among the arguments. -/
import Derived.Test.YtjhecdmgblicoaaF
import Derived.ChangeSlices
import Derived.ChangeShapes
import Derived.OpenShut
import Derived.Lib.SmallJoins
import Derived.Deep.AppendLies
namespace Go.Proofs.Ytjhecdmgblicoaa
open Go.RowKit
set_option linter.unusedVariables false

theorem info3' : (Try.prog.info? 3).map (fun i => (i.zero, i.size, i.bytes)) = some (some (.int .i64 0), 1, 8) := by kernel_rfl

set_option maxHeartbeats 4000000 in
theorem all_any (b r m a : Nat) (L : List Int) (w : World) (H : QAt w b r m a L) :
    Calls Try.prog 19 #[.pointer (some ⟨b, 0, none⟩)] w fun e w' => ∃ v, e = .returned v ∧ w'.ownsRow w.heap.size 3 1 v L.length (ints L) ∧ Below w.heap.size w w' := by
  have c2 := cell_of_row w b 2 _ _ _ H.hb
  have m1 := H.m1
  have ll := H.ll
  have al := H.al
  have m0 := H.m0
  simp at c2
  have HH := Lib.hid H
  have hll : (L.length : Int) ≤ 1000 := by omega
  clear H
  go_enter Try.func19, Try.ntmps19
  go_wp2
  go_loopw [3, 9] (fun v c wr => ∃ k : Nat, k ≤ L.length ∧ c = .int .i64 k ∧ wr.ownsRow w.heap.size 3 1 v k (ints (L.take k)) ∧ Below w.heap.size w wr) (fun _ c _ => L.length - (intOf c).toNat)
  case atStart => exact ⟨0, by omega, rfl, by simpa [ints] using own_nil _ _ _ _, Below.refl _ _⟩
  case round =>
    obtain ⟨k, hk, rfl, hown, hbel⟩ := hrel
    have hsz := hbel.size
    have HBE := Lib.hid hbel
    have HOW := Lib.hid hown
    by_cases hlt : k < L.length
    · have hki : (k : Int) < (L.length : Int) := by omega
      have hq := HH.out.below hbel
      obtain ⟨cs, hr, hs, hL, hi⟩ := hq.hr
      have d0 := cell_of_row wr b 0 _ _ _ hq.hb
      have d1 := cell_of_row wr b 1 _ _ _ hq.hb
      have pm : (a + k) % m < m := Nat.mod_lt _ (by omega)
      have dr := cell_of_row wr r ((a + k) % m) _ _ _ hr
      rw [hL k hlt] at dr
      have hrem : Int.tmod ((a : Int) + k) m = (((a + k) % m : Nat) : Int) := by
        rw [Int.tmod_eq_emod_of_nonneg (by omega)]
        simp
      have hrem' : ((a : Int) + k) % m = (((a + k) % m : Nat) : Int) := by simp
      have hm0 : ((m : Int) == 0) = false := by simp; omega
      have hm1 : ¬ (m : Int) = 0 := by omega
      have hmn : ¬ m = 0 := by omega
      have hal : (a : Int) < m := by omega
      have hm2 : (m : Int) ≤ 1000 := by omega
      have hs0 : (0 : Int) ≤ (a : Int) + k := by omega
      have hw : IntKind.i64.wrap ((a : Int) + k) = (a : Int) + k := by rw [IntKind.wrap_i64]; omega
      generalize hp : (a + k) % m = p at *
      have hp0 : (0 : Int) ≤ (p : Int) := by omega
      have hp1 : (p : Int) < (m : Int) := by omega
      have hp2 : IntKind.i64.wrap (p : Int) = p := by rw [IntKind.wrap_i64]; omega
      have hp3 : p ≤ m := by omega
      simp at d0 d1
      have htk : ints (L.take (k + 1)) = ints (L.take k) ++ [.int .i64 (L.getD k 0)] := by
        rw [List.take_add_one, ints_append]
        simp [ints, List.getElem?_eq_getElem hlt, List.getD_eq_getElem?_getD]
      have HTK := Lib.hid htk
      obtain ⟨A, cp, rfl⟩ := own_slice hown
      clear hbel hown hL hi hq hr htk hp
      generalize L.getD k 0 = x at *
      obtain ⟨i3, hi3, hzz⟩ := Option.map_eq_some_iff.1 info3'
      simp only [Prod.mk.injEq] at hzz
      obtain ⟨hz0, hz1, hz2⟩ := hzz
      have hsb : (k + 1) * 8 ≤ 140737488355328 := by omega
      go_upto_region 5 with (fail)
      go_region_law (refine step_append_lies _ (by rfl) _ _ 23 rfl w.heap.size 3 i3 (.int .i64 0) 1 8 Try.underlying23 hi3 hz0 hz1 hz2 rfl (by decide) _ k (ints (L.take k)) rfl (own_below HOW.out (by (repeat (first | exact Below.refl _ _ | refine Below.alloc ?_ (by first | omega | (simp; omega) | simp) _ | apply below_drew)))) ⟨wr.heap.size, 0, none⟩ 1 1 [.int .i64 x] rfl rfl (by intro j u hj; rcases j with _ | j <;> simp at hj; subst hj; go_simp) (one_int _) (by omega) (by simp only [maxLen]; omega) hsb (by first | omega | (simp; omega)) _ rfl ?_; intro g cap w' hown1 hgr hge hglt)
      all_goals
        go_wp2
        go_roundw
        case rel => exact ⟨k + 1, by omega, by go_num, by rw [HTK.out]; exact hown1, (below_drew (HBE.out.alloc hsz _)).grown hgr (by show w.heap.size ≤ _; simp; omega) (own_base HOW.out)⟩
        case measure => simp [intOf]; omega
    · have e : k = L.length := by omega
      subst e
      clear hbel hown
      go_wp2
      go_ret
      refine ⟨_, rfl, ?_, HBE.out⟩
      have := HOW.out
      rw [List.take_length] at this
      exact this

theorem same_any (v1 v2 : Value) (L : List Int) (w : World) (h1 : IntsAt w v1 L) (h2 : IntsAt w v2 L) :
    Calls Try.prog 20 #[v1, v2] w fun e w' => e = .returned (.bool true) ∧ Below w.heap.size w w' := by
  obtain ⟨A1, c1, rfl, hm, hc1⟩ := h1
  obtain ⟨A2, c2, rfl, _, hc2⟩ := h2
  have hmi : (L.length : Int) ≤ 9223372036854775807 := by omega
  go_enter Try.func20, Try.ntmps20
  go_wp2
  go_loopw [5] (fun c wr => ∃ k : Nat, k ≤ L.length ∧ c = .int .i64 k ∧ Below w.heap.size w wr) (fun c _ => L.length - (intOf c).toNat)
  case atStart => exact ⟨0, by omega, rfl, Below.refl _ _⟩
  case round =>
    obtain ⟨k, hk, rfl, hbel⟩ := hrel
    have HBE := Lib.hid hbel
    by_cases hlt : k < L.length
    · have hki : (k : Int) < (L.length : Int) := by omega
      obtain ⟨b1, o1, rfl, g1⟩ := hc1 (by omega)
      obtain ⟨b2, o2, rfl, g2⟩ := hc2 (by omega)
      have d1 := cell_below hbel (g1 k hlt)
      have d2 := cell_below hbel (g2 k hlt)
      clear hc1 hc2 g1 g2 hbel
      generalize L.getD k 0 = x at *
      go_upto_region 6 with (fail)
      go_quiet (fail)
      go_wp2
      go_roundw
      case rel => exact ⟨k + 1, by omega, by go_num, below_drewN HBE.out _⟩
      case measure => simp [intOf]; omega
    · have e : k = L.length := by omega
      subst e
      clear hc1 hc2 hbel
      go_wp2
      go_ret
      exact ⟨rfl, HBE.out⟩

/-- A []int among the arguments. -/
def InInts (W : World) (v : Value) (l : List Int) : Prop :=
  (∃ A c, v = .slice A l.length c ∧ l.length ≤ c ∧ c ≤ 9223372036854775807 ∧ (0 < c → ∃ b o, A = some ⟨b, o, none⟩) ∧ ∀ b o, A = some ⟨b, o, none⟩ → ∀ j, j < l.length → W.cell? ⟨b, o + j, none⟩ = some (.int .i64 (l.getD j 0))) ∧ ∀ x ∈ l, (Lit.int .i64 x).wf = true

section
open Go.ChangeShapes Go.WideShapes
theorem addr_plain {w : World} {a : Addr} {k : Nat} {v : Value} (h : w.cell? (a.add 0) = some v) : a.add k = ⟨a.block, a.off + k, none⟩ := by
  have h0 : a.spot = none := by
    have e : a.add 0 = a := by simp [Addr.add]
    rw [e] at h
    unfold World.cell? at h
    split at h
    · split at h
      · cases h
      · rename_i hs; simpa using hs
    · cases h
  obtain ⟨b, o, s⟩ := a
  dsimp only at h0
  subst h0
  unfold Addr.add
  split
  · rename_i e; subst e; rfl
  · rfl
theorem open_ints' {H : Type} {enc : TypeId × Value → H} {W : World} {r : Reach} {b0 base : Nat} {v : Value} {d : DataW H} {p : List MemPlace} (hv : Value.okWide Try.prog W r b0 23 v) (h : DataW.Trod enc Try.prog W base (fun _ => true) true 23 v d p) :
    ∃ l, InInts W v l := by
  obtain ⟨a, len, cap, rfl⟩ := okWide_slice Try.underlying23 hv
  obtain ⟨fuel, hf⟩ := h
  rcases Go.ChangeShapes.open_ints Try.underlying23 Try.underlying3 (by kernel_rfl) hf with ⟨hcs, _⟩ | ⟨x, l, c, zs, hcs, _, hl, hm, hz, _, hcell, hwz⟩
  · simp [Value.cells] at hcs
    obtain ⟨rfl, rfl, rfl⟩ := hcs
    exact ⟨[], ⟨none, 0, rfl, by simp, by simp, by simp, by simp⟩, by simp⟩
  · simp [Value.cells] at hcs
    obtain ⟨rfl, rfl, rfl⟩ := hcs
    simp at hz
    obtain rfl : cap = zs.length := hz.symm
    have hlt : (zs.take len).length = len := by simp; omega
    have hml := hm
    simp only [maxLen] at hml
    refine ⟨zs.take len, ⟨some x, zs.length, by rw [hlt], by omega, by omega, ?_, ?_⟩, fun y hy => hwz y (List.mem_of_mem_take hy)⟩
    · intro hc0
      have h0 := addr_plain (k := 0) (hcell 0 hc0)
      refine ⟨x.block, x.off, ?_⟩
      have : x.add 0 = x := by simp [Addr.add]
      rw [← this, h0]
    · intro b o hb j hj
      injection hb with hb
      rw [hlt] at hj
      have := hcell j (by omega)
      rw [addr_plain (hcell 0 (by omega)), hb] at this
      rw [this]
      simp [List.getD_eq_getElem?_getD, hj]
end

end Go.Proofs.Ytjhecdmgblicoaa
