/- fifo.Queue[int]: All; the example; the walk of FifoFull. -/
import Derived.Test.YtjhecdmgblicoaaQ
namespace Go.Proofs.Ytjhecdmgblicoaa
open Go.RowKit
set_option linter.unusedVariables false

theorem QAt.keep {W W' : World} {b r m a : Nat} {L : List Int} (H : QAt W b r m a L) (h1 : W'.heap[b]? = W.heap[b]?) (h2 : W'.heap[r]? = W.heap[r]?) : QAt W' b r m a L :=
  ⟨H.ne, H.m0, H.m1, H.al, H.ll, h1.trans H.hb, by obtain ⟨cs, g1, g2⟩ := H.hr; exact ⟨cs, h2.trans g1, g2⟩⟩
theorem QAt.blt {W : World} {b r m a : Nat} {L : List Int} (H : QAt W b r m a L) : b < W.heap.size := by
  have := H.hb
  rcases Nat.lt_or_ge b W.heap.size with h | h
  · exact h
  · rw [Array.getElem?_eq_none h] at this; cases this
theorem QAt.rlt {W : World} {b r m a : Nat} {L : List Int} (H : QAt W b r m a L) : r < W.heap.size := by
  obtain ⟨cs, this, _⟩ := H.hr
  rcases Nat.lt_or_ge r W.heap.size with h | h
  · exact h
  · rw [Array.getElem?_eq_none h] at this; cases this
theorem QAt.below {W W' : World} {b r m a : Nat} {L : List Int} (H : QAt W b r m a L) (h : Below W.heap.size W W') : QAt W' b r m a L :=
  H.keep (h.block b H.blt) (h.block r H.rlt)
theorem QAt.drewN {W : World} {b r m a : Nat} {L : List Int} (H : QAt W b r m a L) (k : Nat) : QAt (W.drewN k) b r m a L := H.keep rfl rfl

theorem around_any (a m : Int) (w : World) (hm : 0 < m) (hm' : m ≤ 9223372036854775807) (ha : -9223372036854775808 ≤ a) (ha' : a ≤ 9223372036854775807) :
    Calls Try.prog 9 #[.int .i64 a, .int .i64 m] w fun e w' => e = .returned (.int .i64 (ar a m)) ∧ w = w' := by
  have hm0 : (m == 0) = false := by simp; omega
  by_cases h : a < 0
  · have E : ar a m = (-(a + 1)) % m := by unfold ar; rw [if_pos h]
    rw [E]
    clear E
    have h1 : wrap64 (a + 1) = a + 1 := by unfold wrap64; omega
    have h2 : wrap64 (-(a + 1)) = -(a + 1) := by unfold wrap64; omega
    have h3 : Int.tmod (-(a + 1)) m = (-(a + 1)) % m := Int.tmod_eq_emod_of_nonneg (by omega)
    go_enter Try.func9, Try.ntmps9
    go_wp2
    go_ret
    exact ⟨by simp, rfl⟩
  · have E : ar a m = a % m := by unfold ar; rw [if_neg h]
    rw [E]
    clear E
    go_enter Try.func9, Try.ntmps9
    go_wp2
    go_ret
    exact ⟨by simp, rfl⟩
theorem around_some (a m : Int) (hm : 0 < m) (hm' : m ≤ 9223372036854775807) (ha : (Lit.int .i64 a).wf = true) :
    ∃ y, 0 ≤ y ∧ y < m ∧ ∀ w, Calls Try.prog 9 #[.int .i64 a, .int .i64 m] w fun e w' => e = .returned (.int .i64 y) ∧ w = w' :=
  ⟨ar a m, ar_lo a m hm, ar_hi a m hm, fun w => around_any a m w hm hm' (wf64 ha).1 (wf64 ha).2⟩

theorem lives_any (w : World) : Calls Try.prog 11 #[] w fun e w' => e = .returned (.bool true) ∧ Below w.heap.size w w' := by
  go_enter Try.func11, Try.ntmps11
  go_wp2_with fail
  refine (newi_good 2 _ (by omega) (by omega)).mono ?_
  rintro e w1 ⟨rfl, hq1, hb1⟩
  have HB1 := Lib.hid hb1
  have H1 := Lib.hid (put_more _ _ _ _ _ 1 w1 hq1 (by decide))
  clear hq1 hb1
  go_wp2_with fail
  refine H1.out.mono ?_
  rintro e w2 ⟨rfl, hq2, ho2⟩
  have HB2 := Lib.hid (ho2.below (B := w.heap.size) (by omega) (by omega))
  have H2 := Lib.hid (put_more _ _ _ _ _ 2 w2 hq2 (by decide))
  clear hq2 ho2
  go_wp2_with fail
  refine H2.out.mono ?_
  rintro e w3 ⟨rfl, hq3, ho3⟩
  have HB3 := Lib.hid (ho3.below (B := w.heap.size) (by omega) (by omega))
  have H3 := Lib.hid (put_full _ _ _ _ _ 3 w3 hq3 (by decide))
  have HQ3 := Lib.hid hq3
  clear hq3 ho3
  go_wp2_with fail
  refine H3.out.mono ?_
  rintro e w4 ⟨rfl, k, rfl⟩
  have H4 := Lib.hid (take_some _ _ _ _ 1 [2] _ (HQ3.out.drewN k))
  go_wp2_with fail
  refine H4.out.mono ?_
  rintro e w5 ⟨rfl, hq5, ho5⟩
  have HB5 := Lib.hid (ho5.below (B := w.heap.size) (by omega) (by omega))
  clear hq5 ho5
  go_wp2
  go_ret
  exact ⟨rfl, ((HB1.out.trans HB2.out).trans (below_drewN HB3.out k)).trans HB5.out⟩

end Go.Proofs.Ytjhecdmgblicoaa
