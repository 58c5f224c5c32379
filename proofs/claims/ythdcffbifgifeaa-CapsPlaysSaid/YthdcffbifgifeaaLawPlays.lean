/- The walk of CapsPlays. -/
import Derived.Test.YthdcffbifgifeaaPlaysO
namespace Go.Proofs.Ythdcffbifgifeaa
open Go.RowKit Go.Proofs.Ythdcffbifgifeaa.PCapsPlays Go.Proofs.Ythdcffbifgifeaa.Plays Go.Proofs.YthdcffbifgifeaaW.PrintWords
set_option linter.unusedVariables false
set_option linter.unusedSimpArgs false

/-- The round's state. -/
def RSt (w W : World) (b rb E i : Nat) (va : Value) : Prop := ∃ (G : Nat) (f : Nat → Slot) (al : List (Int × Int)), PS w W b rb E G f G f va al ∧ Good f ∧ 0 < al.length ∧ al.length ≤ i + 1 ∧ G ≤ i + 1

theorem RS.shape {W : World} {B : Nat} {v : Value} {f : Nat → Slot} (h : RS W B v f) : ∃ A n c, v = .slice A n c := by
  obtain ⟨A, c, rfl, _⟩ := h.reads
  exact ⟨_, _, _, rfl⟩
theorem st0_good (E : Nat) : Good (st0 E) := by
  intro i
  unfold st0 upd emp
  split
  · exact ⟨show (0 : Int) ≤ 15 by omega, show (15 : Int) < 16 by omega⟩
  · exact ⟨show (0 : Int) ≤ 0 by omega, show (0 : Int) < 16 by omega⟩
/-- The beginning. -/
theorem ps_start {w w1 w2 w4 : World} {b E : Nat} {v0 : Value} {g : Nat} (ht : TAt w1 b E 1 (upd emp 0 (true, (E : Int) * 1048576, 15))) (hbw : w.heap.size ≤ b) (hb : Below w.heap.size w w1) (hr : RS w2 w1.heap.size v0 (st0 E)) (hb2 : Below w1.heap.size w1 w2)
    (hb4 : Below (w2.alloc (.cells #[.int .i64 E, .int .i64 ((1 : Nat) : Int), v0] 49)).heap.size (w2.alloc (.cells #[.int .i64 E, .int .i64 ((1 : Nat) : Int), v0] 49)) w4) :
    RSt w (w4.alloc (.cells #[.int .i64 0, .int .i64 (E * 1048576)] 28)) b w2.heap.size E 0 (.slice (some ⟨w4.heap.size, 0, none⟩) 1 1) := by
  have hbl := ht.blt
  have hs2 := hb2.size
  have hs4 := hb4.size
  simp at hs4
  have hs1 := hb.size
  have hba : Below w2.heap.size w2 (w2.alloc (.cells #[.int .i64 E, .int .i64 ((1 : Nat) : Int), v0] 49)) := (Below.refl _ _).alloc (Nat.le_refl _) _
  have hbc : Below w4.heap.size w4 (w4.alloc (.cells #[.int .i64 0, .int .i64 (E * 1048576)] 28)) := (Below.refl _ _).alloc (Nat.le_refl _) _
  have hall : Below w2.heap.size w2 (w4.alloc (.cells #[.int .i64 0, .int .i64 (E * 1048576)] 28)) := (hba.trans (hb4.mono (by simp))).trans (hbc.mono (by omega))
  refine ⟨1, st0 E, [(0, (E : Int) * 1048576)], ⟨(ht.below hb2).below hall, ⟨v0, ?_, (RS.below (Kd.R_lower hr (by omega)) hall), ?_⟩, ?_, (hb.trans (hb2.mono (by omega))).trans (hall.mono (by omega)), hbw, by omega⟩, st0_good E, by simp, by simp, by omega⟩
  · have h1 := heap_alloc_new w2 (.cells #[.int .i64 E, .int .i64 ((1 : Nat) : Int), v0] 49)
    have h2 := (hb4.block w2.heap.size (by simp)).trans h1
    exact (hbc.block w2.heap.size (by omega)).trans h2
  · intro k hk
    have := hr.lt hk
    refine ⟨by omega, by omega, ?_⟩
    simp [Value.ownBlock]
    omega
  · refine ⟨by simp [capv], .inr ⟨w4.heap.size, 1, #[.int .i64 0, .int .i64 (E * 1048576)], rfl, by omega, heap_alloc_new w4 _, Nat.le_refl _, by simp [maxLen], by simp, by simp [capv]⟩⟩

theorem kept_below {W W1 W2 : World} {S : Nat → Prop} (h : Kept W W1 S) (hb : Below W1.heap.size W1 W2) : Kept W W2 S :=
  ⟨Nat.le_trans h.1 hb.size, fun i hi hn => (hb.block i (Nat.lt_of_lt_of_le hi h.1)).trans (h.2 i hi hn)⟩
theorem revoke_both {w W : World} {b rb E G : Nat} {f f' : Nat → Slot} {va : Value} {al : List (Int × Int)} {s g s2 g2 : Int} (h : PS w W b rb E G f G f' va al)
    (hc : (rvcode f s g s2 g2 ≠ 0 ∧ f' = f) ∨ (rvcode f s g s2 g2 = 0 ∧ ∃ i : Nat, i < 8 ∧ s2 = i ∧ f' = upd f i (false, 0, 0))) :
    Calls Try.prog 19 #[.pointer (some ⟨b, 0, none⟩), .agg #[.int .i64 s, .int .i64 g], .agg #[.int .i64 s2, .int .i64 g2]] W fun e w' => e = .returned (.int .i64 (rvcode f s g s2 g2)) ∧ PS w w' b rb E G f' G f' va al := by
  refine (revoke_any b E G f s g s2 g2 W h.t).mono ?_
  rintro e w' (⟨h1, rfl, h2⟩ | ⟨h1, i, hi, hs, _, _, rfl, h2, h3⟩)
  · rcases hc with ⟨_, rfl⟩ | ⟨h4, _⟩
    · exact ⟨rfl, h.below h2⟩
    · exact absurd h4 h1
  · rcases hc with ⟨h4, _⟩ | ⟨_, j, hj, hs', rfl⟩
    · exact absurd h1 h4
    · obtain rfl : i = j := by omega
      rw [h1]
      exact ⟨rfl, h.only h2 h3⟩
theorem mint_both {w W : World} {b rb E G G' : Nat} {f f' : Nat → Slot} {va : Value} {al : List (Int × Int)} {s g r x y : Int} (h : PS w W b rb E G f G' f' va al)
    (hc : (mcode f G s g r ≠ 0 ∧ G' = G ∧ f' = f ∧ x = 0 ∧ y = 0) ∨ (mcode f G s g r = 0 ∧ ∃ i : Nat, i < 8 ∧ fre f 8 0 = i ∧ G < 1048576 ∧ 0 ≤ r ∧ r < 16 ∧ G' = G + 1 ∧ f' = upd f i (true, E * 1048576 + G, r) ∧ x = i ∧ y = E * 1048576 + G)) :
    Calls Try.prog 12 #[.pointer (some ⟨b, 0, none⟩), .agg #[.int .i64 s, .int .i64 g], .int .i64 r] W fun e w' => e = .returned (.tuple #[.agg #[.int .i64 x, .int .i64 y], .int .i64 (mcode f G s g r)]) ∧ PS w w' b rb E G' f' G' f' va al ∧ W.heap.size ≤ w'.heap.size ∧ ∀ i, i < W.heap.size → i ≠ b → w'.heap[i]? = W.heap[i]? := by
  refine (mint_any b E G f s g r W h.t).mono ?_
  rintro e w' (⟨h1, rfl, h2⟩ | ⟨h1, i, hi, hs, _, _, rfl, h2, h3⟩)
  · rcases hc with ⟨_, rfl, rfl, rfl, rfl⟩ | ⟨h4, _⟩
    · exact ⟨rfl, h.below h2, h2.size, fun i hi _ => h2.block i hi⟩
    · exact absurd h4 h1
  · rcases hc with ⟨h4, _⟩ | ⟨_, j, hj, hs', _, _, _, rfl, rfl, rfl, rfl⟩
    · exact absurd h1 h4
    · obtain rfl : i = j := by omega
      rw [h1]
      exact ⟨rfl, h.only h2 h3, h3.size, h3.far⟩
theorem good_mint {f f' : Nat → Slot} {mc : Int} {G G' E : Nat} {r x y : Int} (hf : Good f) (hc : (mc ≠ 0 ∧ G' = G ∧ f' = f ∧ x = 0 ∧ y = 0) ∨ (mc = 0 ∧ ∃ i : Nat, i < 8 ∧ fre f 8 0 = i ∧ G < 1048576 ∧ 0 ≤ r ∧ r < 16 ∧ G' = G + 1 ∧ f' = upd f i (true, E * 1048576 + G, r) ∧ x = i ∧ y = E * 1048576 + G)) : Good f' ∧ G' ≤ G + 1 := by
  rcases hc with ⟨_, rfl, rfl, _⟩ | ⟨_, i, _, _, _, h0, h1, rfl, rfl, _⟩
  · exact ⟨hf, by omega⟩
  · exact ⟨hf.upd i h0 h1, by omega⟩
theorem all_any' {W : World} {b E G : Nat} {f : Nat → Slot} (h : TAt W b E G f) : Calls Try.prog 27 #[.pointer (some ⟨b, 0, none⟩)] W fun e w' => ∃ A c, e = .returned (.slice A (live f 8).length c) ∧ (live f 8).length ≤ c ∧ Kd.C k28 w' A (live f 8).length ((live f 8).map s28) ∧ Below W.heap.size W w' := by
  refine (all_any b E G f W h).mono ?_
  rintro e w' ⟨v, rfl, ho, hb⟩
  obtain ⟨A, c, rfl, hc, hC⟩ := own_C28 ho (by have := live_len f 8; omega)
  rw [List.length_map] at hc hC ⊢
  exact ⟨A, c, rfl, hc, hC, hb⟩
theorem RL_live (f : Nat → Slot) : (RL f).length = (live f 8).length := by unfold RL; rw [List.length_map]; exact lst_live_len f
theorem good_revoke {f f' : Nat → Slot} {rv : Int} {s2 : Int} (hf : Good f) (hc : (rv ≠ 0 ∧ f' = f) ∨ (rv = 0 ∧ ∃ i : Nat, i < 8 ∧ s2 = i ∧ f' = upd f i (false, 0, 0))) : Good f' := by
  rcases hc with ⟨_, rfl⟩ | ⟨_, i, _, _, rfl⟩
  · exact hf
  · exact hf.upd i (by omega) (by omega)
/-- The document's row in the block rb. -/
theorem PS.row {w W : World} {b rb E G G2 : Nat} {f f2 : Nat → Slot} {va : Value} {al : List (Int × Int)} (h : PS w W b rb E G f G2 f2 va al) :
    ∃ A n c, W.heap[rb]? = some (.cells #[.int .i64 E, .int .i64 G2, .slice A n c] 49 (0, 0)) ∧ RS W w.heap.size (.slice A n c) f2 ∧ (∀ k, Value.ownBlock (.slice A n c) = some k → k ≠ b ∧ k ≠ rb ∧ va.ownBlock ≠ some k) ∧ (∀ k, Value.ownBlock (.slice A n c) = some k → k < W.heap.size) := by
  obtain ⟨v, h1, h2, h3⟩ := h.r
  obtain ⟨A, n, c, rfl⟩ := h2.shape
  exact ⟨A, n, c, h1, h2, h3, fun k hk => (h2.lt hk).2⟩

section
variable {P : Program} {ops : Array Oper} {Q : Exit → Act → World → Prop} {md : Region.Mode} {S : World → Prop}
/-- An operation that is taken first, its slot by its number. -/
theorem take_at {i d : Nat} {oi : Oper} {v : Value} {fuel : Nat} {listed : Array Bool} {a : Act} {w : World} (hi : ops[i]? = some oi) (hd : oi.dst = some d)
    (hs : Region.noSelect ops = true) (hf : Region.free md ops listed i = true) (hr : (Region.ready md ops listed).contains i = true)
    (hQ : ∀ c a w, Q (.panic c) (a.put oi.dst v) w → Q (.panic c) a w) (hy : YieldsIf P ops S oi v a) (hS : S w)
    (h : wpAnyH P md ops Q S fuel (listed.setIfInBounds i true) { a with tmps := a.tmps.setIfInBounds d v } w) : wpAnyH P md ops Q S (fuel + 1) listed a w := by
  refine wpAnyH_take hi hs hf hr hQ hy hS ?_
  rw [hd]
  exact h
end
theorem RS.elem {W : World} {B n c : Nat} {A : Option Addr} {f : Nat → Slot} (h : RS W B (.slice A n c) f) {k : Nat} {x : Ent} (hx : (lst f)[k]? = some x) : ∃ gb, A = some ⟨gb, 0, none⟩ ∧ k < n ∧ W.cell? ⟨gb, k * 3 + 2, none⟩ = some (.int .i64 x.2.2) := by
  have hlt := (List.getElem?_eq_some_iff.1 hx).1
  have hlr : (RL f).length = (lst f).length := by unfold RL; rw [List.length_map]
  obtain ⟨A', c', he, hc, hC⟩ := h.reads
  injection he with e1 e2 e3
  subst e1 e2 e3
  obtain ⟨ad, e4, _, _, h2⟩ := at_T59 hC (k : Int) (by omega) (by omega)
  obtain ⟨_, inner, ho, _⟩ := h
  rcases ho.2 with ⟨h5, h6⟩ | ⟨gb, cap, cur, h5, _⟩
  · omega
  · injection h5 with h5 _ _
    rw [h5] at e4
    obtain rfl := Option.some.inj e4
    refine ⟨gb, h5, by omega, ?_⟩
    rw [add_plain, Int.toNat_natCast] at h2
    dsimp only at h2
    rw [h2]
    unfold RL
    rw [rd59 _ hlt]
    rw [List.getElem?_eq_getElem hlt] at hx
    rw [Option.some.inj hx]
    rfl

set_option maxRecDepth 100000 in
set_option maxHeartbeats 4000000 in
theorem law_plays (a : Int) (v : Value) (n : Nat) (w : World) (ha : (Lit.int .i64 a).wf = true) (H : InOps w v n) :
    Calls Try.prog 6 #[.int .i64 a, v] w fun e w' => e = .returned (.bool true) ∧ Below w.heap.size w w' := by
  obtain ⟨A, c, rfl, hn, hA⟩ := H
  obtain ⟨y, y0, y1, hAr⟩ := around_some a 9 (by omega) (by omega) ha
  obtain ⟨y, rfl⟩ := Int.eq_ofNat_of_zero_le y0
  have HAr := Lib.hid hAr
  have HA := Lib.hid hA
  have hni : (n : Int) ≤ 9223372036854775807 := by omega
  obtain ⟨E, hE⟩ : ∃ E : Nat, E = y + 1 := ⟨_, rfl⟩
  have hE1 : 1 ≤ E := by omega
  have hE9 : E ≤ 9 := by omega
  have hEi : (1 : Int) + (y : Int) = (E : Int) := by omega
  have HNW := Lib.hid (new_good E w hE1 (by omega))
  have HRN := Lib.hid (ref_new E (by omega))
  clear hAr hA hE
  go_enter Try.func6, Try.ntmps6
  go_wp2_with fail
  refine (HAr.out _).mono ?_
  rintro e w' ⟨rfl, rfl⟩
  have hw64 : wrap64 ((1 : Int) + (y : Int)) = (E : Int) := by unfold wrap64; omega
  go_wp2_with fail
  refine HNW.out.mono ?_
  rintro e w1 ⟨b, hbw, rfl, ht, hb⟩
  have HT := Lib.hid ht
  have HB := Lib.hid hb
  have hbl := ht.blt
  clear ht hb HNW
  go_wp2_with fail
  refine (HRN.out _).mono ?_
  rintro e w2 ⟨v0, rfl, hrs, hb2⟩
  obtain ⟨A0, l0, c0, rfl⟩ := hrs.shape
  have HRS := Lib.hid hrs
  have HB2 := Lib.hid hb2
  have hb2s : b < w2.heap.size := Nat.lt_of_lt_of_le hbl hb2.size
  have HT2 := Lib.hid (HT.out.below hb2)
  clear hrs hb2 HRN
  go_upto_region 6 with (fail)
  obtain ⟨w3, hw3⟩ : ∃ w3 : World, w3 = w2.alloc (.cells #[.int .i64 E, .int .i64 1, .slice A0 l0 c0] 49) := ⟨_, rfl⟩
  rw [← hw3]
  have HRT := Lib.hid (root_any b E 1 _ w3 (HT2.out.below (by rw [hw3]; exact (Below.refl _ _).alloc (Nat.le_refl _) _)))
  have HW3 := Lib.hid hw3
  clear hw3
  go_wp2_with fail
  refine HRT.out.mono ?_
  rintro e w4 ⟨rfl, hb4⟩
  rw [HW3.out] at hb4
  have HST := Lib.hid (ps_start (g := 0) HT.out hbw HB.out HRS.out HB2.out hb4)
  have hb4s : w2.heap.size < w4.heap.size := by have := hb4.size; simp at this; omega
  clear hb4 HRT HT HB HRS HB2 HT2 HW3
  go_upto_region 7 with (fail)
  obtain ⟨w5, hw5⟩ : ∃ w5 : World, w5 = w4.alloc (.cells #[.int .i64 0, .int .i64 (E * 1048576)] 28) := ⟨_, rfl⟩
  rw [← hw5] at HST ⊢
  obtain ⟨rb, hrb⟩ : ∃ rb, rb = w2.heap.size := ⟨_, rfl⟩
  rw [← hrb] at HST ⊢
  obtain ⟨pa, hpa⟩ : ∃ pa, pa = w4.heap.size := ⟨_, rfl⟩
  rw [← hpa] at HST ⊢
  clear hw5 hrb hpa
  go_wp2_with fail
  go_loopw [9, 10] (fun va ci wr => ∃ i : Nat, i ≤ 24 ∧ i ≤ n ∧ ci = .int .i64 i ∧ RSt w wr b rb E i va) (fun _ ci _ => 24 - (intOf ci).toNat)
  case atStart => exact ⟨0, by omega, by omega, rfl, HST.out⟩
  case round =>
    obtain ⟨i, hi, hin, rfl, G, f, al, hps, hgood, hal0, hal, hG⟩ := hrel
    clear HST
    have HPS := Lib.hid hps
    have HGD := Lib.hid hgood
    by_cases hlt : i < n ∧ i < 24
    · obtain ⟨hin, hi24⟩ := hlt
      have hii : (i : Int) < (n : Int) := by omega
      have hii24 : (i : Int) < 24 := by omega
      have hi0 : (0 : Int) ≤ (i : Int) := by omega
      obtain ⟨ab, ao, rfl, hx⟩ := HA.out (by omega)
      obtain ⟨⟨o0, o1, o2, o3, o4⟩, ⟨f0, f1, f2, f3, f4⟩, d0, d1, d2, d3, d4⟩ := hx i hin
      dsimp only at f0 f1 f2 f3 f4 d0 d1 d2 d3 d4
      replace d0 := cell_below hps.bel d0
      replace d1 := cell_below hps.bel d1
      replace d2 := cell_below hps.bel d2
      replace d3 := cell_below hps.bel d3
      replace d4 := cell_below hps.bel d4
      obtain ⟨d, dd0, dd1, hDo⟩ := around_some o0 5 (by omega) (by omega) f0
      have HDO := Lib.hid hDo
      obtain ⟨w2, hw2⟩ : ∃ w2 : World, w2 = wr.alloc (.cells #[.int .i64 o0, .int .i64 o1, .int .i64 o2, .int .i64 o3, .int .i64 o4] 52) := ⟨_, rfl⟩
      have hb2 : Below wr.heap.size wr w2 := by rw [hw2]; exact (Below.refl _ _).alloc (Nat.le_refl _) _
      have hn2 : w2.heap[wr.heap.size]? = some (.cells #[.int .i64 o0, .int .i64 o1, .int .i64 o2, .int .i64 o3, .int .i64 o4] 52 (0, 0)) := by rw [hw2]; exact heap_alloc_new _ _
      obtain ⟨s, g, hpick⟩ := pick_any hps.o hal0 (by omega) f1 f4
      have HPK := Lib.hid (hpick w2 hb2)
      have HPS2 := Lib.hid (hps.below hb2)
      have HN2 := Lib.hid hn2
      have HW2 := Lib.hid hw2
      have HF := Lib.hid (And.intro f2 (And.intro f3 f4))
      have hlt2 : wr.heap.size < w2.heap.size := by rw [hw2]; simp
      have HBR := Lib.hid (And.intro hps.rlt (And.intro hps.t.blt hps.lr))
      obtain ⟨A9, n9, c9, hrow, hrs9, hown9, hlt9⟩ := hps.row
      have HROW := Lib.hid hrow
      have HRS9 := Lib.hid hrs9
      have HOW9 := Lib.hid (And.intro hown9 hlt9)
      have HBW2 := Lib.hid hb2
      obtain ⟨ob, hob⟩ : ∃ ob, ob = wr.heap.size := ⟨_, rfl⟩
      have HOB := Lib.hid hob
      clear hDo f0 f1 f2 f3 f4 hpick hb2 hn2 hw2 hx hps hgood hob HPS hrow hrs9 hown9 hlt9
      go_upto_region 11 with (fail)
      rw [← HW2.out]
      rw [← HOB.out] at hlt2 HN2 ⊢
      have e1 := cell_of_row _ ob 1 _ _ _ HN2.out
      have e4 := cell_of_row _ ob 4 _ _ _ HN2.out
      simp at e1 e4
      clear d0 d1 d2 d3 d4
      go_wp2_with fail
      refine HPK.out.mono ?_
      rintro e w3 ⟨rfl, hb3⟩
      have HPS3 := Lib.hid (HPS2.out.below hb3)
      have HN3 := Lib.hid ((hb3.block ob hlt2).trans HN2.out)
      have hlt3 : ob < w3.heap.size := Nat.lt_of_lt_of_le hlt2 hb3.size
      have HBW3 := Lib.hid (HBW2.out.trans (hb3.mono HBW2.out.size))
      clear hb3 HPK e1 e4 HN2 HPS2 hlt2
      go_upto_region 12 with (fail)
      obtain ⟨w4, hw4⟩ : ∃ w4 : World, w4 = w3.alloc (.cells #[.int .i64 s, .int .i64 g] 28) := ⟨_, rfl⟩
      have hb4 : Below w3.heap.size w3 w4 := by rw [hw4]; exact (Below.refl _ _).alloc (Nat.le_refl _) _
      have HPS4 := Lib.hid (HPS3.out.below hb4)
      have HN4 := Lib.hid ((hb4.block ob hlt3).trans HN3.out)
      have HC4 := Lib.hid (show w4.heap[w3.heap.size]? = some (.cells #[.int .i64 s, .int .i64 g] 28 (0, 0)) by rw [hw4]; exact heap_alloc_new _ _)
      have hlt4 : w3.heap.size < w4.heap.size := by rw [hw4]; simp
      obtain ⟨cb, hcb⟩ : ∃ cb, cb = w3.heap.size := ⟨_, rfl⟩
      rw [← hw4]
      rw [← hcb] at HC4 hlt3 hlt4 ⊢
      have HBW := Lib.hid (HBW3.out.trans (hb4.mono HBW3.out.size))
      clear hw4 hb4 HPS3 HN3 hcb HBW3 HBW2
      have e0 := cell_of_row _ ob 0 _ _ _ HN4.out
      simp at e0
      go_wp2_with fail
      refine (HDO.out _).mono ?_
      rintro e w' ⟨rfl, rfl⟩
      go_upto_block 2 with (fail)
      go_cut [9] (fun va' wx => RSt w wx b rb E (i + 1) va')
      case first =>
        clear e0
        by_cases h3 : d = 3
        · subst h3
          as_aux_lemma =>
            obtain ⟨s2, g2, hpick2⟩ := pick_any HPS4.out.o hal0 (by omega) HF.out.1 HF.out.2.2
            have HPK := Lib.hid (hpick2 w4 (Below.refl _ _))
            have e2 := cell_of_row _ ob 2 _ _ _ HN4.out
            have e4 := cell_of_row _ ob 4 _ _ _ HN4.out
            simp at e2 e4
            clear hpick2 dd0 dd1
            go_wp2_with fail
            refine HPK.out.mono ?_
            rintro e w5 ⟨rfl, hb5⟩
            go_upto_region 25 with (fail)
            obtain ⟨w6, hw6⟩ : ∃ w6 : World, w6 = w5.alloc (.cells #[.int .i64 s2, .int .i64 g2] 28) := ⟨_, rfl⟩
            have hb6 : Below w5.heap.size w5 w6 := by rw [hw6]; exact (Below.refl _ _).alloc (Nat.le_refl _) _
            have hb46 := hb5.trans (hb6.mono hb5.size)
            have HPS6 := Lib.hid (HPS4.out.below hb46)
            have HC6 := Lib.hid ((hb46.block cb hlt4).trans HC4.out)
            have HD6 := Lib.hid (show w6.heap[w5.heap.size]? = some (.cells #[.int .i64 s2, .int .i64 g2] 28 (0, 0)) by rw [hw6]; exact heap_alloc_new _ _)
            have hbw6 := HBW.out.trans (hb46.mono HBW.out.size)
            have HR6 := Lib.hid ((hbw6.block rb HBR.out.1).trans HROW.out)
            have HRS6 := Lib.hid (HRS9.out.below hbw6)
            have hlt6 : w5.heap.size < w6.heap.size := by rw [hw6]; simp
            have hcb5 : cb < w5.heap.size := Nat.lt_of_lt_of_le hlt4 hb5.size
            have hsw6 := hbw6.size
            obtain ⟨tb, htb⟩ : ∃ tb, tb = w5.heap.size := ⟨_, rfl⟩
            rw [← hw6]
            rw [← htb] at HD6 hlt6 hcb5 ⊢
            have hwo : wr.heap.size ≤ ob := by rw [HOB.out]; exact Nat.le_refl _
            clear hw6 hb5 hb6 hb46 hbw6 htb HPK e2 e4 HPS4 HN4 HC4
            have r0 := cell_of_row _ rb 0 _ _ _ HR6.out
            have r1 := cell_of_row _ rb 1 _ _ _ HR6.out
            have r2 := cell_of_row _ rb 2 _ _ _ HR6.out
            have k0 := cell_of_row _ cb 0 _ _ _ HC6.out
            have k1 := cell_of_row _ cb 1 _ _ _ HC6.out
            have t0 := cell_of_row _ tb 0 _ _ _ HD6.out
            have t1 := cell_of_row _ tb 1 _ _ _ HD6.out
            simp at r0 r1 r2 k0 k1 t0 t1
            have HRV := Lib.hid (ref_revoke HRS6.out HGD.out E G HPS6.out.bel s g s2 g2)
            obtain ⟨er, her⟩ : ∃ er, er = rvcode f s g s2 g2 := ⟨_, rfl⟩
            rw [← her] at HRV
            have HER := Lib.hid her
            clear her
            go_wp2_with fail
            refine HRV.out.mono ?_
            rintro e w7 ⟨v7, f7, rfl, hcase, hR7, hB7, hK7⟩
            obtain ⟨A7, n7, c7, rfl⟩ := (RS.of hR7).shape
            go_upto_region 26 with (fail)
            obtain ⟨w8, hw8⟩ : ∃ w8 : World, w8 = w7.alloc (.cells #[.int .i64 E, .int .i64 G, .slice A7 n7 c7] 49) := ⟨_, rfl⟩
            have hb8 : Below w7.heap.size w7 w8 := by rw [hw8]; exact (Below.refl _ _).alloc (Nat.le_refl _) _
            have hput := HPS6.out.put (G' := G) HR6.out HOW9.out.1 (Kd.R_below hR7 hb8) (hB7.trans (hb8.mono hB7.size)) (kept_below hK7 hb8)
            have hn8 : w8.heap[w7.heap.size]? = some (.cells #[.int .i64 E, .int .i64 G, .slice A7 n7 c7] 49 (0, 0)) := by rw [hw8]; exact heap_alloc_new _ _
            have hlt8 : rb < w7.heap.size := by have := HPS6.out.rlt; have := hK7.1; omega
            have hrbne : rb ≠ w7.heap.size := by omega
            have q0 := cell_of_row _ _ 0 _ _ _ hn8
            have q1 := cell_of_row _ _ 1 _ _ _ hn8
            have q2 := cell_of_row _ _ 2 _ _ _ hn8
            have z0 := cell_of_row _ rb 0 _ _ _ hput.2.1
            have z1 := cell_of_row _ rb 1 _ _ _ hput.2.1
            have z2 := cell_of_row _ rb 2 _ _ _ hput.2.1
            have y0 := frozen_of_row _ rb 0 _ _ hput.2.1
            have y1 := frozen_of_row _ rb 1 _ _ hput.2.1
            have y2 := frozen_of_row _ rb 2 _ _ hput.2.1
            simp at q0 q1 q2 z0 z1 z2
            obtain ⟨qb, hqb⟩ : ∃ qb, qb = w7.heap.size := ⟨_, rfl⟩
            rw [← hw8]
            rw [← hqb] at q0 q1 q2 hrbne ⊢
            have HPUT := Lib.hid hput
            have HCASE := Lib.hid hcase
            clear hput hcase hR7 hB7 hK7 hb8 hn8 hw8 hqb hlt8 r0 r1 r2 k0 k1 t0 t1
            go_upto_region 27 with (fail)
            obtain ⟨w9, hw9⟩ : ∃ w9 : World, w9 = ((w8.setCell ⟨rb, 0, none⟩ (.int .i64 E)).setCell ⟨rb, 1, none⟩ (.int .i64 G)).setCell ⟨rb, 2, none⟩ (.slice A7 n7 c7) := ⟨_, rfl⟩
            have hput := HPUT.out
            rw [← hw9] at hput ⊢
            obtain ⟨hps9, _, _, hkept⟩ := hput
            have hrbw := HBR.out.1
            have hne : ∀ i, wr.heap.size ≤ i → some i ≠ Value.ownBlock (.slice A9 n9 c9) := fun i hi e => by have := HOW9.out.2 i e.symm; omega
            have hC9 := (hkept cb (by omega) (hne cb (by omega)) (by omega)).trans HC6.out
            have hD9 := (hkept tb (by omega) (hne tb (by omega)) (by omega)).trans HD6.out
            have HRV9 := Lib.hid (revoke_both hps9 (s := s) (g := g) (s2 := s2) (g2 := g2) (by rw [← HER.out]; exact HCASE.out))
            rw [← HER.out] at HRV9
            have k0 := cell_of_row _ cb 0 _ _ _ hC9
            have k1 := cell_of_row _ cb 1 _ _ _ hC9
            have t0 := cell_of_row _ tb 0 _ _ _ hD9
            have t1 := cell_of_row _ tb 1 _ _ _ hD9
            simp at k0 k1 t0 t1
            clear hw9 hps9 hkept hne hC9 hD9 q0 q1 q2 z0 z1 z2 y0 y1 y2 HPUT
            go_wp2_with fail
            refine HRV9.out.mono ?_
            rintro e w10 ⟨rfl, hps10⟩
            have HPS10 := Lib.hid hps10
            clear hps10 HRV9 k0 k1 t0 t1
            go_wp2_with fail
            go_meet
            exact ⟨G, f7, al, HPS10.out, good_revoke HGD.out HCASE.out, hal0, by omega, by omega⟩
        · by_cases h4 : d = 4
          · subst h4
            clear h3
            have HF3 := HF.out.2.1
            obtain ⟨q, qq0, qq1, hAq⟩ := around_some o3 16 (by omega) (by omega) HF3
            obtain ⟨q, rfl⟩ := Int.eq_ofNat_of_zero_le qq0
            have HAQ := Lib.hid hAq
            have e3 := cell_of_row _ ob 3 _ _ _ HN4.out
            have k0 := cell_of_row _ cb 0 _ _ _ HC4.out
            have k1 := cell_of_row _ cb 1 _ _ _ HC4.out
            simp at e3 k0 k1
            have HRI := Lib.hid (rights_any b E G f s g w4 HPS4.out.t)
            have hq16 : q < 16 := by omega
            have HCK := Lib.hid (fun W (h : PS w W b rb E G f G f u9 al) => check_any b E G f s g q W h.t)
            have HRC := Lib.hid (fun W (h : RS W w.heap.size (.slice A9 n9 c9) f) => ref_check h HGD.out E G s g hq16)
            have HFD := Lib.hid (fun W (h : RS W w.heap.size (.slice A9 n9 c9) f) => ref_find h E G s g)
            have hgd := gd_cases f s g
            have HRS4 := Lib.hid (HRS9.out.below HBW.out)
            have HR4 := Lib.hid ((HBW.out.block rb HBR.out.1).trans HROW.out)
            clear hAq HF3 dd0 dd1 qq1
            have HQ := Lib.hid hq16
            clear hq16
            obtain ⟨er, her⟩ : ∃ er, er = ccode (gd f s g) q := ⟨_, rfl⟩
            rw [← her] at HCK HRC
            clear her
            rcases hgd with ⟨hg1, hg2⟩ | ⟨ii, hii8, hs, hu, hg, hg1, hg2, hg3⟩
            · as_aux_lemma =>
                have hat : fidx (lst f) s g = -1 := by unfold fidx; rw [hg2]
                rw [hat] at HFD
                rw [hg1] at HRI
                dsimp only [Option.getD, rcode] at HRI
                clear hat hg1 hg2
                go_wp2_with fail
                refine (HAQ.out _).mono ?_
                rintro e w' ⟨rfl, rfl⟩
                go_wp2_with fail
                refine HRI.out.mono ?_
                rintro e w5 ⟨rfl, hb5⟩
                have r0 := cell_below hb5 (cell_of_row _ rb 0 _ _ _ HR4.out)
                have r1 := cell_below hb5 (cell_of_row _ rb 1 _ _ _ HR4.out)
                have r2 := cell_below hb5 (cell_of_row _ rb 2 _ _ _ HR4.out)
                replace k0 := cell_below hb5 k0
                replace k1 := cell_below hb5 k1
                simp at r0 r1 r2
                have HPS5 := Lib.hid (HPS4.out.below hb5)
                have HRS5 := Lib.hid (HRS4.out.below hb5)
                clear hb5 HPS4 HRS4 e3 HRI
                go_wp2_with fail
                refine (HFD.out _ HRS5.out).mono ?_
                rintro e w6 ⟨rfl, hb6⟩
                replace r0 := cell_below hb6 r0
                replace r1 := cell_below hb6 r1
                replace r2 := cell_below hb6 r2
                replace k0 := cell_below hb6 k0
                replace k1 := cell_below hb6 k1
                have HPS6 := Lib.hid (HPS5.out.below hb6)
                have HRS6 := Lib.hid (HRS5.out.below hb6)
                clear hb6 HPS5 HRS5 HFD
                go_upto_region 33 with (fail)
                have HCK6 := Lib.hid (fun W (h : Below w6.heap.size w6 W) => HCK.out W (HPS6.out.below h))
                have HRC6 := Lib.hid (fun W (h : Below w6.heap.size w6 W) => HRC.out W (HRS6.out.below h))
                go_cut [170] (fun x wx => x = .bool false ∧ Below w6.heap.size w6 wx)
                case first =>
                  go_region_held3 (fun w' => w'.cell? ⟨cb, 0, none⟩ = some (.int .i64 s) ∧ w'.cell? ⟨cb, 1, none⟩ = some (.int .i64 g) ∧ w'.cell? ⟨rb, 0, none⟩ = some (.int .i64 E) ∧ w'.cell? ⟨rb, 1, none⟩ = some (.int .i64 G) ∧ w'.cell? ⟨rb, 2, none⟩ = some (.slice A9 n9 c9)) (first | (go_keep; done) | (exact ⟨cell_below (w := w6) (by repeat (first | exact BF.out | exact Below.refl _ _ | apply below_drew)) k0, cell_below (w := w6) (by repeat (first | exact BF.out | exact Below.refl _ _ | apply below_drew)) k1, cell_below (w := w6) (by repeat (first | exact BF.out | exact Below.refl _ _ | apply below_drew)) r0, cell_below (w := w6) (by repeat (first | exact BF.out | exact Below.refl _ _ | apply below_drew)) r1, cell_below (w := w6) (by repeat (first | exact BF.out | exact Below.refl _ _ | apply below_drew)) r2⟩)) (first | (go_at_call 18; refine (HCK6.out _ (by repeat (first | exact BF.out | exact Below.refl _ _ | apply below_drew))).mono ?_; rintro e wf ⟨rfl, hbf⟩; have bf : Below w6.heap.size w6 wf := below_then (by repeat (first | exact BF.out | exact Below.refl _ _ | apply below_drew)) (by first | exact BF.out.size | simp; done | omega | (simp; omega)) hbf; have BF := Lib.hid bf; clear hbf bf) | (go_at_call 24; refine (HRC6.out _ (by repeat (first | exact BF.out | exact Below.refl _ _ | apply below_drew))).mono ?_; rintro e wf ⟨rfl, hbf⟩; have bf : Below w6.heap.size w6 wf := below_then (by repeat (first | exact BF.out | exact Below.refl _ _ | apply below_drew)) (by first | exact BF.out.size | simp; done | omega | (simp; omega)) hbf; have BF := Lib.hid bf; clear hbf bf))
                  all_goals (go_wp2_with fail; go_meet; exact ⟨rfl, (by repeat (first | exact BF.out | exact Below.refl _ _ | apply below_drew))⟩)
                case rest =>
                  obtain ⟨rfl, hb7⟩ := hcut
                  have HPS7 := Lib.hid (HPS6.out.below hb7)
                  clear hb7 r0 r1 r2 k0 k1
                  go_wp2_with fail
                  go_meet
                  exact ⟨G, f, al, HPS7.out, HGD.out, hal0, by omega, by omega⟩
            · as_aux_lemma =>
                have hat : fidx (lst f) s g = ((lsl f (List.range ii)).length : Int) := by unfold fidx; rw [hg2]
                rw [hat] at HFD
                rw [hg1] at HRI
                dsimp only [Option.getD, rcode] at HRI
                obtain ⟨ow, how⟩ : ∃ ow, ow = (f ii).2.2 := ⟨_, rfl⟩
                rw [← how] at HRI hg3
                obtain ⟨k, hk⟩ : ∃ k, k = (lsl f (List.range ii)).length := ⟨_, rfl⟩
                rw [← hk] at HFD hg3
                have HG3 := Lib.hid hg3
                have hk0 : (0 : Int) ≤ (k : Int) := by omega
                obtain ⟨z, hz⟩ : ∃ z : Int, z = (k : Int) := ⟨_, rfl⟩
                rw [← hz] at HFD
                have HZ := Lib.hid hz
                have hkd : decide (z < 0) = false := by rw [hz]; simp
                have hkd2 : decide (z ≥ 0) = true := by rw [hz]; simp
                have hkd3 : decide (0 ≤ z) = true := by rw [hz]; simp
                clear hz hk0
                clear hat hg1 hg2 hg3 hii8 hs hu hg how hk
                go_wp2_with fail
                refine (HAQ.out _).mono ?_
                rintro e w' ⟨rfl, rfl⟩
                go_wp2_with fail
                refine HRI.out.mono ?_
                rintro e w5 ⟨rfl, hb5⟩
                have r0 := cell_below hb5 (cell_of_row _ rb 0 _ _ _ HR4.out)
                have r1 := cell_below hb5 (cell_of_row _ rb 1 _ _ _ HR4.out)
                have r2 := cell_below hb5 (cell_of_row _ rb 2 _ _ _ HR4.out)
                replace k0 := cell_below hb5 k0
                replace k1 := cell_below hb5 k1
                simp at r0 r1 r2
                have HPS5 := Lib.hid (HPS4.out.below hb5)
                have HRS5 := Lib.hid (HRS4.out.below hb5)
                clear hb5 HPS4 HRS4 e3 HRI
                go_wp2_with fail
                refine (HFD.out _ HRS5.out).mono ?_
                rintro e w6 ⟨rfl, hb6⟩
                replace r0 := cell_below hb6 r0
                replace r1 := cell_below hb6 r1
                replace r2 := cell_below hb6 r2
                replace k0 := cell_below hb6 k0
                replace k1 := cell_below hb6 k1
                have HPS6 := Lib.hid (HPS5.out.below hb6)
                have HRS6 := Lib.hid (HRS5.out.below hb6)
                clear hb6 HPS5 HRS5 HFD
                go_upto_region 33 with (fail)
                have HCK6 := Lib.hid (fun W (h : Below w6.heap.size w6 W) => HCK.out W (HPS6.out.below h))
                have HRC6 := Lib.hid (fun W (h : Below w6.heap.size w6 W) => HRC.out W (HRS6.out.below h))
                go_cut [170] (fun x wx => x = .bool false ∧ Below w6.heap.size w6 wx)
                case first =>
                  refine wp_region_held_drew (S := (fun w' => w'.cell? ⟨cb, 0, none⟩ = some (.int .i64 s) ∧ w'.cell? ⟨cb, 1, none⟩ = some (.int .i64 g) ∧ w'.cell? ⟨rb, 0, none⟩ = some (.int .i64 E) ∧ w'.cell? ⟨rb, 1, none⟩ = some (.int .i64 G) ∧ w'.cell? ⟨rb, 2, none⟩ = some (.slice A9 n9 c9))) (by kernel_rfl) ?_ (fun hHeld => ?_)
                  · ((try dsimp only); exact ⟨cell_below (w := w6) (by repeat (first | exact BF.out | exact Below.refl _ _ | apply below_drew)) k0, cell_below (w := w6) (by repeat (first | exact BF.out | exact Below.refl _ _ | apply below_drew)) k1, cell_below (w := w6) (by repeat (first | exact BF.out | exact Below.refl _ _ | apply below_drew)) r0, cell_below (w := w6) (by repeat (first | exact BF.out | exact Below.refl _ _ | apply below_drew)) r1, cell_below (w := w6) (by repeat (first | exact BF.out | exact Below.refl _ _ | apply below_drew)) r2⟩)
                  refine take_at (i := 0) (d := 143) (oi := _) (v := (.pointer (some ⟨b, 0, none⟩))) rfl rfl (by kernel_rfl) (by kernel_rfl) (by kernel_rfl) (fun _ _ _ h => h) (Or.inl ⟨by rfl, ?_⟩) (by assumption) ?_
                  · (intro w hSw; (try dsimp only at hSw); (try simp only [List.getElem_toArray, List.getElem_cons_zero, List.getElem_cons_succ]); go_simp)
                  try simp only [List.setIfInBounds_toArray, List.set_cons_zero, List.set_cons_succ]
                  refine take_at (i := 1) (d := 144) (oi := _) (v := (.agg #[.int .i64 s, .int .i64 g])) rfl rfl (by kernel_rfl) (by kernel_rfl) (by kernel_rfl) (fun _ _ _ h => h) (Or.inl ⟨by rfl, ?_⟩) (by assumption) ?_
                  · (intro w hSw; (try dsimp only at hSw); (try simp only [List.getElem_toArray, List.getElem_cons_zero, List.getElem_cons_succ]); go_simp)
                  try simp only [List.setIfInBounds_toArray, List.set_cons_zero, List.set_cons_succ]
                  refine take_at (i := 2) (d := 145) (oi := _) (v := (.int .i64 q)) rfl rfl (by kernel_rfl) (by kernel_rfl) (by kernel_rfl) (fun _ _ _ h => h) (Or.inl ⟨by rfl, ?_⟩) (by assumption) ?_
                  · (intro w hSw; (try dsimp only at hSw); (try simp only [List.getElem_toArray, List.getElem_cons_zero, List.getElem_cons_succ]); go_simp)
                  try simp only [List.setIfInBounds_toArray, List.set_cons_zero, List.set_cons_succ]
                  refine take_at (i := 4) (d := 147) (oi := _) (v := (.agg #[.int .i64 E, .int .i64 G, .slice A9 n9 c9])) rfl rfl (by kernel_rfl) (by kernel_rfl) (by kernel_rfl) (fun _ _ _ h => h) (Or.inl ⟨by rfl, ?_⟩) (by assumption) ?_
                  · (intro w hSw; (try dsimp only at hSw); (try simp only [List.getElem_toArray, List.getElem_cons_zero, List.getElem_cons_succ]); go_simp)
                  try simp only [List.setIfInBounds_toArray, List.set_cons_zero, List.set_cons_succ]
                  refine take_at (i := 5) (d := 148) (oi := _) (v := (.agg #[.int .i64 s, .int .i64 g])) rfl rfl (by kernel_rfl) (by kernel_rfl) (by kernel_rfl) (fun _ _ _ h => h) (Or.inl ⟨by rfl, ?_⟩) (by assumption) ?_
                  · (intro w hSw; (try dsimp only at hSw); (try simp only [List.getElem_toArray, List.getElem_cons_zero, List.getElem_cons_succ]); go_simp)
                  try simp only [List.setIfInBounds_toArray, List.set_cons_zero, List.set_cons_succ]
                  refine take_at (i := 6) (d := 149) (oi := _) (v := (.int .i64 q)) rfl rfl (by kernel_rfl) (by kernel_rfl) (by kernel_rfl) (fun _ _ _ h => h) (Or.inl ⟨by rfl, ?_⟩) (by assumption) ?_
                  · (intro w hSw; (try dsimp only at hSw); (try simp only [List.getElem_toArray, List.getElem_cons_zero, List.getElem_cons_succ]); go_simp)
                  try simp only [List.setIfInBounds_toArray, List.set_cons_zero, List.set_cons_succ]
                  refine wpAnyH_ready (rs := [3]) (by kernel_rfl) (by simp) ?_
                  refine AllReadyH.cons (o := _) rfl (fun K hK => ?_) AllReadyH.nil
                  (try simp only [List.getElem_toArray, List.getElem_cons_zero, List.getElem_cons_succ])
                  go_simp
                  (go_at_call 18; refine (HCK6.out _ (by repeat (first | exact BF.out | exact Below.refl _ _ | apply below_drew))).mono ?_; rintro e wf ⟨rfl, hbf⟩; have bf : Below w6.heap.size w6 wf := below_then (by repeat (first | exact BF.out | exact Below.refl _ _ | apply below_drew)) (by first | exact BF.out.size | simp; done | omega | (simp; omega)) hbf; have BF := Lib.hid bf; clear hbf bf)
                  go_wp2_with fail
                  refine hK.out _ _ ?_ (fun hHeld => ?_)
                  · ((try dsimp only); exact ⟨cell_below (w := w6) (by repeat (first | exact BF.out | exact Below.refl _ _ | apply below_drew)) k0, cell_below (w := w6) (by repeat (first | exact BF.out | exact Below.refl _ _ | apply below_drew)) k1, cell_below (w := w6) (by repeat (first | exact BF.out | exact Below.refl _ _ | apply below_drew)) r0, cell_below (w := w6) (by repeat (first | exact BF.out | exact Below.refl _ _ | apply below_drew)) r1, cell_below (w := w6) (by repeat (first | exact BF.out | exact Below.refl _ _ | apply below_drew)) r2⟩)
                  clear hK K
                  try simp only [Act.put, List.setIfInBounds_toArray, List.set_cons_zero, List.set_cons_succ]
                  refine wpAnyH_ready (rs := [7]) (by kernel_rfl) (by simp) ?_
                  refine AllReadyH.cons (o := _) rfl (fun K hK => ?_) AllReadyH.nil
                  (try simp only [List.getElem_toArray, List.getElem_cons_zero, List.getElem_cons_succ])
                  go_simp
                  (go_at_call 24; refine (HRC6.out _ (by repeat (first | exact BF.out | exact Below.refl _ _ | apply below_drew))).mono ?_; rintro e wf ⟨rfl, hbf⟩; have bf : Below w6.heap.size w6 wf := below_then (by repeat (first | exact BF.out | exact Below.refl _ _ | apply below_drew)) (by first | exact BF.out.size | simp; done | omega | (simp; omega)) hbf; have BF := Lib.hid bf; clear hbf bf)
                  go_wp2_with fail
                  refine hK.out _ _ ?_ (fun hHeld => ?_)
                  · ((try dsimp only); exact ⟨cell_below (w := w6) (by repeat (first | exact BF.out | exact Below.refl _ _ | apply below_drew)) k0, cell_below (w := w6) (by repeat (first | exact BF.out | exact Below.refl _ _ | apply below_drew)) k1, cell_below (w := w6) (by repeat (first | exact BF.out | exact Below.refl _ _ | apply below_drew)) r0, cell_below (w := w6) (by repeat (first | exact BF.out | exact Below.refl _ _ | apply below_drew)) r1, cell_below (w := w6) (by repeat (first | exact BF.out | exact Below.refl _ _ | apply below_drew)) r2⟩)
                  clear hK K
                  try simp only [Act.put, List.setIfInBounds_toArray, List.set_cons_zero, List.set_cons_succ]
                  refine take_at (i := 8) (d := 151) (oi := _) (v := (.bool false)) rfl rfl (by kernel_rfl) (by kernel_rfl) (by kernel_rfl) (fun _ _ _ h => h) (Or.inl ⟨by rfl, ?_⟩) (by assumption) ?_
                  · (intro w hSw; (try dsimp only at hSw); (try simp only [List.getElem_toArray, List.getElem_cons_zero, List.getElem_cons_succ]); go_simp)
                  try simp only [List.setIfInBounds_toArray, List.set_cons_zero, List.set_cons_succ]
                  refine take_at (i := 9) (d := 152) (oi := _) (v := (.bool false)) rfl rfl (by kernel_rfl) (by kernel_rfl) (by kernel_rfl) (fun _ _ _ h => h) (Or.inl ⟨by rfl, ?_⟩) (by assumption) ?_
                  · (intro w hSw; (try dsimp only at hSw); (try simp only [List.getElem_toArray, List.getElem_cons_zero, List.getElem_cons_succ]); go_simp)
                  try simp only [List.setIfInBounds_toArray, List.set_cons_zero, List.set_cons_succ]
                  refine take_at (i := 10) (d := 153) (oi := _) (v := (.int .i64 0)) rfl rfl (by kernel_rfl) (by kernel_rfl) (by kernel_rfl) (fun _ _ _ h => h) (Or.inl ⟨by rfl, ?_⟩) (by assumption) ?_
                  · (intro w hSw; (try dsimp only at hSw); (try simp only [List.getElem_toArray, List.getElem_cons_zero, List.getElem_cons_succ]); go_simp)
                  try simp only [List.setIfInBounds_toArray, List.set_cons_zero, List.set_cons_succ]
                  refine take_at (i := 11) (d := 154) (oi := _) (v := (.bool true)) rfl rfl (by kernel_rfl) (by kernel_rfl) (by kernel_rfl) (fun _ _ _ h => h) (Or.inl ⟨by rfl, ?_⟩) (by assumption) ?_
                  · (intro w hSw; (try dsimp only at hSw); (try simp only [List.getElem_toArray, List.getElem_cons_zero, List.getElem_cons_succ]); go_simp)
                  try simp only [List.setIfInBounds_toArray, List.set_cons_zero, List.set_cons_succ]
                  refine take_at (i := 12) (d := 155) (oi := _) (v := (.int .i64 z)) rfl rfl (by kernel_rfl) (by kernel_rfl) (by kernel_rfl) (fun _ _ _ h => h) (Or.inl ⟨by rfl, ?_⟩) (by assumption) ?_
                  · (intro w hSw; (try dsimp only at hSw); (try simp only [List.getElem_toArray, List.getElem_cons_zero, List.getElem_cons_succ]); go_simp)
                  try simp only [List.setIfInBounds_toArray, List.set_cons_zero, List.set_cons_succ]
                  refine take_at (i := 13) (d := 156) (oi := _) (v := (.bool true)) rfl rfl (by kernel_rfl) (by kernel_rfl) (by kernel_rfl) (fun _ _ _ h => h) (Or.inl ⟨by rfl, ?_⟩) (by assumption) ?_
                  · (intro w hSw; (try dsimp only at hSw); (try simp only [List.getElem_toArray, List.getElem_cons_zero, List.getElem_cons_succ]); go_simp)
                  try simp only [List.setIfInBounds_toArray, List.set_cons_zero, List.set_cons_succ]
                  refine take_at (i := 14) (d := 157) (oi := _) (v := (.bool false)) rfl rfl (by kernel_rfl) (by kernel_rfl) (by kernel_rfl) (fun _ _ _ h => h) (Or.inl ⟨by rfl, ?_⟩) (by assumption) ?_
                  · (intro w hSw; (try dsimp only at hSw); (try simp only [List.getElem_toArray, List.getElem_cons_zero, List.getElem_cons_succ]); go_simp)
                  try simp only [List.setIfInBounds_toArray, List.set_cons_zero, List.set_cons_succ]
                  refine take_at (i := 15) (d := 158) (oi := _) (v := (.bool false)) rfl rfl (by kernel_rfl) (by kernel_rfl) (by kernel_rfl) (fun _ _ _ h => h) (Or.inl ⟨by rfl, ?_⟩) (by assumption) ?_
                  · (intro w hSw; (try dsimp only at hSw); (try simp only [List.getElem_toArray, List.getElem_cons_zero, List.getElem_cons_succ]); go_simp)
                  try simp only [List.setIfInBounds_toArray, List.set_cons_zero, List.set_cons_succ]
                  refine take_at (i := 16) (d := 159) (oi := _) (v := (.bool false)) rfl rfl (by kernel_rfl) (by kernel_rfl) (by kernel_rfl) (fun _ _ _ h => h) (Or.inl ⟨by rfl, ?_⟩) (by assumption) ?_
                  · (intro w hSw; (try dsimp only at hSw); (try simp only [List.getElem_toArray, List.getElem_cons_zero, List.getElem_cons_succ]); go_simp)
                  try simp only [List.setIfInBounds_toArray, List.set_cons_zero, List.set_cons_succ]
                  refine take_at (i := 17) (d := 160) (oi := _) (v := (.int .i64 z)) rfl rfl (by kernel_rfl) (by kernel_rfl) (by kernel_rfl) (fun _ _ _ h => h) (Or.inl ⟨by rfl, ?_⟩) (by assumption) ?_
                  · (intro w hSw; (try dsimp only at hSw); (try simp only [List.getElem_toArray, List.getElem_cons_zero, List.getElem_cons_succ]); go_simp)
                  try simp only [List.setIfInBounds_toArray, List.set_cons_zero, List.set_cons_succ]
                  refine take_at (i := 18) (d := 161) (oi := _) (v := (.bool false)) rfl rfl (by kernel_rfl) (by kernel_rfl) (by kernel_rfl) (fun _ _ _ h => h) (Or.inl ⟨by rfl, ?_⟩) (by assumption) ?_
                  · (intro w hSw; (try dsimp only at hSw); (try simp only [List.getElem_toArray, List.getElem_cons_zero, List.getElem_cons_succ]); go_simp)
                  try simp only [List.setIfInBounds_toArray, List.set_cons_zero, List.set_cons_succ]
                  refine take_at (i := 19) (d := 162) (oi := _) (v := (.bool false)) rfl rfl (by kernel_rfl) (by kernel_rfl) (by kernel_rfl) (fun _ _ _ h => h) (Or.inl ⟨by rfl, ?_⟩) (by assumption) ?_
                  · (intro w hSw; (try dsimp only at hSw); (try simp only [List.getElem_toArray, List.getElem_cons_zero, List.getElem_cons_succ]); go_simp)
                  try simp only [List.setIfInBounds_toArray, List.set_cons_zero, List.set_cons_succ]
                  refine take_at (i := 20) (d := 163) (oi := _) (v := undef) rfl rfl (by kernel_rfl) (by kernel_rfl) (by kernel_rfl) (fun _ _ _ h => h) (Or.inr ⟨by rfl, rfl⟩) (by assumption) ?_
                  try simp only [List.setIfInBounds_toArray, List.set_cons_zero, List.set_cons_succ]
                  refine take_at (i := 21) (d := 164) (oi := _) (v := undef) rfl rfl (by kernel_rfl) (by kernel_rfl) (by kernel_rfl) (fun _ _ _ h => h) (Or.inr ⟨by rfl, rfl⟩) (by assumption) ?_
                  try simp only [List.setIfInBounds_toArray, List.set_cons_zero, List.set_cons_succ]
                  refine take_at (i := 22) (d := 165) (oi := _) (v := undef) rfl rfl (by kernel_rfl) (by kernel_rfl) (by kernel_rfl) (fun _ _ _ h => h) (Or.inr ⟨by rfl, rfl⟩) (by assumption) ?_
                  try simp only [List.setIfInBounds_toArray, List.set_cons_zero, List.set_cons_succ]
                  refine take_at (i := 23) (d := 166) (oi := _) (v := undef) rfl rfl (by kernel_rfl) (by kernel_rfl) (by kernel_rfl) (fun _ _ _ h => h) (Or.inr ⟨by rfl, rfl⟩) (by assumption) ?_
                  try simp only [List.setIfInBounds_toArray, List.set_cons_zero, List.set_cons_succ]
                  refine take_at (i := 24) (d := 167) (oi := _) (v := undef) rfl rfl (by kernel_rfl) (by kernel_rfl) (by kernel_rfl) (fun _ _ _ h => h) (Or.inr ⟨by rfl, rfl⟩) (by assumption) ?_
                  try simp only [List.setIfInBounds_toArray, List.set_cons_zero, List.set_cons_succ]
                  refine take_at (i := 25) (d := 168) (oi := _) (v := undef) rfl rfl (by kernel_rfl) (by kernel_rfl) (by kernel_rfl) (fun _ _ _ h => h) (Or.inr ⟨by rfl, rfl⟩) (by assumption) ?_
                  try simp only [List.setIfInBounds_toArray, List.set_cons_zero, List.set_cons_succ]
                  refine take_at (i := 26) (d := 169) (oi := _) (v := (.bool false)) rfl rfl (by kernel_rfl) (by kernel_rfl) (by kernel_rfl) (fun _ _ _ h => h) (Or.inl ⟨by rfl, ?_⟩) (by assumption) ?_
                  · (intro w hSw; (try dsimp only at hSw); (try simp only [List.getElem_toArray, List.getElem_cons_zero, List.getElem_cons_succ]); go_simp)
                  try simp only [List.setIfInBounds_toArray, List.set_cons_zero, List.set_cons_succ]
                  refine take_at (i := 27) (d := 170) (oi := _) (v := (.bool false)) rfl rfl (by kernel_rfl) (by kernel_rfl) (by kernel_rfl) (fun _ _ _ h => h) (Or.inl ⟨by rfl, ?_⟩) (by assumption) ?_
                  · (intro w hSw; (try dsimp only at hSw); (try simp only [List.getElem_toArray, List.getElem_cons_zero, List.getElem_cons_succ]); go_simp)
                  try simp only [List.setIfInBounds_toArray, List.set_cons_zero, List.set_cons_succ]
                  refine wpAnyH_done (by kernel_rfl) ?_ _
                  go_wp2_with fail
                  go_meet
                  exact ⟨rfl, (by repeat (first | exact BF.out | exact Below.refl _ _ | apply below_drew))⟩
                case rest =>
                  obtain ⟨rfl, hb7⟩ := hcut
                  have HPS7 := Lib.hid (HPS6.out.below hb7)
                  obtain ⟨gb, rfl, hkn9, hel⟩ := (HRS6.out.below hb7).elem HG3.out
                  dsimp only at hel
                  replace r2 := cell_below hb7 r2
                  have hkn9i : (k : Int) < (n9 : Int) := by omega
                  have hk0 : (0 : Int) ≤ (k : Int) := by omega
                  clear hb7 r0 r1 k0 k1 hkd hkd2 hkd3
                  rw [HZ.out]
                  go_wp2_with fail
                  go_meet
                  exact ⟨G, f, al, HPS7.out, HGD.out, hal0, by omega, by omega⟩
          · have hd3 : (d == 3) = false := by simp [h3]
            have hd4 : (d == 4) = false := by simp [h4]
            have HF3 := HF.out.2.1
            obtain ⟨q, qq0, qq1, hAq⟩ := around_some o3 16 (by omega) (by omega) HF3
            have HAQ := Lib.hid hAq
            have e3 := cell_of_row _ ob 3 _ _ _ HN4.out
            have e4 := cell_of_row _ ob 4 _ _ _ HN4.out
            have k0 := cell_of_row _ cb 0 _ _ _ HC4.out
            have k1 := cell_of_row _ cb 1 _ _ _ HC4.out
            simp at e3 e4 k0 k1
            have HRS4 := Lib.hid (HRS9.out.below HBW.out)
            have HR4 := Lib.hid ((HBW.out.block rb HBR.out.1).trans HROW.out)
            obtain ⟨r, hr⟩ : ∃ r, r = if Int.tmod o4 7 = 6 then o3 else q := ⟨_, rfl⟩
            have HR := Lib.hid hr
            clear h3 h4 HF3 hAq dd0 dd1 qq0 qq1 hr
            go_wp2_with fail
            refine (HAQ.out _).mono ?_
            rintro e w' ⟨rfl, rfl⟩
            go_upto_if 74 with (fail)
            go_cut [20] (fun x wx => x = .int .i64 r ∧ wx = w4)
            case first =>
              by_cases h6 : Int.tmod o4 7 = 6
              · have hr := HR.out
                rw [if_pos h6] at hr
                have HRR := Lib.hid hr
                have h6b : (Int.tmod o4 7 == 6) = true := by simp [h6]
                clear hr h6
                go_wp2_with fail
                go_meet
                exact ⟨by rw [HRR.out], rfl⟩
              · have hr := HR.out
                rw [if_neg h6] at hr
                have HRR := Lib.hid hr
                have h6b : (Int.tmod o4 7 == 6) = false := by simp [h6]
                clear hr h6
                go_wp2_with fail
                go_meet
                exact ⟨by rw [HRR.out], rfl⟩
            case rest =>
              obtain ⟨rfl, rfl⟩ := hcut
              as_aux_lemma =>
                have r0 := cell_of_row _ rb 0 _ _ _ HR4.out
                have r1 := cell_of_row _ rb 1 _ _ _ HR4.out
                have r2 := cell_of_row _ rb 2 _ _ _ HR4.out
                simp at r0 r1 r2
                have HMI := Lib.hid (ref_mint HRS4.out HGD.out E G (by omega) (by omega) HPS4.out.bel s g r)
                obtain ⟨er, her⟩ : ∃ er, er = mcode f G s g r := ⟨_, rfl⟩
                rw [← her] at HMI
                have HER := Lib.hid her
                clear her e3 e4 HR HAQ
                obtain ⟨w4, rfl⟩ : ∃ w4 : World, w4 = wc := ⟨_, rfl⟩
                go_wp2_with fail
                refine HMI.out.mono ?_
                rintro e w5 ⟨v5, G5, f5, x, y5, rfl, hcase, hR5, hB5, hK5⟩
                obtain ⟨A5, n5, c5, rfl⟩ := (RS.of hR5).shape
                go_upto_region 17 with (fail)
                obtain ⟨w6, hw6⟩ : ∃ w6 : World, w6 = (w5.alloc (.cells #[.int .i64 E, .int .i64 G5, .slice A5 n5 c5] 49)).alloc (.cells #[.int .i64 x, .int .i64 y5] 28) := ⟨_, rfl⟩
                have hb6 : Below w5.heap.size w5 w6 := by rw [hw6]; exact ((Below.refl w5.heap.size w5).alloc (Nat.le_refl _) _).alloc (by simp) _
                have hput := HPS4.out.put (G' := G5) HR4.out HOW9.out.1 (Kd.R_below hR5 hb6) (hB5.trans (hb6.mono hB5.size)) (kept_below hK5 hb6)
                have hn6 : w6.heap[w5.heap.size]? = some (.cells #[.int .i64 E, .int .i64 G5, .slice A5 n5 c5] 49 (0, 0)) := by
                  rw [hw6]; exact (((Below.refl _ _).alloc (Nat.le_refl _) _ : Below (w5.alloc (.cells #[.int .i64 E, .int .i64 G5, .slice A5 n5 c5] 49)).heap.size (w5.alloc (.cells #[.int .i64 E, .int .i64 G5, .slice A5 n5 c5] 49)) _).block w5.heap.size (by simp)).trans (heap_alloc_new _ _)
                have hm6 : w6.heap[w5.heap.size + 1]? = some (.cells #[.int .i64 x, .int .i64 y5] 28 (0, 0)) := by
                  rw [hw6]; have h := heap_alloc_new (w5.alloc (.cells #[.int .i64 E, .int .i64 G5, .slice A5 n5 c5] 49)) (.cells #[.int .i64 x, .int .i64 y5] 28); simpa using h
                have hlt8 : rb < w5.heap.size := by have := HPS4.out.rlt; have := hK5.1; omega
                have hcb5 : cb < w5.heap.size := by have := hK5.1; omega
                have hrbne : rb ≠ w5.heap.size := by omega
                have hrbne1 : rb ≠ w5.heap.size + 1 := by omega
                have q0 := cell_of_row _ _ 0 _ _ _ hn6
                have q1 := cell_of_row _ _ 1 _ _ _ hn6
                have q2 := cell_of_row _ _ 2 _ _ _ hn6
                have z0 := cell_of_row _ rb 0 _ _ _ hput.2.1
                have z1 := cell_of_row _ rb 1 _ _ _ hput.2.1
                have z2 := cell_of_row _ rb 2 _ _ _ hput.2.1
                have y0 := frozen_of_row _ rb 0 _ _ hput.2.1
                have y1 := frozen_of_row _ rb 1 _ _ hput.2.1
                have y2 := frozen_of_row _ rb 2 _ _ hput.2.1
                simp at q0 q1 q2 z0 z1 z2
                rw [← hw6]
                obtain ⟨qb, hqb⟩ : ∃ qb, qb = w5.heap.size := ⟨_, rfl⟩
                rw [← hqb] at q0 q1 q2 hrbne hrbne1 hm6 ⊢
                have hqbw : w4.heap.size ≤ qb := by have := hK5.1; omega
                have HPUT := Lib.hid hput
                have HM6 := Lib.hid hm6
                have HCASE := Lib.hid hcase
                clear hput hcase hR5 hB5 hK5 hb6 hn6 hm6 hw6 hqb hlt8 r0 r1 r2 k0 k1
                go_upto_region 18 with (fail)
                obtain ⟨w7, hw7⟩ : ∃ w7 : World, w7 = ((w6.setCell ⟨rb, 0, none⟩ (.int .i64 E)).setCell ⟨rb, 1, none⟩ (.int .i64 G5)).setCell ⟨rb, 2, none⟩ (.slice A5 n5 c5) := ⟨_, rfl⟩
                have hput := HPUT.out
                have hM7 : w7.heap[qb + 1]? = some (.cells #[.int .i64 x, .int .i64 y5] 28 (0, 0)) := by
                  rw [hw7, Go.heap_setCell_other _ _ _ _ (by exact Ne.symm hrbne1), Go.heap_setCell_other _ _ _ _ (by exact Ne.symm hrbne1), Go.heap_setCell_other _ _ _ _ (by exact Ne.symm hrbne1)]
                  exact HM6.out
                rw [← hw7] at hput ⊢
                obtain ⟨hps7, _, _, hkept⟩ := hput
                have hrbw := HBR.out.1
                have hwo : wr.heap.size ≤ ob := by rw [HOB.out]; exact Nat.le_refl _
                have hC7 := (hkept cb hlt4 (fun e => by have := HOW9.out.2 cb e.symm; omega) (by omega)).trans HC4.out
                have HMB := Lib.hid (mint_both hps7 (s := s) (g := g) (r := r) (x := x) (y := y5) (by rw [← HER.out]; exact HCASE.out))
                rw [← HER.out] at HMB
                have k0 := cell_of_row _ cb 0 _ _ _ hC7
                have k1 := cell_of_row _ cb 1 _ _ _ hC7
                simp at k0 k1
                have HM7 := Lib.hid hM7
                have hqlt := (Array.getElem?_eq_some_iff.1 hM7).1
                have hqne : qb + 1 ≠ b := by have := HBR.out.2.1; have := HBW.out.size; omega
                clear hw7 hps7 hkept hC7 q0 q1 q2 z0 z1 z2 y0 y1 y2 HPUT hM7 HM6 HMI
                go_wp2_with fail
                refine HMB.out.mono ?_
                rintro e w8 ⟨rfl, hps8, hs8, hfar⟩
                have hM8 := (hfar (qb + 1) hqlt hqne).trans HM7.out
                go_upto_region 19 with (fail)
                obtain ⟨w9, hw9⟩ : ∃ w9 : World, w9 = w8.alloc (.cells #[.int .i64 x, .int .i64 y5] 28) := ⟨_, rfl⟩
                have hb9 : Below w8.heap.size w8 w9 := by rw [hw9]; exact (Below.refl _ _).alloc (Nat.le_refl _) _
                have HPS9 := Lib.hid (hps8.below hb9)
                have hM9 := (hb9.block _ (Nat.lt_of_lt_of_le hqlt hs8)).trans hM8
                have hN9 : w9.heap[w8.heap.size]? = some (.cells #[.int .i64 x, .int .i64 y5] 28 (0, 0)) := by rw [hw9]; exact heap_alloc_new _ _
                have m0 := cell_of_row _ (qb + 1) 0 _ _ _ hM9
                have m1 := cell_of_row _ (qb + 1) 1 _ _ _ hM9
                have p0 := cell_of_row _ w8.heap.size 0 _ _ _ hN9
                have p1 := cell_of_row _ w8.heap.size 1 _ _ _ hN9
                simp at m0 m1 p0 p1
                obtain ⟨pb, hpb⟩ : ∃ pb, pb = w8.heap.size := ⟨_, rfl⟩
                rw [← hw9]
                rw [← hpb] at p0 p1 ⊢
                have HGM := Lib.hid (good_mint HGD.out HCASE.out)
                clear hw9 hb9 hps8 hs8 hfar hM8 hM9 hN9 hpb HMB k0 k1 HM7 HPS4 HRS4 HR4 HC4 HN4
                by_cases her0 : er = 0
                · subst her0
                  have hlb9 : rb + 1 ≤ w9.heap.size := by have := HPS9.out.rlt; omega
                  go_wp2_with (at_builtin; refine print_append_cells (w0 := w9) (rb + 1) rfl (.tmp 103) (.tmp 105) 42 28 (.agg #[.int .i64 0, .int .i64 0]) 2 16 rfl Try.underlying42 info28' rfl (by decide) (by decide) u9 al.length (capv al) [.int .i64 x, .int .i64 y5] rfl rfl rfl (two_one _ _) HPS9.out.o (Below.refl _ _) hlb9 (by omega) ?_; intro v1 w10 hown1 hb1 hg1 hat1)
                  have HPUSH := Lib.hid (HPS9.out.push hown1 hb1 hg1 (by
                    intro k hk
                    rcases hat1 with h | ⟨j, h, hj⟩
                    · exact .inl (by rw [← h]; exact hk)
                    · rw [h] at hk; injection hk with hk; exact .inr (by omega)))
                  clear hown1 hb1 hg1 hat1
                  go_wp2_with fail
                  go_meet
                  exact ⟨G5, f5, _, HPUSH.out, HGM.out.1, by simp, by rw [List.length_append, List.length_singleton]; omega, by have := HGM.out.2; omega⟩
                · have her1 : (er == 0) = false := by simp [her0]
                  have her2 : (er != 0) = true := by simp [her0]
                  have HNE := Lib.hid her0
                  clear her0
                  go_wp2_with fail
                  go_meet
                  exact ⟨G5, f5, al, HPS9.out, HGM.out.1, hal0, by omega, by have := HGM.out.2; omega⟩
      case rest =>
        obtain ⟨G, f, al, hps, hgood, hal0, hal, hG⟩ := hcut
        clear HPS4 HN4 HC4 HROW HRS9 HOW9 HBW HF HDO HBR e0 HOB
        obtain ⟨A9, n9, c9, hrow, hrs9, _, _⟩ := hps.row
        have he9 : n9 = (RL f).length := by
          obtain ⟨_, _, he, _⟩ := hrs9.reads
          injection he with _ he _
        rw [RL_live] at he9
        subst he9
        have r0 := cell_of_row _ rb 0 _ _ _ hrow
        have r1 := cell_of_row _ rb 1 _ _ _ hrow
        have r2 := cell_of_row _ rb 2 _ _ _ hrow
        simp at r0 r1 r2
        obtain ⟨wz, rfl⟩ : ∃ wz : World, wz = wc := ⟨_, rfl⟩
        have HRS9 := Lib.hid hrs9
        have HPS := Lib.hid hps
        have HGD2 := Lib.hid hgood
        have HAL := Lib.hid (fun W (h : Below wz.heap.size wz W) => all_any' (hps.t.below h))
        have HRA := Lib.hid (fun W (h : Below wz.heap.size wz W) => ref_all (hrs9.below h) E G)
        have HLV := Lib.hid (fun W (h : Below wz.heap.size wz W) => live_any b E G f W (hps.t.below h))
        have HSM := Lib.hid (fun W A A' c c' h1 h2 h3 h4 => ref_same (W := W) (A := A) (A' := A') (c := c) (c' := c') (f := f) h1 h2 h3 h4)
        have hlv8 := live_len f 8
        clear hps hgood hrow hrs9 HGD HA HAr HRS9
        generalize (live f 8).map s28 = M at *
        generalize (live f 8).length = L at *
        go_upto_region 37 with (fail)
        go_cut [197] (fun x wx => x = .bool false ∧ Below wz.heap.size wz wx)
        case first =>
          as_aux_lemma =>
            have hud : undef = Value.tuple #[] := rfl
            first | (go_region_held3 (fun w' => w'.cell? ⟨rb, 0, none⟩ = some (.int .i64 E) ∧ w'.cell? ⟨rb, 1, none⟩ = some (.int .i64 G) ∧ w'.cell? ⟨rb, 2, none⟩ = some (.slice A9 L c9)) (first | (go_keep; done) | (exact ⟨cell_below (w := wz) (by repeat (first | exact BF.out | exact Below.refl _ _ | apply below_drew)) r0, cell_below (w := wz) (by repeat (first | exact BF.out | exact Below.refl _ _ | apply below_drew)) r1, cell_below (w := wz) (by repeat (first | exact BF.out | exact Below.refl _ _ | apply below_drew)) r2⟩)) (first | (go_at_call 27; refine (HAL.out _ (by repeat (first | exact BF.out | exact Below.refl _ _ | apply below_drew))).mono ?_; rintro e wf ⟨Aa, ca, rfl, hca, hCa, hbf⟩; have HCA := Lib.hid hCa; have HCAc := Lib.hid hca; clear hCa hca; have bf : Below wz.heap.size wz wf := below_then (by repeat (first | exact BF.out | exact Below.refl _ _ | apply below_drew)) (by first | exact BF.out.size | simp; done | omega | (simp; omega)) hbf; have BF := Lib.hid bf; clear hbf bf) | (go_at_call 28; refine (HRA.out _ (by repeat (first | exact BF.out | exact Below.refl _ _ | apply below_drew))).mono ?_; rintro e wf ⟨Ab, cb2, rfl, hcb, hCb, hbf⟩; have HCB := Lib.hid hCb; have HCBc := Lib.hid hcb; have HCA2 := Lib.hid (Kd.C_below (Kd.C_below HCA.out (by repeat (first | exact Below.refl _ _ | apply below_drew))) hbf); clear hCb hcb; have bf : Below wz.heap.size wz wf := below_then (by repeat (first | exact BF.out | exact Below.refl _ _ | apply below_drew)) (by first | exact BF.out.size | simp; done | omega | (simp; omega)) hbf; have BF := Lib.hid bf; clear hbf bf) | (go_at_call 26; refine (HSM.out _ _ _ _ _ (Kd.C_below HCA2.out (by repeat (first | exact Below.refl _ _ | apply below_drew))) HCAc.out (Kd.C_below HCB.out (by repeat (first | exact Below.refl _ _ | apply below_drew))) HCBc.out).mono ?_; rintro e wf ⟨rfl, hbf⟩; have bf : Below wz.heap.size wz wf := below_then (by repeat (first | exact BF.out | exact Below.refl _ _ | apply below_drew)) (by first | exact BF.out.size | simp; done | omega | (simp; omega)) hbf; have BF := Lib.hid bf; clear hbf bf) | (go_at_call 16; refine (HLV.out _ (by repeat (first | exact BF.out | exact Below.refl _ _ | apply below_drew))).mono ?_; rintro e wf ⟨rfl, hbf⟩; have bf : Below wz.heap.size wz wf := below_then (by repeat (first | exact BF.out | exact Below.refl _ _ | apply below_drew)) (by first | exact BF.out.size | simp; done | omega | (simp; omega)) hbf; have BF := Lib.hid bf; clear hbf bf))) | fail
            all_goals (go_wp2_with fail; go_meet; exact ⟨rfl, (by repeat (first | exact BF.out | exact Below.refl _ _ | apply below_drew))⟩)
        case rest =>
          obtain ⟨rfl, hb7⟩ := hcut
          have HPS7 := Lib.hid (HPS.out.below hb7)
          clear hb7 r0 r1 r2 HAL HRA HLV
          go_wp2_with fail
          go_roundw
          case rel => exact ⟨i + 1, by omega, by omega, by go_num, G, f, al, HPS7.out, HGD2.out, hal0, hal, hG⟩
          case measure => simp [intOf]; omega
    · have hnlt : ¬ (i : Int) < (n : Int) ∨ ((i : Int) < (n : Int) ∧ ¬ (i : Int) < 24) := by omega
      have HBL := Lib.hid hps.bel
      clear hps hgood HPS hlt
      rcases hnlt with h1 | ⟨h1, h2⟩
      all_goals
        go_wp2_with (go_at_call 15; refine (lives_any _).mono ?_; rintro e w' ⟨rfl, hb⟩)
        go_ret
        exact ⟨rfl, HBL.out.trans (hb.mono HBL.out.size)⟩
end Go.Proofs.Ythdcffbifgifeaa
