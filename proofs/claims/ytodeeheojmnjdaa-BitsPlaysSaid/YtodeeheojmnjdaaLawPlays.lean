/- The walk of BitsPlays. -/
import Derived.Test.YtodeeheojmnjdaaRef
import Derived.ChangeSlices
namespace Go.Proofs.Ytodeeheojmnjdaa
open Go.RowKit
set_option linter.unusedVariables false

/-- A []int among the arguments. -/
def InInts (W : World) (v : Value) (l : List Int) : Prop :=
  (∃ A c, v = .slice A l.length c ∧ l.length ≤ c ∧ c ≤ 9223372036854775807 ∧ (0 < c → ∃ b o, A = some ⟨b, o, none⟩) ∧ ∀ b o, A = some ⟨b, o, none⟩ → ∀ j, j < l.length → W.cell? ⟨b, o + j, none⟩ = some (.int .i64 (l.getD j 0))) ∧ ∀ x ∈ l, (Lit.int .i64 x).wf = true
section
open Go.ChangeShapes Go.WideShapes
theorem open_ints' {H : Type} {enc : TypeId × Value → H} {W : World} {r : Reach} {b0 base : Nat} {v : Value} {d : DataW H} {p : List MemPlace} (hv : Value.okWide Try.prog W r b0 23 v) (h : DataW.Trod enc Try.prog W base (fun _ => true) true 23 v d p) :
    ∃ l, InInts W v l := by
  obtain ⟨a, len, cap, rfl⟩ := okWide_slice Try.underlying23 hv
  obtain ⟨fuel, hf⟩ := h
  rcases Go.ChangeShapes.open_ints Try.underlying23 Try.underlying3 (by kernel_rfl) hf with ⟨hcs, _⟩ | ⟨x, l, c, zs, hcs, _, hl, hm, hz, _, hcell, hwz⟩
  · simp [Value.cells] at hcs
    obtain ⟨rfl, rfl, rfl⟩ := hcs
    exact ⟨[], ⟨none, 0, rfl, by simp, by simp, by simp, by simp⟩, by simp⟩
  · simp [Value.cells] at hcs
    obtain ⟨rfl, rfl, rfl⟩ := hcs
    simp at hz
    obtain rfl : cap = zs.length := hz.symm
    have hlt : (zs.take len).length = len := by simp; omega
    have hml := hm
    simp only [maxLen] at hml
    refine ⟨zs.take len, ⟨some x, zs.length, by rw [hlt], by omega, by omega, ?_, ?_⟩, fun y hy => hwz y (List.mem_of_mem_take hy)⟩
    · intro hc0
      have h0 := addr_plain (k := 0) (hcell 0 hc0)
      refine ⟨x.block, x.off, ?_⟩
      have : x.add 0 = x := by simp [Addr.add]
      rw [← this, h0]
    · intro b o hb j hj
      injection hb with hb
      rw [hlt] at hj
      have := hcell j (by omega)
      rw [addr_plain (hcell 0 (by omega)), hb] at this
      rw [this]
      simp [List.getD_eq_getElem?_getD, hj]
end

theorem few_fix (v : Value) (l : List Bool) (B k : Nat) (w : World) (H : BB w B v l) (hk : k ≤ 1000) :
    ∃ v', BB w B v' (l.take k) ∧ ∀ W, Calls Try.prog 9 #[v, .int .i64 k] W fun e w' => e = .returned v' ∧ w' = W := by
  obtain ⟨A, c, rfl, h1, h2⟩ := H.shape
  obtain ⟨n, hn, hmin⟩ : ∃ n : Nat, n = min l.length k ∧ (if k < l.length then (k : Int) else (l.length : Int)) = (n : Int) := by
    by_cases h : k < l.length
    · exact ⟨k, by omega, by rw [if_pos h]⟩
    · exact ⟨l.length, by omega, by rw [if_neg h]⟩
  have hn0 : (0 : Int) ≤ (n : Int) := by omega
  have hn2 : (n : Int) ≤ (c : Int) := by omega
  have hn3 : n ≤ c := by omega
  have HT : BB w B (.slice A n c) (l.take k) := by
    rw [show l.take k = l.take n by rw [List.take_eq_take_iff]; omega]
    exact H.take (by omega)
  refine ⟨_, HT, fun W => ?_⟩
  clear HT H hn
  go_enter Try.func9, Try.ntmps9
  go_wp2
  go_ret
  exact ⟨rfl, rfl⟩

/-- A stream, and the document's in block sb. -/
structure BS (w W : World) (sb bs : Nat) (T : List Bool) (k : Nat) (R : List Bool) (j : Nat) : Prop where
  s : SAt W bs T k
  q : ∃ v, W.heap[sb]? = some (.cells #[v, .int .i64 j] 28 (0, 0)) ∧ BB W 0 v R
  ne : sb ≠ bs
  bel : Below w.heap.size w W
  lo1 : w.heap.size ≤ sb
  lo2 : w.heap.size ≤ bs
theorem row_nobool {W : World} {sb j : Nat} {v : Value} {R : List Bool} (hs : W.heap[sb]? = some (.cells #[v, .int .i64 j] 28 (0, 0))) (hv : BB W 0 v R) (o : Nat) (x : Bool) : W.cell? ⟨sb, o, none⟩ ≠ some (.bool x) := by
  obtain ⟨A, c, rfl, _⟩ := hv.shape
  rw [cell_of_row W sb o _ _ _ hs]
  rcases o with _ | _ | o <;> simp
theorem BS.blt {w W : World} {sb bs k j : Nat} {T R : List Bool} (h : BS w W sb bs T k R j) : sb < W.heap.size := by
  obtain ⟨v, hs, _⟩ := h.q
  exact (Array.getElem?_eq_some_iff.1 hs).1
theorem BS.below {w W w' : World} {sb bs k j : Nat} {T R : List Bool} (h : BS w W sb bs T k R j) (hb : Below W.heap.size W w') : BS w w' sb bs T k R j := by
  have hl := h.blt
  obtain ⟨v, hs, hv⟩ := h.q
  exact ⟨h.s.below hb, ⟨v, (hb.block _ hl).trans hs, hv.below hb⟩, h.ne, h.bel.trans (hb.mono h.bel.size), h.lo1, h.lo2⟩
theorem BS.only {w W w' : World} {sb bs k j k' : Nat} {T R T' : List Bool} (h : BS w W sb bs T k R j) (hs' : SAt w' bs T' k') (ho : Only1 bs W w') : BS w w' sb bs T' k' R j := by
  have hl := h.blt
  obtain ⟨v, hs, hv⟩ := h.q
  exact ⟨hs', ⟨v, (ho.far _ hl h.ne).trans hs, hv.other h.s ho⟩, h.ne, h.bel.trans (ho.below h.lo2 h.bel.size), h.lo1, h.lo2⟩
theorem BS.store {w W : World} {sb bs k j j' : Nat} {T R R' : List Bool} {v' : Value} (h : BS w W sb bs T k R j) (hv' : BB W 0 v' R') : BS w ((W.setCell ⟨sb, 0, none⟩ v').setCell ⟨sb, 1, none⟩ (.int .i64 j')) sb bs T k R' j' := by
  obtain ⟨v, hs, hv⟩ := h.q
  have k1 := Go.heap_setCell_same W sb 0 _ 28 v' hs
  have k2 := Go.heap_setCell_same _ sb 1 _ 28 (.int .i64 j') k1
  have far : ∀ i, i ≠ sb → ((W.setCell ⟨sb, 0, none⟩ v').setCell ⟨sb, 1, none⟩ (.int .i64 j')).heap[i]? = W.heap[i]? := fun i hi => by
    rw [Go.heap_setCell_other _ _ _ _ (by exact hi), Go.heap_setCell_other _ _ _ _ (by exact hi)]
  obtain ⟨vs, hss, hvs⟩ := h.s.s
  have nb : ∀ b o x, W.cell? ⟨b, o, none⟩ = some (.bool x) → b ≠ sb := fun b o x hc e => row_nobool hs hv o x (e ▸ hc)
  refine ⟨⟨⟨vs, (far _ (Ne.symm h.ne)).trans hss, hvs.keepAt fun b o x _ hc => far b (nb b o x hc)⟩, h.s.al, h.s.ll⟩, ⟨v', by rw [k2]; simp, hv'.keepAt fun b o x _ hc => far b (nb b o x hc)⟩, h.ne, (h.bel.setCell (show w.heap.size ≤ sb from h.lo1) _).setCell (show w.heap.size ≤ sb from h.lo1) _, h.lo1, h.lo2⟩

/-- What was told, and how many, behind one call. -/
def nx (T : List Bool) (k : Nat) : Nat := if k < T.length then k + 1 else k
theorem nx_le {T : List Bool} {k : Nat} (h : k ≤ T.length) : nx T k ≤ T.length := by unfold nx; split <;> omega
theorem BS.next {w W : World} {sb bs k j : Nat} {T R : List Bool} (h : BS w W sb bs T k R j) :
    Calls Try.prog 12 #[.pointer (some ⟨bs, 0, none⟩)] W fun e w' => e = .returned (.bool (T.getD k false)) ∧ BS w w' sb bs T (nx T k) R j ∧ Only1 bs W w' := by
  have al := h.s.al
  unfold nx
  rcases Nat.lt_or_ge k T.length with hk | hk
  · rw [if_pos hk]
    refine (next_some bs k T W h.s hk).mono ?_
    rintro e w' ⟨rfl, hs, ho⟩
    exact ⟨rfl, h.only hs ho, ho⟩
  · obtain rfl : k = T.length := by omega
    rw [if_neg (by omega)]
    refine (next_none bs T W h.s).mono ?_
    rintro e w' ⟨rfl, n, rfl⟩
    exact ⟨by simp, h.below (below_drewN (Below.refl _ _) n), ⟨rfl, rfl, rfl, Nat.le_refl _, fun _ _ _ => rfl⟩⟩
theorem ref_next_any (T : List Bool) (k : Nat) (v : Value) (w : World) (H : BB w 0 v (T.drop k)) (hk : k ≤ T.length) (hl : T.length ≤ 1000) :
    Calls Try.prog 11 #[.agg #[v, .int .i64 k]] w fun e w' => ∃ v', e = .returned (.tuple #[.agg #[v', .int .i64 (nx T k)], .bool (T.getD k false)]) ∧ BB w' 0 v' (T.drop (nx T k)) ∧ Below w.heap.size w w' := by
  unfold nx
  rcases Nat.lt_or_ge k T.length with h | h
  · rw [if_pos h]
    refine (ref_next_some k v 0 _ w H (by simp; omega) (by omega)).mono ?_
    rintro e w' ⟨v', rfl, hv, hb⟩
    refine ⟨v', ?_, by simpa [Nat.add_comm] using hv, hb⟩
    have : (T.drop k).getD 0 false = T.getD k false := by simp [List.getD_eq_getElem?_getD]
    rw [this]
    rfl
  · rw [if_neg (by omega)]
    have e0 : T.drop k = [] := List.drop_eq_nil_of_le h
    rw [e0] at H ⊢
    refine (ref_next_none k v 0 w H).mono ?_
    rintro e w' ⟨rfl, hb⟩
    refine ⟨v, ?_, H.below hb, hb⟩
    have : T.getD k false = false := by simp [List.getD_eq_getElem?_getD, h]
    rw [this]

set_option maxRecDepth 100000 in
set_option maxHeartbeats 2000000 in
theorem law_plays (v : Value) (l : List Bool) (cv : Value) (cs : List Int) (mv : Value) (ms : List Bool) (w : World) (H : BB w 0 v l) (HC : InInts w cv cs) (HM : BB w 0 mv ms) :
    Calls Try.prog 3 #[v, cv, mv] w fun e w' => e = .returned (.bool true) ∧ Below w.heap.size w w' := by
  obtain ⟨⟨A, c, rfl, hlc, hcm, hA, hcell⟩, hwf⟩ := HC
  have HAA := Lib.hid hA
  have HCC := Lib.hid hcell
  have HWF := Lib.hid hwf
  have HF := Lib.hid (fun W (h : Below w.heap.size w W) => few_any v l 0 12 W (H.below h) (by omega))
  have HGX := Lib.hid (few_fix mv ms 0 4 w HM (by omega))
  obtain ⟨A1, c1, rfl, _⟩ := H.shape
  obtain ⟨A2, c2, rfl, _⟩ := HM.shape
  clear H HM hA hcell hwf
  have hcl : (cs.length : Int) ≤ 9223372036854775807 := by omega
  have hl : (l.take 12).length ≤ 12 := by simp; omega
  have hm : (ms.take 4).length ≤ 4 := by simp; omega
  generalize l.take 12 = L at *
  generalize ms.take 4 = M at *
  have HL := Lib.hid hl
  have HML := Lib.hid hm
  clear hl hm
  go_enter Try.func3, Try.ntmps3
  go_wp2_with fail
  refine (HF.out _ (Below.refl _ _)).mono ?_
  rintro e w' ⟨y1, rfl, hy1, rfl⟩
  have HY := Lib.hid hy1
  clear hy1
  go_wp2_with fail
  refine (new_any L _ w HY.out (by have := HL.out; omega)).mono ?_
  rintro e w1 ⟨bs, hbs, rfl, hs, hb⟩
  have HS := Lib.hid hs
  have HB := Lib.hid hb
  clear hs hb HY
  go_wp2_with fail
  refine (HF.out _ HB.out).mono ?_
  rintro e w' ⟨y2, rfl, hy2, rfl⟩
  obtain ⟨A3, c3, rfl, _⟩ := hy2.shape
  have HBS := Lib.hid (show BS w (w1.alloc (.cells #[.slice A3 L.length c3, .int .i64 ((0 : Nat) : Int)] 28)) w1.heap.size bs L 0 (L.drop 0) 0 from
    ⟨HS.out.below ((Below.refl _ _).alloc (Nat.le_refl _) _), ⟨_, heap_alloc_new _ _, hy2.below ((Below.refl _ _).alloc (Nat.le_refl _) _)⟩, by have := HS.out.blt; omega, HB.out.alloc HB.out.size _, HB.out.size, hbs⟩)
  clear hy2 HS HB
  go_wp2_with fail
  obtain ⟨sb, hsb⟩ : ∃ sb, sb = w1.heap.size := ⟨_, rfl⟩
  rw [← hsb] at HBS ⊢
  clear hsb
  go_loopw [9, 10, 11, 12] (fun c _ _ _ wr => ∃ (i k : Nat) (T : List Bool), i ≤ 6 ∧ i ≤ cs.length ∧ c = .int .i64 i ∧ T.length ≤ 12 + 4 * i ∧ BS w wr sb bs T k (T.drop k) k) (fun c _ _ _ _ => 6 - (intOf c).toNat)
  case atStart => exact ⟨0, 0, L, by omega, by omega, rfl, by have := HL.out; omega, HBS.out⟩
  case round =>
    obtain ⟨i, k, T, hi, hic, rfl, hT, hbs0⟩ := hrel
    clear HBS
    have HBS := Lib.hid hbs0
    by_cases hlt : i < cs.length ∧ i < 6
    · obtain ⟨hic, hi6⟩ := hlt
      have hici : (i : Int) < (cs.length : Int) := by omega
      have hi6i : (i : Int) < 6 := by omega
      obtain ⟨ab, ao, rfl⟩ := HAA.out (by omega)
      have d0 := cell_below hbs0.bel (HCC.out ab ao rfl i hic)
      obtain ⟨t, t0, t1, hT2⟩ := around_some (cs.getD i 0) 5 (by omega) (by omega) (HWF.out _ (by simp [List.getD_eq_getElem?_getD, List.getElem?_eq_getElem hic]))
      obtain ⟨t, rfl⟩ := Int.eq_ofNat_of_zero_le t0
      obtain ⟨x, hx⟩ : ∃ x, x = cs.getD i 0 := ⟨_, rfl⟩
      rw [← hx] at d0 hT2
      have HT2 := Lib.hid hT2
      clear hx hT2 hbs0
      go_wp2_with fail
      refine (HT2.out _).mono ?_
      rintro e w' ⟨rfl, rfl⟩
      go_wp2_with fail
      go_loopw [10, 11, 12] (fun tv _ _ wr => ∃ (t k : Nat), tv = .int .i64 t ∧ t ≤ 5 ∧ BS w wr sb bs T k (T.drop k) k) (fun tv _ _ _ => (intOf tv).toNat)
      case atStart => exact ⟨t, k, rfl, by omega, HBS.out⟩
      case round =>
        obtain ⟨t, k, rfl, ht5, hbs0⟩ := hrel
        clear HBS
        have HBS := Lib.hid hbs0
        have hkT := hbs0.s.al
        obtain ⟨v0, hs0, hv0⟩ := hbs0.q
        obtain ⟨A4, c4, rfl, _⟩ := hv0.shape
        have HV0 := Lib.hid hv0
        have hsb0 := hbs0.blt
        have c0 := cell_of_row _ sb 0 _ _ _ hs0
        have c1' := cell_of_row _ sb 1 _ _ _ hs0
        have f0 := frozen_of_row _ sb 0 _ _ hs0
        have f1 := frozen_of_row _ sb 1 _ _ hs0
        simp at c0 c1'
        obtain ⟨wo, rfl⟩ : ∃ wo : World, wo = wr := ⟨_, rfl⟩
        clear hbs0 hs0 hv0
        by_cases ht0 : 0 < t
        · have hti : (0 : Int) < (t : Int) := by omega
          obtain ⟨n4, hn4⟩ : ∃ n4, n4 = (T.drop k).length := ⟨_, rfl⟩
          replace c0 : wo.cell? ⟨sb, 0, none⟩ = some (.slice A4 n4 c4) := by rw [hn4]; simpa using c0
          have HV := Lib.hid (show BB wo 0 (.slice A4 n4 c4) (T.drop k) by rw [hn4]; exact HV0.out)
          have HRN := Lib.hid (ref_next_any T k _ wo HV.out hkT (by omega))
          have HNX := Lib.hid (nx_le hkT)
          have HNT := Lib.hid (fun W R j (h : BS w W sb bs T k R j) => h.next)
          clear hn4 HV0 d0
          obtain ⟨k2, hk2⟩ : ∃ k2, k2 = nx T k := ⟨_, rfl⟩
          rw [← hk2] at HRN HNX
          simp only [← hk2] at HNT
          generalize T.getD k false = y at *
          clear hk2
          go_wp2_with fail
          refine HRN.out.mono ?_
          rintro e w2 ⟨v', rfl, hv', hb⟩
          obtain ⟨A5, c5, rfl, _⟩ := hv'.shape
          obtain ⟨n5, hn5⟩ : ∃ n5, n5 = (T.drop k2).length := ⟨_, rfl⟩
          rw [← hn5] at hv' ⊢
          have hs2 := hb.size
          have hsb2 : sb < w2.heap.size := by omega
          have hne2 : sb ≠ w2.heap.size := by omega
          obtain ⟨hc2, hf2⟩ := bcell hb
          have HP2 := Lib.hid ((HBS.out.below hb).store (j' := k2) hv')
          clear hb hv' hn5 HRN HV HBS
          go_upto_region 13 with (fail)
          have hp3 := HP2.out.below ((Below.refl _ _).alloc (Nat.le_refl _) (.cells #[.slice A5 n5 c5, .int .i64 k2] 28))
          obtain ⟨w3, hw3⟩ : ∃ w3 : World, w3 = (((w2.setCell ⟨sb, 0, none⟩ (.slice A5 n5 c5)).setCell ⟨sb, 1, none⟩ (.int .i64 k2)).alloc (.cells #[.slice A5 n5 c5, .int .i64 k2] 28)) := ⟨_, rfl⟩
          rw [← hw3] at hp3 ⊢
          have HP3 := Lib.hid hp3
          clear hp3 HP2 hw3 hc2 hf2 c0 c1' f0 f1
          obtain ⟨v3, hs3, hv3⟩ := HP3.out.q
          have c1' := cell_of_row _ sb 1 _ _ _ hs3
          simp at c1'
          have hneb := HP3.out.ne
          have hsb3 := HP3.out.blt
          clear hs3 hv3
          have HNW := Lib.hid (fun W (h : Below w3.heap.size w3 W) => HNT.out W _ _ (HP3.out.below h))
          go_cut [56] (fun b wx => b = .bool false ∧ BS w wx sb bs T k2 (T.drop k2) k2)
          case first =>
            go_region_held3 (fun w' => w'.cell? ⟨sb, 1, none⟩ = some (Value.int .i64 k2)) (first | (go_keep; done) | exact d5) (first | (go_at_call 12; refine (HNW.out _ (by repeat (first | exact Below.refl _ _ | apply below_drew))).mono ?_; rintro e w5 ⟨rfl, hb5, ho5⟩; have d5 := (World.cell?_of_block (a := ⟨sb, 1, none⟩) (ho5.far sb hsb3 hneb)).trans (show _ = _ from c1'); have HB5 := Lib.hid hb5; have HAT := Lib.hid (fun W (h : Below w5.heap.size w5 W) => at_any _ _ _ W (hb5.s.below h)); clear ho5 hb5) | (go_at_call 13; refine (HAT.out _ (by repeat (first | exact Below.refl _ _ | apply below_drew))).mono ?_; rintro e w6 ⟨rfl, rfl⟩))
            all_goals (go_wp2_with fail; go_meet; exact ⟨rfl, HB5.out.below (by repeat (first | exact Below.refl _ _ | apply below_drew))⟩)
          case rest =>
            obtain ⟨rfl, hb5⟩ := hcut
            have HB5 := Lib.hid hb5
            clear hb5 HP3
            go_wp2
            go_roundw
            case rel => exact ⟨t - 1, k2, by rw [show ((t - 1 : Nat) : Int) = (t : Int) - 1 by omega], by omega, HB5.out⟩
            case measure => simp [intOf]; omega
        · have e : t = 0 := by omega
          subst e
          obtain ⟨n4, hn4⟩ : ∃ n4, n4 = (T.drop k).length := ⟨_, rfl⟩
          replace c0 : wo.cell? ⟨sb, 0, none⟩ = some (.slice A4 n4 c4) := by rw [hn4]; simpa using c0
          have HV := Lib.hid (show BB wo 0 (.slice A4 n4 c4) (T.drop k) by rw [hn4]; exact HV0.out)
          have HBW := Lib.hid HBS.out.bel
          have HTL := Lib.hid hT
          obtain ⟨m1, hm1, hm2⟩ := HGX.out
          have HM1 := Lib.hid hm1
          have HM2 := Lib.hid hm2
          have HAD := Lib.hid (fun W mv' (hm : BB W 0 mv' M) (h : Below wo.heap.size wo W) => ref_add_any k _ mv' 0 (T.drop k) M W (HV.out.below h) hm (by have := HML.out; simp; omega))
          clear HV0 d0 hn4 hm1 hm2
          go_upto_region 15 with (fail)
          go_still_tail 3, (by kernel_rfl)
          still_call (HM2.out _)
          refine wpStill_nil ?_
          change wpList _ _ _ _ _ wo.drew
          have HS2 := Lib.hid (HBS.out.below (below_drew (Below.refl _ _)))
          have HAD2 := Lib.hid (HAD.out wo.drew m1 (HM1.out.below (HBW.out.drew)) (below_drew (Below.refl _ _)))
          replace c0 : wo.drew.cell? ⟨sb, 0, none⟩ = _ := c0
          replace c1' : wo.drew.cell? ⟨sb, 1, none⟩ = _ := c1'
          replace f0 : wo.drew.frozen? ⟨sb, 0, none⟩ = _ := f0
          replace f1 : wo.drew.frozen? ⟨sb, 1, none⟩ = _ := f1
          have hsb0 : sb < wo.drew.heap.size := hsb0
          clear HBS HAD HV
          generalize wo.drew = w1 at *
          go_wp2_with fail
          refine HAD2.out.mono ?_
          rintro e w2 ⟨v', rfl, hv', hb⟩
          obtain ⟨A5, c5, rfl, _⟩ := hv'.shape
          obtain ⟨n5, hn5⟩ : ∃ n5, n5 = (T.drop k ++ M).length := ⟨_, rfl⟩
          rw [← hn5] at hv' ⊢
          have hsb2 : sb < w2.heap.size := by have := hb.size; omega
          obtain ⟨hc2, hf2⟩ := bcell hb
          have hp2 := (HS2.out.below hb).store (j' := k) (hv'.mono (Nat.zero_le _))
          obtain ⟨w3, hw3⟩ : ∃ w3 : World, w3 = (w2.setCell ⟨sb, 0, none⟩ (.slice A5 n5 c5)).setCell ⟨sb, 1, none⟩ (.int .i64 k) := ⟨_, rfl⟩
          have HW3 := Lib.hid hw3
          rw [← hw3] at hp2
          have HP2 := Lib.hid hp2
          have HAA2 := Lib.hid (add_any bs k T M m1 w3 hp2.s (HM1.out.below hp2.bel) (by have := HML.out; omega))
          clear hb hv' hn5 HAD2 HS2 hp2 hw3
          go_wp2_with fail
          refine (HM2.out _).mono ?_
          rintro e w' ⟨rfl, rfl⟩
          go_wp2_with fail
          rw [← HW3.out]
          refine HAA2.out.mono ?_
          rintro e wq ⟨rfl, hs3, ho3⟩
          have hp3 := HP2.out.only hs3 ho3
          rw [show T.drop k ++ M = (T ++ M).drop k by rw [List.drop_append_of_le_length hkT]] at hp3
          have HP3 := Lib.hid hp3
          obtain ⟨v6, hs6, hv6⟩ := hp3.q
          obtain ⟨A6, c6, rfl, _⟩ := hv6.shape
          obtain ⟨n6, hn6⟩ : ∃ n6, n6 = ((T ++ M).drop k).length := ⟨_, rfl⟩
          rw [← hn6] at hs6 hv6
          have HV6 := Lib.hid hv6
          have c6' := cell_of_row _ sb 0 _ _ _ hs6
          simp at c6'
          have hTM : (T ++ M).length ≤ 12 + 4 * (i + 1) := by have := HML.out; have := HTL.out; simp; omega
          have HLF := Lib.hid (fun W (h : Below wq.heap.size wq W) => left_any bs k (T ++ M) W (HP3.out.s.below h))
          have HSM := Lib.hid (fun W vl B (h1 : BB W B vl ((T ++ M).drop k)) (h : Below wq.heap.size wq W) => same_any vl (.slice A6 n6 c6) ((T ++ M).drop k) B 0 W h1 (HV6.out.below h))
          clear c0 c1' f0 f1 hc2 hf2 hs3 ho3 hp3 hs6 hv6 hn6 HAA2 HP2 HW3
          generalize T ++ M = T2 at *
          go_upto_region 17 with (fail)
          go_cut [70] (fun b wx => b = .bool false ∧ BS w wx sb bs T2 k (T2.drop k) k)
          case first =>
            go_region_held3 (fun w' => w'.cell? ⟨sb, 0, none⟩ = some (.slice A6 n6 c6)) (first | (go_keep; done) | (exact cell_below (w := wq) (by repeat (first | exact BF.out | exact Below.refl _ _ | apply below_drew)) c6')) (first | (go_at_call 17; refine (HLF.out _ (by repeat (first | exact BF.out | exact Below.refl _ _ | apply below_drew))).mono ?_; rintro e w5 ⟨vl, rfl, hown, hbf⟩; have HOL := Lib.hid (own_BB hown); clear hown; have bf : Below wq.heap.size wq w5 := below_then (by repeat (first | exact BF.out | exact Below.refl _ _ | apply below_drew)) (by first | simp; done | omega | (simp; omega)) hbf; have q4 := bf.size; have BF := Lib.hid bf; clear hbf bf) | (go_at_call 16; refine (HSM.out _ _ _ (HOL.out.below (by repeat (first | exact Below.refl _ _ | apply below_drew))) (by repeat (first | exact BF.out | exact Below.refl _ _ | apply below_drew))).mono ?_; rintro e w5 ⟨rfl, hbf⟩; have bf : Below wq.heap.size wq w5 := below_then (by repeat (first | exact BF.out | exact Below.refl _ _ | apply below_drew)) (by first | simp; done | omega | (simp; omega)) hbf; have q4 := bf.size; have BF := Lib.hid bf; clear hbf bf))
            all_goals (go_wp2_with fail; go_meet; exact ⟨rfl, HP3.out.below (by repeat (first | exact BF.out | exact Below.refl _ _ | apply below_drew))⟩)
          case rest =>
            obtain ⟨rfl, hb5⟩ := hcut
            have HB5 := Lib.hid hb5
            clear hb5 HP3
            go_wp2
            go_roundw
            case rel => exact ⟨i + 1, k, T2, by omega, by omega, by go_num, hTM, HB5.out⟩
            case measure => simp [intOf]; omega
    · clear hbs0
      by_cases hkl2 : i < cs.length
      · have hi1 : (i : Int) < cs.length := by omega
        have hi2 : ¬ (i : Int) < 6 := by omega
        go_wp2_with (go_at_call 18; refine (lives_any _).mono ?_; rintro e w' ⟨rfl, hb⟩)
        go_ret
        exact ⟨rfl, HBS.out.bel.trans (hb.mono HBS.out.bel.size)⟩
      · have hi1 : ¬ (i : Int) < cs.length := by omega
        go_wp2_with (go_at_call 18; refine (lives_any _).mono ?_; rintro e w' ⟨rfl, hb⟩)
        go_ret
        exact ⟨rfl, HBS.out.bel.trans (hb.mono HBS.out.bel.size)⟩
end Go.Proofs.Ytodeeheojmnjdaa
