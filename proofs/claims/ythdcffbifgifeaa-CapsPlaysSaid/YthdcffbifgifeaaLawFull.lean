/- The walk of CapsFull. -/
import Derived.Test.YthdcffbifgifeaaSt
namespace Go.Proofs.Ythdcffbifgifeaa
open Go.RowKit
set_option linter.unusedVariables false

/-- Those that were minted, as capabilities. -/
def capl (E m : Nat) : List (Int × Int) := (List.range m).map fun j : Nat => ((j : Int) + 1, (E : Int) * 1048576 + ((j : Int) + 1))
theorem capl_len (E m : Nat) : (capl E m).length = m := by simp [capl]
theorem capl_succ (E m : Nat) : capl E (m + 1) = capl E m ++ [((m : Int) + 1, (E : Int) * 1048576 + ((m : Int) + 1))] := by simp [capl, List.range_succ]
theorem capl_get (E m j : Nat) (h : j < m) : (capl E m)[j]? = some ((j : Int) + 1, (E : Int) * 1048576 + ((j : Int) + 1)) := by simp [capl, h]
theorem own_keep {w w' : World} {base : Nat} {e : TypeId} {size n : Nat} {v : Value} {xs : List Value} (h : w.ownsRow base e size v n xs) (hk : ∀ k, base ≤ k → k < w.heap.size → w'.heap[k]? = w.heap[k]?) : w'.ownsRow base e size v n xs := by
  obtain ⟨h1, h2⟩ := h
  refine ⟨h1, ?_⟩
  rcases h2 with h2 | ⟨g, cap, cur, hv, hg, hh, r⟩
  · exact .inl h2
  · exact .inr ⟨g, cap, cur, hv, hg, (hk g hg (Array.getElem?_eq_some_iff.1 hh).1).trans hh, r⟩

/-- A table in which rs were minted by the root, and the row of them. -/
structure MS (w wr : World) (b E : Nat) (va : Value) (rs : List Int) : Prop where
  t : TAt wr b E (rs.length + 1) (stL E rs)
  o : wr.ownsRow (b + 1) 28 2 va rs.length (capv (capl E rs.length))
  bel : Below w.heap.size w wr
  lb : w.heap.size ≤ b
theorem MS.below {w wr w' : World} {b E : Nat} {va : Value} {rs : List Int} (h : MS w wr b E va rs) (hb : Below wr.heap.size wr w') : MS w w' b E va rs :=
  ⟨h.t.below hb, own_below h.o hb, h.bel.trans (hb.mono h.bel.size), h.lb⟩
theorem MS.code {w wr : World} {b E : Nat} {va : Value} {rs : List Int} (h : MS w wr b E va rs) {r : Int} (h0 : 0 ≤ r) (h1 : r < 16) (hl : rs.length ≤ 7) :
    mcode (stL E rs) (rs.length + 1) 0 ((E : Int) * 1048576) r = if rs.length < 7 then 0 else 13 := by
  rw [(stL_root E rs).mcode h0 h1, stL_fre]
  by_cases hk : rs.length < 7
  · rw [if_pos hk, if_pos hk, if_neg (by omega)]
  · rw [if_neg hk, if_neg hk, if_pos (by omega)]
theorem MS.mint {w wr : World} {b E : Nat} {va : Value} {rs : List Int} (h : MS w wr b E va rs) {r : Int} (h0 : 0 ≤ r) (h1 : r < 16) (hl : rs.length < 7) :
    Calls Try.prog 12 #[.pointer (some ⟨b, 0, none⟩), .agg #[.int .i64 0, .int .i64 (E * 1048576)], .int .i64 r] wr fun e w' =>
      e = .returned (.tuple #[.agg #[.int .i64 ((rs.length : Int) + 1), .int .i64 (E * 1048576 + ((rs.length : Int) + 1))], .int .i64 0]) ∧
        TAt w' b E (rs.length + 1 + 1) (stL E (rs ++ [r])) ∧ w'.ownsRow (b + 1) 28 2 va rs.length (capv (capl E rs.length)) ∧ Below w.heap.size w w' := by
  have hm := h.code h0 h1 (by omega)
  rw [if_pos hl] at hm
  have hf := stL_fre E rs
  rw [if_pos hl] at hf
  refine (mint_any b E (rs.length + 1) (stL E rs) 0 (E * 1048576) r wr h.t).mono ?_
  rintro e w' (⟨h2, _⟩ | ⟨_, i, hi, h2, _, _, rfl, h3, h4⟩)
  · exact absurd hm h2
  · rw [hf] at h2
    obtain rfl : i = rs.length + 1 := by omega
    rw [stL_snoc] at h3
    exact ⟨by simp, h3, own_keep h.o fun k hk hlt => h4.far k hlt (by omega), h.bel.trans (h4.below h.lb h.bel.size)⟩
theorem MS.full {w wr : World} {b E : Nat} {va : Value} {rs : List Int} (h : MS w wr b E va rs) {r : Int} (h0 : 0 ≤ r) (h1 : r < 16) (hl : rs.length = 7) :
    Calls Try.prog 12 #[.pointer (some ⟨b, 0, none⟩), .agg #[.int .i64 0, .int .i64 (E * 1048576)], .int .i64 r] wr fun e w' =>
      e = .returned (.tuple #[.agg #[.int .i64 0, .int .i64 0], .int .i64 13]) ∧ Below wr.heap.size wr w' := by
  have hm := h.code h0 h1 (by omega)
  rw [if_neg (by omega)] at hm
  refine (mint_any b E (rs.length + 1) (stL E rs) 0 (E * 1048576) r wr h.t).mono ?_
  rintro e w' (⟨_, rfl, h3⟩ | ⟨h2, _⟩)
  · rw [hm]; exact ⟨rfl, h3⟩
  · rw [hm] at h2; exact absurd h2 (by omega)
theorem MS.push {w W w1 : World} {b E : Nat} {v1 : Value} {rs : List Int} {r : Int} (ht : TAt W b E (rs.length + 1 + 1) (stL E (rs ++ [r]))) (hown : w1.ownsRow (b + 1) 28 2 v1 (rs.length + 1) (capv (capl E rs.length) ++ [.int .i64 ((rs.length : Int) + 1), .int .i64 (E * 1048576 + ((rs.length : Int) + 1))]))
    (hbel : Below (b + 1) W w1) (hw : Below w.heap.size w W) (lb : w.heap.size ≤ b) : MS w w1 b E v1 (rs ++ [r]) := by
  refine ⟨?_, ?_, hw.trans (hbel.mono (by omega)), lb⟩
  · rw [List.length_append]
    exact ht.keep (hbel.block b (by omega))
  · rw [List.length_append]
    show w1.ownsRow (b + 1) 28 2 v1 (rs.length + 1) (capv (capl E (rs.length + 1)))
    rw [capl_succ]
    simpa [capv] using hown

/-- One was revoked; one is minted in its slot. -/
def gone (E : Nat) (rs : List Int) (i : Nat) : Nat → Slot := upd (stL E rs) i (false, 0, 0)
theorem gone_root (E : Nat) (rs : List Int) {i : Nat} (hi : 1 ≤ i) : Rooted (gone E rs i) E := (stL_root E rs).upd (by omega)
theorem gone_fre (E : Nat) (rs : List Int) {i : Nat} (hi : 1 ≤ i) (hi7 : i ≤ 7) (hl : rs.length = 7) : fre (gone E rs i) 8 0 = i := by
  rw [fre_run (gone E rs i) 8 0 i (by omega) (fun j _ h => by unfold gone upd; rw [if_neg (by omega)]; exact (stL_used E rs (by omega)).1) (fun _ => by unfold gone upd; rw [if_pos rfl]), if_pos (by omega)]
theorem back_used (E : Nat) (rs : List Int) {i : Nat} (hl : rs.length = 7) (g o : Int) {j : Nat} (hj : j < 8) : (upd (gone E rs i) i (true, g, o) j).1 = true := by
  unfold upd
  by_cases h : j = i
  · rw [if_pos h]
  · rw [if_neg h]
    unfold gone upd
    rw [if_neg h]
    exact (stL_used E rs (by omega)).1
theorem back_fre (E : Nat) (rs : List Int) {i : Nat} (hl : rs.length = 7) (g o : Int) : fre (upd (gone E rs i) i (true, g, o)) 8 0 = -1 := by
  rw [fre_run _ 8 0 8 (by omega) (fun j _ h => back_used E rs hl g o h) (fun h => absurd h (by omega)), if_neg (by omega)]
theorem live_full (f : Nat → Slot) : ∀ n, (∀ j, j < n → (f j).1 = true) → (live f n).length = n
  | 0, _ => rfl
  | n + 1, h => by
    rw [live_yes f n (h n (by omega)), List.length_append, live_full f n (fun j hj => h j (by omega))]
    rfl
theorem gone_code (E : Nat) (rs : List Int) {i : Nat} (hi7 : i ≤ 7) (hl : rs.length = 7) : rvcode (stL E rs) 0 ((E : Int) * 1048576) i ((E : Int) * 1048576 + i) = 0 := by
  unfold rvcode
  rw [(stL_root E rs).code (by omega) (by omega), if_neg (by simp), stL_gd E rs (by omega) (by omega)]
  rfl

theorem revoke_gone {W : World} {b E G : Nat} {rs : List Int} {i : Nat} (h : TAt W b E G (stL E rs)) (hi7 : i ≤ 7) (hl : rs.length = 7) :
    Calls Try.prog 19 #[.pointer (some ⟨b, 0, none⟩), .agg #[.int .i64 0, .int .i64 (E * 1048576)], .agg #[.int .i64 i, .int .i64 (E * 1048576 + i)]] W fun e w' => e = .returned (.int .i64 0) ∧ TAt w' b E G (gone E rs i) ∧ Only1 b W w' := by
  have hc := gone_code E rs hi7 hl
  refine (revoke_any b E G (stL E rs) 0 (E * 1048576) i (E * 1048576 + i) W h).mono ?_
  rintro e w' (⟨h1, _⟩ | ⟨_, j, hj, h1, _, _, rfl, h2, h3⟩)
  · exact absurd hc h1
  · obtain rfl : i = j := by omega
    exact ⟨rfl, h2, h3⟩
theorem mint_back {W : World} {b E G : Nat} {rs : List Int} {i : Nat} {r : Int} (h : TAt W b E G (gone E rs i)) (h0 : 0 ≤ r) (h1 : r < 16) (hi : 1 ≤ i) (hi7 : i ≤ 7) (hl : rs.length = 7) (hG : G < 1048576) :
    Calls Try.prog 12 #[.pointer (some ⟨b, 0, none⟩), .agg #[.int .i64 0, .int .i64 (E * 1048576)], .int .i64 r] W fun e w' =>
      e = .returned (.tuple #[.agg #[.int .i64 i, .int .i64 (E * 1048576 + G)], .int .i64 0]) ∧ TAt w' b E (G + 1) (upd (gone E rs i) i (true, E * 1048576 + G, r)) ∧ Only1 b W w' := by
  have hf := gone_fre E rs hi hi7 hl
  have hm := (gone_root E rs hi).mcode (G := G) h0 h1
  rw [hf, if_neg (by omega)] at hm
  refine (mint_any b E G (gone E rs i) 0 (E * 1048576) r W h).mono ?_
  rintro e w' (⟨h2, _⟩ | ⟨_, j, hj, h2, _, _, rfl, h3, h4⟩)
  · exact absurd hm h2
  · rw [hf] at h2
    obtain rfl : i = j := by omega
    exact ⟨rfl, h3, h4⟩
theorem mint_none {W : World} {b E G : Nat} {rs : List Int} {i : Nat} {r x o : Int} (h : TAt W b E G (upd (gone E rs i) i (true, x, o))) (h0 : 0 ≤ r) (h1 : r < 16) (hi : 1 ≤ i) (hl : rs.length = 7) :
    Calls Try.prog 12 #[.pointer (some ⟨b, 0, none⟩), .agg #[.int .i64 0, .int .i64 (E * 1048576)], .int .i64 r] W fun e w' =>
      e = .returned (.tuple #[.agg #[.int .i64 0, .int .i64 0], .int .i64 13]) ∧ Below W.heap.size W w' := by
  have hf := back_fre E rs (i := i) hl x o
  have hm := ((gone_root E rs hi).upd (i := i) (s := (true, x, o)) (by omega)).mcode (G := G) h0 h1
  rw [hf, if_pos (.inl (by omega))] at hm
  refine (mint_any b E G _ 0 (E * 1048576) r W h).mono ?_
  rintro e w' (⟨_, rfl, h3⟩ | ⟨h2, _⟩)
  · rw [hm]; exact ⟨rfl, h3⟩
  · rw [hm] at h2; exact absurd h2 (by omega)

set_option maxRecDepth 100000 in
set_option maxHeartbeats 2000000 in
theorem law_full (a k0 : Int) (w : World) (ha : (Lit.int .i64 a).wf = true) (hk0 : (Lit.int .i64 k0).wf = true) :
    Calls Try.prog 8 #[.int .i64 a, .int .i64 k0] w fun e w' => e = .returned (.bool true) ∧ Below w.heap.size w w' := by
  obtain ⟨n, n0, n1, hA⟩ := around_some a 11 (by omega) (by omega) ha
  obtain ⟨n, rfl⟩ := Int.eq_ofNat_of_zero_le n0
  obtain ⟨q, q0, q1, hK⟩ := around_some k0 7 (by omega) (by omega) hk0
  obtain ⟨q, rfl⟩ := Int.eq_ofNat_of_zero_le q0
  have HA := Lib.hid hA
  have HK := Lib.hid hK
  have HNW := Lib.hid (new_good 4 w (by omega) (by omega))
  clear hA hK
  go_enter Try.func8, Try.ntmps8
  go_wp2_with fail
  refine HNW.out.mono ?_
  rintro e w1 ⟨b, hbw, rfl, ht, hb⟩
  have HM := Lib.hid (show MS w w1 b 4 (.slice none 0 0) [] from ⟨by rw [stL_nil]; exact ht, by simpa [capl, capv] using own_nil w1 (b + 1) 28 2, hb, hbw⟩)
  clear ht hb HNW
  go_wp2_with fail
  refine (HA.out _).mono ?_
  rintro e w' ⟨rfl, rfl⟩
  go_wp2_with fail
  go_loopw [8, 9, 10, 11] (fun va c _ _ wr => ∃ (i : Nat) (rs : List Int), i ≤ n ∧ c = .int .i64 i ∧ rs.length = min i 7 ∧ MS w wr b 4 va rs) (fun _ c _ _ _ => n - (intOf c).toNat)
  case atStart => exact ⟨0, [], by omega, rfl, by simp, HM.out⟩
  case round =>
    obtain ⟨i, rs, hi, rfl, hrs, hms⟩ := hrel
    clear HM
    have HM := Lib.hid hms
    have hl7 : rs.length ≤ 7 := by omega
    clear hms
    by_cases hlt : i < n
    · have hii : (i : Int) < n := by omega
      have HR := Lib.hid (root_any b 4 _ _ wr HM.out.t)
      go_wp2_with fail
      refine HR.out.mono ?_
      rintro e w2 ⟨rfl, hb2⟩
      have HM2 := Lib.hid (HM.out.below hb2)
      clear hb2 HM HR
      by_cases h7 : i < 7
      · have h7i : (i : Int) < 7 := by omega
        have HMI := Lib.hid (HM2.out.mint (r := 1) (by omega) (by omega) (by omega))
        obtain ⟨m, hm⟩ : ∃ m, m = rs.length := ⟨_, rfl⟩
        have HMM := Lib.hid hm
        have HRS := Lib.hid hrs
        rw [← hm] at HMI
        clear hm hrs hl7
        go_wp2_with fail
        refine HMI.out.mono ?_
        rintro e w3 ⟨rfl, ht, ho, hb⟩
        have HT := Lib.hid ht
        have HO := Lib.hid ho
        have HB := Lib.hid hb
        clear ht ho hb HMI
        have hbs := HB.out.size
        have HOB := Lib.hid (own_below HO.out ((Below.refl _ _).alloc (Nat.le_refl w3.heap.size) (.cells #[.int .i64 ((m : Int) + 1), .int .i64 (4194304 + ((m : Int) + 1))] 28)))
        have hblt := HT.out.blt
        have hm7 : m < 7 := by have := HMM.out; have := HRS.out; omega
        go_wp2_with (at_builtin; refine app_one HOB.out [.int .i64 ((m : Int) + 1), .int .i64 (4194304 + ((m : Int) + 1))] rfl rfl Try.underlying42 info28' rfl (by decide) rfl rfl (by simp) rfl (two_one _ _) (by simp; omega) (by omega) (by omega) ?_; intro v1 w4 hown1 hbel1 hgr)
        have HMS := Lib.hid (show MS w w4 b 4 v1 (rs ++ [1]) by
          have hw3 : Below w.heap.size w (w3.alloc (.cells #[.int .i64 ((m : Int) + 1), .int .i64 (4194304 + ((m : Int) + 1))] 28)) := HB.out.alloc hbs _
          have ht3 := HT.out.below ((Below.refl _ _).alloc (Nat.le_refl _) (.cells #[.int .i64 ((m : Int) + 1), .int .i64 (4194304 + ((m : Int) + 1))] 28))
          have e := HMM.out
          subst e
          exact MS.push ht3 (by simpa using hown1) hbel1 hw3 hbw)
        clear hown1 hbel1 hgr
        go_roundw
        case rel => exact ⟨i + 1, rs ++ [1], by omega, by go_num, by rw [List.length_append]; have := HRS.out; simp only [List.length_singleton]; omega, HMS.out⟩
        case measure => simp [intOf]; omega
      · have h7i : ¬ (i : Int) < 7 := by omega
        have HMF := Lib.hid (HM2.out.full (r := 1) (by omega) (by omega) (by omega))
        have HRS := Lib.hid hrs
        clear hrs hl7
        go_wp2_with fail
        refine HMF.out.mono ?_
        rintro e w3 ⟨rfl, hb⟩
        have HM3 := Lib.hid ((HM2.out.below hb).below ((Below.refl _ _).alloc (Nat.le_refl _) (.cells #[.int .i64 0, .int .i64 0] 28)))
        clear hb HMF
        go_wp2_with fail
        go_roundw
        case rel => exact ⟨i + 1, rs, by omega, by go_num, by have := HRS.out; omega, HM3.out⟩
        case measure => simp [intOf]; omega
    · obtain ⟨m, hm⟩ : ∃ m, m = rs.length := ⟨_, rfl⟩
      have HMM := Lib.hid hm
      have ho := HM.out.o
      rw [← hm] at ho
      obtain ⟨Av, cv, rfl⟩ := own_slice ho
      have HO := Lib.hid ho
      clear ho
      by_cases h7 : m < 7
      · have h7i : (m : Int) < 7 := by omega
        have HLV := Lib.hid (live_any b 4 _ _ wr HM.out.t)
        rw [stL_live 4 rs hl7] at HLV
        simp only [List.length_map, List.length_range] at HLV
        rw [← hm] at HLV
        have hw : IntKind.i64.wrap ((m : Int) + 1) = (m : Int) + 1 := by rw [IntKind.wrap_i64]; omega
        clear hm hrs hl7
        go_wp2_with fail
        refine HLV.out.mono ?_
        rintro e w2 ⟨rfl, hb⟩
        have HB2 := Lib.hid (HM.out.bel.trans (hb.mono HM.out.bel.size))
        clear hb
        go_wp2_with (go_at_call 15; refine (lives_any _).mono ?_; rintro e w' ⟨rfl, hb⟩)
        go_ret
        exact ⟨rfl, HB2.out.trans (hb.mono HB2.out.size)⟩
      · have h7i : ¬ (m : Int) < 7 := by omega
        obtain rfl : m = 7 := by omega
        have HL7 := Lib.hid hm.symm
        obtain ⟨g, cp, he, hg1, hg2⟩ := World.ownsRow.form HO.out (by omega)
        injection he with e1 _ e2
        subst e1 e2
        obtain ⟨h1, h2⟩ := capv_get _ _ _ (capl_get 4 7 q (by omega))
        have d0 := (HO.out.cellAt (q * 2) (by omega)).trans h1
        have d1 := (HO.out.cellAt (q * 2 + 1) (by omega)).trans h2
        have hqi : (q : Int) < 7 := q1
        have hcq : ((4 : Nat) : Int) * 1048576 + ((q : Int) + 1) = 4194304 + ((q : Int) + 1) := by omega
        dsimp only at d0 d1
        rw [hcq] at d1
        have hbn : b < wr.heap.size := HM.out.t.blt
        clear h1 h2 hm hrs hl7 hcq
        go_wp2_with fail
        refine (HK.out _).mono ?_
        rintro e w' ⟨rfl, rfl⟩
        go_upto_region 17 with (fail)
        obtain ⟨wo, hwo⟩ : ∃ wo : World, wo = wr.alloc (.cells #[.int .i64 ((q : Int) + 1), .int .i64 (4194304 + ((q : Int) + 1))] 28) := ⟨_, rfl⟩
        rw [← hwo]
        have n0 : wo.cell? ⟨wr.heap.size, 0, none⟩ = some (.int .i64 ((q : Int) + 1)) := by rw [hwo]; go_simp
        have n1 : wo.cell? ⟨wr.heap.size, 1, none⟩ = some (.int .i64 (4194304 + ((q : Int) + 1))) := by rw [hwo]; go_simp
        have hbw0 : Below wr.heap.size wr wo := by rw [hwo]; exact (Below.refl _ _).alloc (Nat.le_refl _) _
        have hnl : wr.heap.size < wo.heap.size := by rw [hwo]; simp
        have ht0 := HM.out.t.below hbw0
        rw [HL7.out] at ht0
        have HT0 := Lib.hid ht0
        have HBW := Lib.hid (HM.out.bel.trans (hbw0.mono HM.out.bel.size))
        obtain ⟨pb, hpb⟩ : ∃ pb, pb = wr.heap.size := ⟨_, rfl⟩
        rw [← hpb] at n0 n1 hnl hbn ⊢
        clear hwo hbw0 ht0 hpb d0 d1 HO
        have HRT := Lib.hid (fun W (h : Below wo.heap.size wo W) => root_any b 4 (7 + 1) (stL 4 rs) W (HT0.out.below h))
        have HRV := Lib.hid (fun W (h : Below wo.heap.size wo W) => show Calls Try.prog 19 #[.pointer (some ⟨b, 0, none⟩), .agg #[.int .i64 0, .int .i64 4194304], .agg #[.int .i64 ((q : Int) + 1), .int .i64 (4194304 + ((q : Int) + 1))]] W fun e w' => e = .returned (.int .i64 0) ∧ TAt w' b 4 (7 + 1) (gone 4 rs (q + 1)) ∧ Only1 b W w' by
          have := revoke_gone (HT0.out.below h) (i := q + 1) (by omega) HL7.out
          simpa using this)
        have hnb : pb ≠ b := by omega
        go_cut [13] (fun x wx => x = .int .i64 0 ∧ TAt wx b 4 (7 + 1) (gone 4 rs (q + 1)) ∧ wx.cell? ⟨pb, 0, none⟩ = some (.int .i64 ((q : Int) + 1)) ∧ wx.cell? ⟨pb, 1, none⟩ = some (.int .i64 (4194304 + ((q : Int) + 1))) ∧ pb < wx.heap.size ∧ Below w.heap.size w wx)
        case first =>
          go_region_held3 (fun w' => w'.cell? ⟨pb, 0, none⟩ = some (.int .i64 ((q : Int) + 1)) ∧ w'.cell? ⟨pb, 1, none⟩ = some (.int .i64 (4194304 + ((q : Int) + 1)))) (first | (go_keep; done) | (exact ⟨d5, d6⟩) | (exact ⟨cell_below (w := wo) (by repeat (first | exact BF.out | exact Below.refl _ _ | apply below_drew)) n0, cell_below (w := wo) (by repeat (first | exact BF.out | exact Below.refl _ _ | apply below_drew)) n1⟩)) (first | (go_at_call 10; refine (HRT.out _ (by repeat (first | exact BF.out | exact Below.refl _ _ | apply below_drew))).mono ?_; rintro e w5 ⟨rfl, hbf⟩; have bf : Below wo.heap.size wo w5 := below_then (by repeat (first | exact BF.out | exact Below.refl _ _ | apply below_drew)) (by first | simp; done | omega | (simp; omega)) hbf; have q4 := bf.size; have BF := Lib.hid bf; clear hbf bf) | (go_at_call 19; refine (HRV.out _ (by repeat (first | exact BF.out | exact Below.refl _ _ | apply below_drew))).mono ?_; rintro e w6 ⟨rfl, ht6, ho6⟩; have hsz6 := ho6.size; have d5 := (World.cell?_of_block (a := ⟨pb, 0, none⟩) (ho6.far pb (Nat.lt_of_lt_of_le hnl (Below.size (B := wo.heap.size) (by repeat (first | exact BF.out | exact Below.refl _ _ | apply below_drew)))) hnb)).trans (cell_below (w := wo) (by repeat (first | exact BF.out | exact Below.refl _ _ | apply below_drew)) n0); have d6 := (World.cell?_of_block (a := ⟨pb, 1, none⟩) (ho6.far pb (Nat.lt_of_lt_of_le hnl (Below.size (B := wo.heap.size) (by repeat (first | exact BF.out | exact Below.refl _ _ | apply below_drew)))) hnb)).trans (cell_below (w := wo) (by repeat (first | exact BF.out | exact Below.refl _ _ | apply below_drew)) n1); have HT6 := Lib.hid ht6; have HO6 := Lib.hid (HBW.out.trans ((Below.mono (by repeat (first | exact BF.out | exact Below.refl _ _ | apply below_drew)) HBW.out.size).trans (ho6.below hbw (Nat.le_trans HBW.out.size (Below.size (B := wo.heap.size) (by repeat (first | exact BF.out | exact Below.refl _ _ | apply below_drew))))))); clear ht6 ho6))
          all_goals (go_wp2_with fail; go_meet; exact ⟨rfl, HT6.out.below (by repeat (first | exact Below.refl _ _ | apply below_drew)), d5, d6, cell_lt d5, HO6.out.trans (Below.mono (by repeat (first | exact Below.refl _ _ | apply below_drew)) HO6.out.size)⟩)
        case rest =>
          obtain ⟨rfl, ht1, n0, n1, hpl, hb1⟩ := hcut
          have HT1 := Lib.hid ht1
          have HB1 := Lib.hid hb1
          clear ht1 hb1 HRT HRV HBW HT0 hnl
          go_wp2_with fail
          refine (root_any b 4 (7 + 1) _ wc HT1.out).mono ?_
          rintro e w2 ⟨rfl, hb⟩
          have n0 := cell_below hb n0
          have n1 := cell_below hb n1
          have HB2 := Lib.hid (HB1.out.trans (hb.mono HB1.out.size))
          have HMB := Lib.hid (show Calls Try.prog 12 #[.pointer (some ⟨b, 0, none⟩), .agg #[.int .i64 0, .int .i64 4194304], .int .i64 4] w2 fun e w' => e = .returned (.tuple #[.agg #[.int .i64 ((q : Int) + 1), .int .i64 4194312], .int .i64 0]) ∧ TAt w' b 4 (8 + 1) (upd (gone 4 rs (q + 1)) (q + 1) (true, 4194312, 4)) ∧ Only1 b w2 w' by
            have := mint_back (HT1.out.below hb) (r := 4) (by omega) (by omega) (by omega) (by omega) HL7.out (by omega)
            simpa using this)
          clear hb HT1
          go_wp2_with fail
          refine HMB.out.mono ?_
          rintro e w3 ⟨rfl, ht3, ho3⟩
          have hpl2 := cell_lt n0
          have n0 := (World.cell?_of_block (a := ⟨pb, 0, none⟩) (ho3.far pb hpl2 hnb)).trans n0
          have n1 := (World.cell?_of_block (a := ⟨pb, 1, none⟩) (ho3.far pb hpl2 hnb)).trans n1
          have hpl3 := cell_lt n0
          have HB3 := Lib.hid (HB2.out.trans (ho3.below hbw HB2.out.size))
          have HT3 := Lib.hid ht3
          clear ht3 ho3 HMB HB2
          go_wp2_with fail
          refine (root_any b 4 (8 + 1) _ _ (HT3.out.below ((Below.refl _ _).alloc (Nat.le_refl _) _))).mono ?_
          rintro e w4 ⟨rfl, hb⟩
          have m0 := (hb.cell (p := ⟨w3.heap.size, 0, none⟩) (by simp)).trans (show _ = some (.int .i64 ((q : Int) + 1)) by go_simp)
          have m1 := (hb.cell (p := ⟨w3.heap.size, 1, none⟩) (by simp)).trans (show _ = some (.int .i64 4194312) by go_simp)
          have hb3 := ((Below.refl w3.heap.size w3).alloc (Nat.le_refl _) (.cells #[.int .i64 ((q : Int) + 1), .int .i64 4194312] 28)).trans (hb.mono (by simp))
          have n0 := cell_below hb3 n0
          have n1 := cell_below hb3 n1
          have HB4 := Lib.hid (HB3.out.trans (hb3.mono HB3.out.size))
          have ht4 := HT3.out.below hb3
          have HT4 := Lib.hid ht4
          have HMN := Lib.hid (show Calls Try.prog 12 #[.pointer (some ⟨b, 0, none⟩), .agg #[.int .i64 0, .int .i64 4194304], .int .i64 4] w4 fun e w' => e = .returned (.tuple #[.agg #[.int .i64 0, .int .i64 0], .int .i64 13]) ∧ Below w4.heap.size w4 w' by
            have := mint_none ht4 (r := 4) (by omega) (by omega) (by omega) HL7.out
            simpa using this)
          clear hb hb3 ht4 HT3 HB3
          go_wp2_with fail
          refine HMN.out.mono ?_
          rintro e w5 ⟨rfl, hb⟩
          have n0 := cell_below hb n0
          have n1 := cell_below hb n1
          have m0 := cell_below hb m0
          have m1 := cell_below hb m1
          have hn5 := cell_lt n0
          have hm5 := cell_lt m0
          have HB5 := Lib.hid (HB4.out.trans (hb.mono HB4.out.size))
          have HT5 := Lib.hid (HT4.out.below hb)
          have HLV := Lib.hid (fun W (ht : TAt W b 4 (8 + 1) (upd (gone 4 rs (q + 1)) (q + 1) (true, 4194312, 4))) => live_any b 4 (8 + 1) _ W ht)
          rw [live_full _ 8 (fun j hj => back_used 4 rs HL7.out 4194312 4 hj)] at HLV
          have hgt : 4194304 + ((q : Int) + 1) < 4194312 := by omega
          clear hb HMN HT4 HB4
          go_wp2_with fail
          refine (HLV.out _ (HT5.out.below ((Below.refl _ _).alloc (Nat.le_refl _) _))).mono ?_
          rintro e w6 ⟨rfl, hb⟩
          have HB6 := Lib.hid ((HB5.out.alloc HB5.out.size _).trans (hb.mono (by have := HB5.out.size; simp; omega)))
          clear hb
          go_wp2_with (go_at_call 15; refine (lives_any _).mono ?_; rintro e w' ⟨rfl, hb⟩)
          go_ret
          exact ⟨rfl, HB6.out.trans (hb.mono HB6.out.size)⟩
end Go.Proofs.Ythdcffbifgifeaa
