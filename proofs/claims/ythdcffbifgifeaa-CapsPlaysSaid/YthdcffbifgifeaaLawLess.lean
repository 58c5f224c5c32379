/- The walk of CapsLess. -/
import Derived.Test.YthdcffbifgifeaaSt
import Derived.ChangeSlices
namespace Go.Proofs.Ythdcffbifgifeaa
open Go.RowKit
set_option linter.unusedVariables false

def bitb (n b : Nat) : Bool := n / b % 2 == 1
theorem bit_any (n b : Nat) (hn : n < 1000) (hb : 0 < b) (hb2 : b < 1000) (w : World) :
    Calls Try.prog 33 #[.int .i64 n, .int .i64 b] w fun e w' => e = .returned (.bool (bitb n b)) ∧ w = w' := by
  have h0 : ¬ (b : Int) = 0 := by omega
  have h0n : ¬ b = 0 := by omega
  have h0b : ((b : Int) == 0) = false := by simp; omega
  have hle : n / b ≤ n := Nat.div_le_self _ _
  have hq : Int.tdiv (n : Int) (b : Int) = ((n / b : Nat) : Int) := by rw [Int.tdiv_eq_ediv_of_nonneg (by omega)]; simp
  have hq2 : (n : Int) / (b : Int) = ((n / b : Nat) : Int) := by simp
  generalize hz : n / b = z at *
  have hr : Int.tmod (z : Int) 2 = ((z % 2 : Nat) : Int) := by rw [Int.tmod_eq_emod_of_nonneg (by omega)]; simp
  have hr2 : (z : Int) % 2 = ((z % 2 : Nat) : Int) := by simp
  have hw : IntKind.i64.wrap (z : Int) = z := by rw [IntKind.wrap_i64]; omega
  have hbt : bitb n b = (z % 2 == 1) := by unfold bitb; rw [hz]
  rw [hbt]
  clear hz hbt
  have hy : z % 2 < 2 := Nat.mod_lt _ (by omega)
  generalize z % 2 = y at *
  have hwy : IntKind.i64.wrap (y : Int) = y := by rw [IntKind.wrap_i64]; omega
  have hyy : ((y : Int) == 1) = (y == 1) := by rw [Bool.eq_iff_iff]; simp; omega
  have HY := Lib.hid hyy
  go_enter Try.func33, Try.ntmps33
  go_wp2
  go_ret
  exact ⟨ret_bool (by first | rfl | exact HY.out | simp), rfl⟩

def refh (o n : Nat) : Bool := (List.range 4).all fun j => !bitb n (2 ^ j) || bitb o (2 ^ j)
theorem hs_refh : ∀ o n : Fin 16, hs (o.val : Int) (n.val : Int) = refh o.val n.val := by decide +kernel
theorem refh_bad {o n k : Nat} (hk : k < 4) (h1 : bitb n (2 ^ k) = true) (h2 : bitb o (2 ^ k) = false) : refh o n = false := by
  rw [← Bool.not_eq_true]
  intro h
  have := List.all_eq_true.1 h k (List.mem_range.2 hk)
  rw [h1, h2] at this
  exact absurd this (by simp)
theorem refh_good {o n : Nat} (h : ∀ j, j < 4 → (!bitb n (2 ^ j) || bitb o (2 ^ j)) = true) : refh o n = true :=
  List.all_eq_true.2 fun j hj => h j (List.mem_range.1 hj)

theorem refhas_any (o n : Nat) (ho : o < 16) (hn : n < 16) (w : World) :
    Calls Try.prog 13 #[.int .i64 o, .int .i64 n] w fun e w' => e = .returned (.bool (refh o n)) ∧ Below w.heap.size w w' := by
  have HB1 := Lib.hid (fun b (h1 : 0 < b) (h2 : b < 1000) w => bit_any o b (by omega) h1 h2 w)
  have HB2 := Lib.hid (fun b (h1 : 0 < b) (h2 : b < 1000) w => bit_any n b (by omega) h1 h2 w)
  go_enter Try.func13, Try.ntmps13
  go_wp2_with fail
  go_loopw [6, 7, 8] (fun c _ _ wr => ∃ k : Nat, k ≤ 4 ∧ c = .int .i64 k ∧ (∀ j, j < k → (!bitb n (2 ^ j) || bitb o (2 ^ j)) = true) ∧ wr = w.alloc (.cells #[.int .i64 1, .int .i64 2, .int .i64 4, .int .i64 8] 3)) (fun c _ _ _ => 4 - (intOf c).toNat)
  case atStart => exact ⟨0, by omega, rfl, fun j h => absurd h (by omega), rfl⟩
  case round =>
    obtain ⟨k, hk, rfl, hall, rfl⟩ := hrel
    have HAL := Lib.hid hall
    clear hall
    by_cases hlt : k < 4
    · have hki : (k : Int) < 4 := by omega
      obtain ⟨p, hp⟩ : ∃ p : Nat, p = 2 ^ k := ⟨_, rfl⟩
      have hpb : 0 < p ∧ p < 1000 := by rcases (show k = 0 ∨ k = 1 ∨ k = 2 ∨ k = 3 by omega) with rfl | rfl | rfl | rfl <;> simp at hp <;> omega
      obtain ⟨wr, hwr⟩ : ∃ wr : World, wr = w.alloc (.cells #[.int .i64 1, .int .i64 2, .int .i64 4, .int .i64 8] 3) := ⟨_, rfl⟩
      have d0 : wr.cell? ⟨w.heap.size, k, none⟩ = some (.int .i64 p) := by
        rw [hwr, hp]
        rcases (show k = 0 ∨ k = 1 ∨ k = 2 ∨ k = 3 by omega) with rfl | rfl | rfl | rfl <;> go_simp
      have H1 := Lib.hid (HB1.out p hpb.1 hpb.2)
      have H2 := Lib.hid (HB2.out p hpb.1 hpb.2)
      have HP := Lib.hid hp
      have HWR := Lib.hid hwr
      rw [← hwr]
      clear hp hpb hwr
      go_wp2_with fail
      refine (H1.out _).mono ?_
      rintro e w' ⟨rfl, rfl⟩
      go_wp2_with fail
      refine (H2.out _).mono ?_
      rintro e w' ⟨rfl, rfl⟩
      cases hb2 : bitb n p
      · go_wp2_with fail
        go_roundw
        case rel => exact ⟨k + 1, by omega, by go_num, fun j hj => by by_cases e : j = k; (subst e; rw [← HP.out, hb2]; rfl); exact HAL.out j (by omega), trivial⟩
        case measure => simp [intOf]; omega
      · cases hb1 : bitb o p
        · have HF := Lib.hid (refh_bad (o := o) (n := n) hlt (by rw [← HP.out]; exact hb2) (by rw [← HP.out]; exact hb1))
          go_wp2_with fail
          go_ret
          exact ⟨by rw [HF.out]; rfl, by rw [HWR.out]; exact (Below.refl _ _).alloc (Nat.le_refl _) _⟩
        · go_wp2_with fail
          go_roundw
          case rel => exact ⟨k + 1, by omega, by go_num, fun j hj => by by_cases e : j = k; (subst e; rw [← HP.out, hb2, hb1]; rfl); exact HAL.out j (by omega), trivial⟩
          case measure => simp [intOf]; omega
    · have e : k = 4 := by omega
      subst e
      have HG := Lib.hid (refh_good HAL.out)
      go_wp2_with fail
      go_ret
      exact ⟨by rw [HG.out]; rfl, (Below.refl _ _).alloc (Nat.le_refl _) _⟩

/-- A []int among the arguments. -/
def InInts (W : World) (v : Value) (l : List Int) : Prop :=
  (∃ A c, v = .slice A l.length c ∧ l.length ≤ c ∧ c ≤ 9223372036854775807 ∧ (0 < c → ∃ b o, A = some ⟨b, o, none⟩) ∧ ∀ b o, A = some ⟨b, o, none⟩ → ∀ j, j < l.length → W.cell? ⟨b, o + j, none⟩ = some (.int .i64 (l.getD j 0))) ∧ ∀ x ∈ l, (Lit.int .i64 x).wf = true
section
open Go.ChangeShapes Go.WideShapes
theorem addr_plain {w : World} {a : Addr} {k : Nat} {v : Value} (h : w.cell? (a.add 0) = some v) : a.add k = ⟨a.block, a.off + k, none⟩ := by
  have h0 : a.spot = none := by
    have e : a.add 0 = a := by simp [Addr.add]
    rw [e] at h
    unfold World.cell? at h
    split at h
    · split at h
      · cases h
      · rename_i hs; simpa using hs
    · cases h
  obtain ⟨b, o, s⟩ := a
  dsimp only at h0
  subst h0
  unfold Addr.add
  split
  · rename_i e; subst e; rfl
  · rfl
theorem open_ints' {H : Type} {enc : TypeId × Value → H} {W : World} {r : Reach} {b0 base : Nat} {v : Value} {d : DataW H} {p : List MemPlace} (hv : Value.okWide Try.prog W r b0 22 v) (h : DataW.Trod enc Try.prog W base (fun _ => true) true 22 v d p) :
    ∃ l, InInts W v l := by
  obtain ⟨a, len, cap, rfl⟩ := okWide_slice Try.underlying22 hv
  obtain ⟨fuel, hf⟩ := h
  rcases Go.ChangeShapes.open_ints Try.underlying22 Try.underlying3 (by kernel_rfl) hf with ⟨hcs, _⟩ | ⟨x, l, c, zs, hcs, _, hl, hm, hz, _, hcell, hwz⟩
  · simp [Value.cells] at hcs
    obtain ⟨rfl, rfl, rfl⟩ := hcs
    exact ⟨[], ⟨none, 0, rfl, by simp, by simp, by simp, by simp⟩, by simp⟩
  · simp [Value.cells] at hcs
    obtain ⟨rfl, rfl, rfl⟩ := hcs
    simp at hz
    obtain rfl : cap = zs.length := hz.symm
    have hlt : (zs.take len).length = len := by simp; omega
    have hml := hm
    simp only [maxLen] at hml
    refine ⟨zs.take len, ⟨some x, zs.length, by rw [hlt], by omega, by omega, ?_, ?_⟩, fun y hy => hwz y (List.mem_of_mem_take hy)⟩
    · intro hc0
      have h0 := addr_plain (k := 0) (hcell 0 hc0)
      refine ⟨x.block, x.off, ?_⟩
      have : x.add 0 = x := by simp [Addr.add]
      rw [← this, h0]
    · intro b o hb j hj
      injection hb with hb
      rw [hlt] at hj
      have := hcell j (by omega)
      rw [addr_plain (hcell 0 (by omega)), hb] at this
      rw [this]
      simp [List.getD_eq_getElem?_getD, hj]

end

/-- The table of CapsLess, and the one that mints next. -/
structure LS (w wr : World) (b pb : Nat) (rs : List Int) : Prop where
  t : TAt wr b 2 (rs.length + 1) (stL 2 rs)
  p : wr.heap[pb]? = some (.cells #[.int .i64 rs.length, .int .i64 (2097152 + rs.length)] 28 (0, 0))
  ne : b ≠ pb
  bel : Below w.heap.size w wr
  lb : w.heap.size ≤ b
  lp : w.heap.size ≤ pb
theorem LS.plt {w wr : World} {b pb : Nat} {rs : List Int} (h : LS w wr b pb rs) : pb < wr.heap.size := (Array.getElem?_eq_some_iff.1 h.p).1
theorem LS.below {w wr w' : World} {b pb : Nat} {rs : List Int} (h : LS w wr b pb rs) (hb : Below wr.heap.size wr w') : LS w w' b pb rs :=
  ⟨h.t.below hb, (hb.block _ h.plt).trans h.p, h.ne, h.bel.trans (hb.mono h.bel.size), h.lb, h.lp⟩
theorem LS.next {w wr : World} {b pb : Nat} {rs : List Int} {r : Int} (ht : TAt wr b 2 (rs.length + 1 + 1) (stL 2 (rs ++ [r]))) (hp : ∃ s g : Int, wr.heap[pb]? = some (.cells #[.int .i64 s, .int .i64 g] 28 (0, 0))) (ne : b ≠ pb) (bel : Below w.heap.size w wr) (lb : w.heap.size ≤ b) (lp : w.heap.size ≤ pb) :
    LS w ((wr.setCell ⟨pb, 0, none⟩ (.int .i64 ((rs.length : Int) + 1))).setCell ⟨pb, 1, none⟩ (.int .i64 (2097152 + ((rs.length : Int) + 1)))) b pb (rs ++ [r]) := by
  obtain ⟨s, g, hp⟩ := hp
  have k1 := Go.heap_setCell_same wr pb 0 _ 28 (.int .i64 ((rs.length : Int) + 1)) hp
  have k2 := Go.heap_setCell_same _ pb 1 _ 28 (.int .i64 (2097152 + ((rs.length : Int) + 1))) k1
  refine ⟨?_, ?_, ne, (bel.setCell (show w.heap.size ≤ pb from lp) _).setCell (show w.heap.size ≤ pb from lp) _, lb, lp⟩
  · rw [List.length_append]
    exact ht.keep (by rw [Go.heap_setCell_other _ _ _ _ (by exact ne), Go.heap_setCell_other _ _ _ _ (by exact ne)])
  · rw [k2]
    simp
theorem rk_snoc (rs : List Int) (r : Int) : rk (rs ++ [r]) (rs.length + 1) = r := by
  unfold rk
  rw [if_neg (by omega)]
  simp [List.getD_eq_getElem?_getD]

theorem hs_ref {o n : Nat} (ho : o < 16) (hn : n < 16) : hs (o : Int) (n : Int) = refh o n := hs_refh ⟨o, ho⟩ ⟨n, hn⟩
theorem LS.mint {w wr : World} {b pb : Nat} {rs : List Int} (h : LS w wr b pb rs) (hk : rs.length < 7) (o : Nat) (hrk : rk rs rs.length = o) (ho : o < 16) (r : Nat) (hr : r < 16) :
    Calls Try.prog 12 #[.pointer (some ⟨b, 0, none⟩), .agg #[.int .i64 rs.length, .int .i64 (2097152 + rs.length)], .int .i64 r] wr fun e w' =>
      ((refh o 8 && refh o r) = false ∧ e = .returned (.tuple #[.agg #[.int .i64 0, .int .i64 0], .int .i64 11]) ∧ Below wr.heap.size wr w') ∨
      ((refh o 8 && refh o r) = true ∧ e = .returned (.tuple #[.agg #[.int .i64 ((rs.length : Int) + 1), .int .i64 (2097152 + ((rs.length : Int) + 1))], .int .i64 0]) ∧ TAt w' b 2 (rs.length + 1 + 1) (stL 2 (rs ++ [(r : Int)])) ∧ Only1 b wr w') := by
  have hg : gd (stL 2 rs) rs.length (2097152 + (rs.length : Int)) = some (o : Int) := by
    have h := stL_gd 2 rs (by omega) (Nat.le_refl _)
    rw [hrk] at h
    simpa using h
  have h8 : ccode (gd (stL 2 rs) rs.length (2097152 + (rs.length : Int))) 8 = if refh o 8 then 0 else 11 := by
    rw [hg]
    have := hs_ref ho (show 8 < 16 by omega)
    simp only [ccode]
    rw [show hs (o : Int) 8 = refh o 8 from this]
  have hrr : ccode (gd (stL 2 rs) rs.length (2097152 + (rs.length : Int))) r = if refh o r then 0 else 11 := by
    rw [hg]
    simp only [ccode]
    rw [hs_ref ho hr]
  have hf := stL_fre 2 rs
  rw [if_pos hk] at hf
  have hm : mcode (stL 2 rs) (rs.length + 1) rs.length (2097152 + (rs.length : Int)) r = if (refh o 8 && refh o r) = true then 0 else 11 := by
    unfold mcode
    rw [h8, hrr, hf]
    cases refh o 8
    · simp
    · cases refh o r
      · have : (0 : Int) ≤ r ∧ (r : Int) < 16 := by omega
        simp [this]
      · have : (0 : Int) ≤ r ∧ (r : Int) < 16 := by omega
        simp [this]
        omega
  refine (mint_any b 2 (rs.length + 1) (stL 2 rs) rs.length (2097152 + rs.length) r wr h.t).mono ?_
  rintro e w' (⟨h1, rfl, h3⟩ | ⟨h1, i, hi, h2, _, _, rfl, h3, h4⟩)
  · left
    rw [hm] at h1 ⊢
    cases hc : (refh o 8 && refh o r)
    · rw [hc] at h1
      exact ⟨rfl, by simp, h3⟩
    · rw [hc] at h1
      exact absurd rfl h1
  · right
    rw [hm] at h1
    rw [hf] at h2
    obtain rfl : i = rs.length + 1 := by omega
    rw [stL_snoc] at h3
    refine ⟨by cases hc : (refh o 8 && refh o r); (rw [hc] at h1; simp at h1); rfl, ?_, h3, h4⟩
    simp

set_option maxRecDepth 100000 in
set_option maxHeartbeats 2000000 in
theorem law_less (v : Value) (l : List Int) (w : World) (H : InInts w v l) :
    Calls Try.prog 3 #[v] w fun e w' => e = .returned (.bool true) ∧ Below w.heap.size w w' := by
  obtain ⟨⟨A, c, rfl, hlc, hcm, hA, hcell⟩, hwf⟩ := H
  have HW := Lib.hid hwf
  have HC := Lib.hid hcell
  have HA := Lib.hid hA
  clear hwf hcell hA
  have hl1 : (l.length : Int) ≤ 9223372036854775807 := by omega
  have HNW := Lib.hid (new_good 2 w (by omega) (by omega))
  go_enter Try.func3, Try.ntmps3
  go_wp2_with fail
  refine HNW.out.mono ?_
  rintro e w1 ⟨b, hbw, rfl, ht, hb⟩
  have HT := Lib.hid (show TAt w1 b 2 1 (stL 2 []) by rw [stL_nil]; exact ht)
  have HB1 := Lib.hid hb
  clear ht hb HNW
  go_wp2_with fail
  refine (root_any b 2 1 _ w1 HT.out).mono ?_
  rintro e w2 ⟨rfl, hb⟩
  have HL := Lib.hid (show LS w (w2.alloc (.cells #[.int .i64 0, .int .i64 2097152] 28)) b w2.heap.size [] from
    ⟨(HT.out.below hb).below ((Below.refl _ _).alloc (Nat.le_refl _) _), by simpa using heap_alloc_new w2 (.cells #[.int .i64 0, .int .i64 2097152] 28), by have := HT.out.blt; have := hb.size; omega, (HB1.out.trans (hb.mono HB1.out.size)).alloc (Nat.le_trans HB1.out.size hb.size) _, hbw, Nat.le_trans HB1.out.size hb.size⟩)
  clear hb HT HB1
  go_wp2_with fail
  obtain ⟨pb, hpb⟩ : ∃ pb, pb = w2.heap.size := ⟨_, rfl⟩
  rw [← hpb] at HL ⊢
  clear hpb
  go_loopw [6, 7, 8, 9, 10, 11, 12, 13, 14] (fun ow c _ _ _ _ _ _ _ wr => ∃ (rs : List Int) (o : Nat), rs.length ≤ 7 ∧ c = .int .i64 rs.length ∧ ow = .int .i64 o ∧ rk rs rs.length = o ∧ o < 16 ∧ LS w wr b pb rs) (fun _ c _ _ _ _ _ _ _ _ => 7 - (intOf c).toNat)
  case atStart => exact ⟨[], 15, by simp, rfl, rfl, rfl, by omega, HL.out⟩
  case round =>
    obtain ⟨rs, o, hk, rfl, rfl, hrk, ho, hls⟩ := hrel
    clear HL
    have HL := Lib.hid hls
    have HRK := Lib.hid hrk
    clear hls hrk
    by_cases hlt : rs.length < l.length ∧ rs.length < 7
    · obtain ⟨hkl, hk7⟩ := hlt
      obtain ⟨ab, ao, rfl⟩ := HA.out (by omega)
      have d0 := cell_below HL.out.bel (HC.out ab ao rfl rs.length hkl)
      obtain ⟨r, r0, r1, hR⟩ := around_some (l.getD rs.length 0) 16 (by omega) (by omega) (HW.out _ (by simp [List.getD_eq_getElem?_getD, List.getElem?_eq_getElem hkl]))
      obtain ⟨r, rfl⟩ := Int.eq_ofNat_of_zero_le r0
      obtain ⟨x, hx⟩ : ∃ x, x = l.getD rs.length 0 := ⟨_, rfl⟩
      rw [← hx] at d0 hR
      have HR := Lib.hid hR
      have hr16 : r < 16 := by omega
      have HM := Lib.hid (HL.out.mint hk7 o HRK.out ho r hr16)
      have HH8 := Lib.hid (fun w => refhas_any o 8 ho (by omega) w)
      have HHR := Lib.hid (fun w => refhas_any o r ho hr16 w)
      have hp := HL.out.p
      have p0 := cell_of_row _ pb 0 _ _ _ hp
      have p1 := cell_of_row _ pb 1 _ _ _ hp
      have hplt := HL.out.plt
      simp at p0 p1
      obtain ⟨k, hkk⟩ : ∃ k, k = rs.length := ⟨_, rfl⟩
      have HKK := Lib.hid hkk
      rw [← hkk] at d0 p0 p1 hkl hk7 HM ⊢
      have hki : (k : Int) < l.length := by omega
      have hki7 : (k : Int) < 7 := by omega
      clear hx hR hp hkk
      go_wp2_with fail
      refine (HR.out _).mono ?_
      rintro e w' ⟨rfl, rfl⟩
      go_wp2_with fail
      refine HM.out.mono ?_
      rintro e w3 (⟨hc, rfl, hb⟩ | ⟨hc, rfl, ht, ho1⟩)
      · have HB := Lib.hid (HL.out.bel.trans (hb.mono HL.out.bel.size))
        have HCC := Lib.hid hc
        clear hb hc HM
        go_wp2_with fail
        refine (HH8.out _).mono ?_
        rintro e w4 ⟨rfl, hb⟩
        have HB4 := Lib.hid ((HB.out.alloc HB.out.size _).trans (hb.mono (by have := HB.out.size; simp; omega)))
        clear hb
        go_wp2_with fail
        refine (HHR.out _).mono ?_
        rintro e w5 ⟨rfl, hb⟩
        have HB5 := Lib.hid (HB4.out.trans (hb.mono HB4.out.size))
        clear hb
        have hcc := HCC.out
        generalize refh o r = gr at *
        generalize refh o 8 = g8 at *
        cases g8
        · go_wp2_with fail
          refine (lives_any _).mono ?_
          rintro e w6 ⟨rfl, hb⟩
          have HB6 := Lib.hid (HB5.out.trans (hb.mono HB5.out.size))
          clear hb
          go_wp2_with fail
          go_ret
          exact ⟨rfl, HB6.out⟩
        · obtain rfl : gr = false := by simpa using hcc
          go_wp2_with fail
          refine (lives_any _).mono ?_
          rintro e w6 ⟨rfl, hb⟩
          have HB6 := Lib.hid (HB5.out.trans (hb.mono HB5.out.size))
          clear hb
          go_wp2_with fail
          go_ret
          exact ⟨rfl, HB6.out⟩
      · have HT := Lib.hid ht
        have hp3 := (ho1.far pb hplt (Ne.symm HL.out.ne)).trans HL.out.p
        have HP3 := Lib.hid hp3
        have HB := Lib.hid (HL.out.bel.trans (ho1.below HL.out.lb HL.out.bel.size))
        obtain ⟨h8, hrr⟩ := (Bool.and_eq_true _ _).mp hc
        rw [h8] at HH8
        rw [hrr] at HHR
        have hpl3 : pb < w3.heap.size := (Array.getElem?_eq_some_iff.1 hp3).1
        clear ht ho1 hc HM h8 hrr hp3
        have hga : gd (stL 2 (rs ++ [(r : Int)])) ((k : Int) + 1) (2097152 + ((k : Int) + 1)) = some (r : Int) := by
          have h := stL_gd 2 (rs ++ [(r : Int)]) (by simp; have := HKK.out; omega) (k := k + 1) (by simp; have := HKK.out; omega)
          rw [HKK.out, rk_snoc] at h
          rw [HKK.out]
          simpa using h
        have HRI := Lib.hid (fun W (ht : TAt W b 2 (k + 1 + 1) (stL 2 (rs ++ [(r : Int)]))) => rights_any b 2 (k + 1 + 1) _ ((k : Int) + 1) (2097152 + ((k : Int) + 1)) W ht)
        rw [hga] at HRI
        dsimp only [rcode, Option.getD] at HRI
        clear hga
        go_wp2_with fail
        refine (HH8.out _).mono ?_
        rintro e w4 ⟨rfl, hb⟩
        have n0 := (hb.cell (p := ⟨w3.heap.size, 0, none⟩) (by simp)).trans (show _ = some (.int .i64 ((k : Int) + 1)) by go_simp)
        have n1 := (hb.cell (p := ⟨w3.heap.size, 1, none⟩) (by simp)).trans (show _ = some (.int .i64 (2097152 + ((k : Int) + 1))) by go_simp)
        have HB4 := Lib.hid ((HB.out.alloc HB.out.size _).trans (hb.mono (by have := HB.out.size; simp; omega)))
        have HT4 := Lib.hid ((HT.out.below ((Below.refl _ _).alloc (Nat.le_refl _) _)).below hb)
        have hp4 := (hb.block pb (by simp; omega)).trans ((Below.heap_alloc w3 _ pb hpl3).trans HP3.out)
        have hpl4 := (Array.getElem?_eq_some_iff.1 hp4).1
        have HP4 := Lib.hid hp4
        clear hb hp4 HT HP3 HB
        go_wp2_with fail
        refine (HHR.out _).mono ?_
        rintro e w5 ⟨rfl, hb⟩
        have n0 := cell_below hb n0
        have n1 := cell_below hb n1
        have HB5 := Lib.hid (HB4.out.trans (hb.mono HB4.out.size))
        have HT5 := Lib.hid (HT4.out.below hb)
        have hp5 := (hb.block pb hpl4).trans HP4.out
        have hpl5 := (Array.getElem?_eq_some_iff.1 hp5).1
        have HP5 := Lib.hid hp5
        clear hb hp5 HB4 HT4 HP4
        go_wp2_with fail
        refine (HRI.out _ HT5.out).mono ?_
        rintro e w6 ⟨rfl, hb⟩
        have n0 := cell_below hb n0
        have n1 := cell_below hb n1
        have hB6 := HB5.out.trans (hb.mono HB5.out.size)
        have hT6 := HT5.out.below hb
        have hp6 := (hb.block pb hpl5).trans HP5.out
        have p0 := cell_of_row w6 pb 0 _ _ _ hp6
        have p1 := cell_of_row w6 pb 1 _ _ _ hp6
        have f0 := frozen_of_row w6 pb 0 _ _ hp6
        have f1 := frozen_of_row w6 pb 1 _ _ hp6
        simp at p0 p1
        have HNX := Lib.hid (by rw [HKK.out] at hT6; exact LS.next hT6 ⟨_, _, hp6⟩ HL.out.ne hB6 HL.out.lb HL.out.lp)
        rw [← HKK.out] at HNX p0 p1
        clear hb hB6 hT6 hp6 HB5 HT5 HP5 HRI
        go_wp2_with fail
        go_roundw
        case rel => exact ⟨rs ++ [(r : Int)], r, by simp; have := HKK.out; omega, by simp [HKK.out], rfl, by rw [List.length_append]; exact rk_snoc rs r, hr16, HNX.out⟩
        case measure => simp [intOf]; omega
    · by_cases hkl : rs.length < l.length
      · have hi1 : (rs.length : Int) < l.length := by omega
        have hi2 : ¬ (rs.length : Int) < 7 := by omega
        go_wp2_with (go_at_call 15; refine (lives_any _).mono ?_; rintro e w' ⟨rfl, hb⟩)
        go_ret
        exact ⟨rfl, HL.out.bel.trans (hb.mono HL.out.bel.size)⟩
      · have hi1 : ¬ (rs.length : Int) < l.length := by omega
        go_wp2_with (go_at_call 15; refine (lives_any _).mono ?_; rintro e w' ⟨rfl, hb⟩)
        go_ret
        exact ⟨rfl, HL.out.bel.trans (hb.mono HL.out.bel.size)⟩
end Go.Proofs.Ythdcffbifgifeaa
