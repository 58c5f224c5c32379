/- The walk of RightsNames. -/
import Derived.Test.YtjbijljcolkioaaPNames
import Derived.Test.YtjbijljcolkioaaBase
import Derived.SliceStrings
namespace Go.Proofs.Ytjbijljcolkioaa
open Go.RowKit Go.Proofs.Ytjbijljcolkioaa.PRightsNames Go.Proofs.YtjbijljcolkioaaW.PrintWords
set_option linter.unusedVariables false

/-- A []int among the arguments. -/
def InInts (W : World) (v : Value) (l : List Int) : Prop :=
  (∃ A c, v = .slice A l.length c ∧ l.length ≤ c ∧ c ≤ 9223372036854775807 ∧ (0 < c → ∃ b o, A = some ⟨b, o, none⟩) ∧ ∀ b o, A = some ⟨b, o, none⟩ → ∀ j, j < l.length → W.cell? ⟨b, o + j, none⟩ = some (.int .i64 (l.getD j 0))) ∧ ∀ x ∈ l, (Lit.int .i64 x).wf = true
section
open Go.ChangeShapes Go.WideShapes
theorem addr_plain {w : World} {a : Addr} {k : Nat} {v : Value} (h : w.cell? (a.add 0) = some v) : a.add k = ⟨a.block, a.off + k, none⟩ := by
  have h0 : a.spot = none := by
    have e : a.add 0 = a := by simp [Addr.add]
    rw [e] at h
    unfold World.cell? at h
    split at h
    · split at h
      · cases h
      · rename_i hs; simpa using hs
    · cases h
  obtain ⟨b, o, s⟩ := a
  dsimp only at h0
  subst h0
  unfold Addr.add
  split
  · rename_i e; subst e; rfl
  · rfl
theorem open_ints' {H : Type} {enc : TypeId × Value → H} {W : World} {r : Reach} {b0 base : Nat} {v : Value} {d : DataW H} {p : List MemPlace} (hv : Value.okWide Try.prog W r b0 22 v) (h : DataW.Trod enc Try.prog W base (fun _ => true) true 22 v d p) :
    ∃ l, InInts W v l := by
  obtain ⟨a, len, cap, rfl⟩ := okWide_slice Try.underlying22 hv
  obtain ⟨fuel, hf⟩ := h
  rcases Go.ChangeShapes.open_ints Try.underlying22 Try.underlying3 (by kernel_rfl) hf with ⟨hcs, _⟩ | ⟨x, l, c, zs, hcs, _, hl, hm, hz, _, hcell, hwz⟩
  · simp [Value.cells] at hcs
    obtain ⟨rfl, rfl, rfl⟩ := hcs
    exact ⟨[], ⟨none, 0, rfl, by simp, by simp, by simp, by simp⟩, by simp⟩
  · simp [Value.cells] at hcs
    obtain ⟨rfl, rfl, rfl⟩ := hcs
    simp at hz
    obtain rfl : cap = zs.length := hz.symm
    have hlt : (zs.take len).length = len := by simp; omega
    have hml := hm
    simp only [maxLen] at hml
    refine ⟨zs.take len, ⟨some x, zs.length, by rw [hlt], by omega, by omega, ?_, ?_⟩, fun y hy => hwz y (List.mem_of_mem_take hy)⟩
    · intro hc0
      have h0 := addr_plain (k := 0) (hcell 0 hc0)
      refine ⟨x.block, x.off, ?_⟩
      have : x.add 0 = x := by simp [Addr.add]
      rw [← this, h0]
    · intro b o hb j hj
      injection hb with hb
      rw [hlt] at hj
      have := hcell j (by omega)
      rw [addr_plain (hcell 0 (by omega)), hb] at this
      rw [this]
      simp [List.getD_eq_getElem?_getD, hj]

end

/-- A []string among the arguments. -/
def InStrs (W : World) (v : Value) (l : List ByteArray) : Prop :=
  (∃ A c, v = .slice A l.length c ∧ l.length ≤ c ∧ c ≤ 9223372036854775807 ∧ (0 < c → ∃ b o, A = some ⟨b, o, none⟩) ∧ ∀ b o, A = some ⟨b, o, none⟩ → ∀ j, j < l.length → W.cell? ⟨b, o + j, none⟩ = some (.string (l.getD j ByteArray.empty))) ∧ ∀ x ∈ l, x.size ≤ 9223372036854775807

section
open Go.ChangeShapes Go.WideShapes
theorem open_strs' {H : Type} {enc : TypeId × Value → H} {W : World} {r : Reach} {b0 base : Nat} {v : Value} {d : DataW H} {p : List MemPlace} (hv : Value.okWide Try.prog W r b0 39 v) (h : DataW.Trod enc Try.prog W base (fun _ => true) true 39 v d p) :
    ∃ l, InStrs W v l := by
  obtain ⟨a, len, cap, rfl⟩ := okWide_slice Try.underlying39 hv
  obtain ⟨fuel, hf⟩ := h
  rcases Go.ChangeShapes.open_strings Try.underlying39 Try.underlying9 (by kernel_rfl) hf with ⟨hcs, _⟩ | ⟨x, l, c, zs, hcs, _, hl, hm, hz, _, hcell, hwz⟩
  · simp [Value.cells] at hcs
    obtain ⟨rfl, rfl, rfl⟩ := hcs
    exact ⟨[], ⟨none, 0, rfl, by simp, by simp, by simp, by simp⟩, by simp⟩
  · simp [Value.cells] at hcs
    obtain ⟨rfl, rfl, rfl⟩ := hcs
    simp at hz
    obtain rfl : cap = zs.length := hz.symm
    have hlt : (zs.take len).length = len := by simp; omega
    have hml := hm
    simp only [maxLen] at hml hwz
    refine ⟨zs.take len, ⟨some x, zs.length, by rw [hlt], by omega, by omega, ?_, ?_⟩, fun y hy => hwz y (List.mem_of_mem_take hy)⟩
    · intro hc0
      have h0 := addr_plain (k := 0) (hcell 0 hc0)
      refine ⟨x.block, x.off, ?_⟩
      have : x.add 0 = x := by simp [Addr.add]
      rw [← this, h0]
    · intro b o hb j hj
      injection hb with hb
      rw [hlt] at hj
      have := hcell j (by omega)
      rw [addr_plain (hcell 0 (by omega)), hb] at this
      rw [this]
      simp [List.getD_eq_getElem?_getD, hj]
end


theorem around_any (a m : Int) (w : World) (hm : 0 < m) (hm' : m ≤ 9223372036854775807) (ha : -9223372036854775808 ≤ a) (ha' : a ≤ 9223372036854775807) :
    Calls Try.prog 8 #[.int .i64 a, .int .i64 m] w fun e w' => e = .returned (.int .i64 (ar a m)) ∧ w = w' := by
  have hm0 : (m == 0) = false := by simp; omega
  by_cases h : a < 0
  · have E : ar a m = (-(a + 1)) % m := by unfold ar; rw [if_pos h]
    rw [E]
    clear E
    have h1 : wrap64 (a + 1) = a + 1 := by unfold wrap64; omega
    have h2 : wrap64 (-(a + 1)) = -(a + 1) := by unfold wrap64; omega
    have h3 : Int.tmod (-(a + 1)) m = (-(a + 1)) % m := Int.tmod_eq_emod_of_nonneg (by omega)
    go_enter Try.func8, Try.ntmps8
    go_wp2
    go_ret
    exact ⟨by simp, rfl⟩
  · have E : ar a m = a % m := by unfold ar; rw [if_neg h]
    rw [E]
    clear E
    go_enter Try.func8, Try.ntmps8
    go_wp2
    go_ret
    exact ⟨by simp, rfl⟩
theorem around_some (a m : Int) (hm : 0 < m) (hm' : m ≤ 9223372036854775807) (ha : (Lit.int .i64 a).wf = true) :
    ∃ y, 0 ≤ y ∧ y < m ∧ ∀ w, Calls Try.prog 8 #[.int .i64 a, .int .i64 m] w fun e w' => e = .returned (.int .i64 y) ∧ w = w' :=
  ⟨ar a m, ar_lo a m hm, ar_hi a m hm, fun w => around_any a m w hm hm' (wf64 ha).1 (wf64 ha).2⟩

/-- A row of texts that is read. -/
def TAt (W : World) (A : Option Addr) (l : List ByteArray) : Prop := 0 < l.length → ∃ b o, A = some ⟨b, o, none⟩ ∧ ∀ j, j < l.length → W.cell? ⟨b, o + j, none⟩ = some (.string (l.getD j ByteArray.empty))
theorem TAt.below {w w1 : World} {A : Option Addr} {l : List ByteArray} (h : TAt w A l) (hb : Below w.heap.size w w1) : TAt w1 A l := by
  intro h0
  obtain ⟨b, o, rfl, hj⟩ := h h0
  exact ⟨b, o, rfl, fun j hlt => cell_below hb (hj j hlt)⟩
theorem add_off (b o j : Nat) : (⟨b, o, none⟩ : Addr).add j = ⟨b, o + j, none⟩ := by unfold Addr.add; split <;> simp_all
theorem TAt.C {w : World} {A : Option Addr} {l : List ByteArray} (h : TAt w A l) (hl : l.length ≤ 9223372036854775807) : Kd.C Kd.string w A l.length l := by
  refine ⟨rfl, hl, fun h0 => ?_⟩
  obtain ⟨b, o, rfl, hj⟩ := h h0
  refine ⟨_, rfl, fun j p hp => ⟨[.string p], rfl, rfl, ?_⟩⟩
  intro i u hu
  have hjl := (List.getElem?_eq_some_iff.1 hp).1
  have h1 := hj j hjl
  rw [List.getD_eq_getElem?_getD, hp] at h1
  cases i with
  | zero =>
    simp at hu
    subst hu
    show w.cell? ((⟨b, o, none⟩ : Addr).add (j * 1 + 0)) = _
    rw [add_off]
    simpa using h1
  | succ i => simp at hu
def strs (xs : List ByteArray) : List Value := xs.map .string
theorem own_texts {w : World} {base : Nat} {A : Option Addr} {n c : Nat} {xs : List ByteArray} (h : w.ownsRow base 9 1 (.slice A n c) n (strs xs)) : TAt w A xs := by
  have hl : xs.length = n := by have := h.1; simp [strs] at this; exact this
  subst hl
  have hcell := fun g hg => h.cells (g := g) hg
  rcases h.2 with ⟨h0, h1⟩ | ⟨g, cap, cur, h0, _⟩
  · intro hp; omega
  · injection h0 with h0 _ _
    subst h0
    refine fun _ => ⟨g, 0, rfl, fun j hj => ?_⟩
    have hc := hcell g rfl j (.string (xs.getD j ByteArray.empty)) (by simp [strs, List.getElem?_eq_getElem hj, List.getD_eq_getElem?_getD])
    rw [add_plain] at hc
    rw [Nat.zero_add]
    exact hc
/-- What Parse tells of few texts, and what the document does. -/
theorem parse_any (l : List ByteArray) (hl : l.length ≤ 5) : ∃ x c r : Int, ((c = 0 ∧ 0 ≤ r ∧ x = r) ∨ (c = 2 ∧ x = 0 ∧ r < 0)) ∧
    ∀ (A : Option Addr) (cp : Nat) (w : World), l.length ≤ cp → TAt w A l →
      (Calls Try.prog 20 #[.slice A l.length cp] w fun e w' => e = .returned (.tuple #[.int .i64 x, .int .i64 c]) ∧ Below w.heap.size w w') ∧
      (Calls Try.prog 23 #[.slice A l.length cp] w fun e w' => e = .returned (.int .i64 r) ∧ Below w.heap.size w w') := by
  obtain ⟨x, c, r, h1, h2, h3⟩ := PNames.parse_some l hl
  exact ⟨x, c, r, h3, fun A cp w hcp hT => ⟨rights_Parse.calls 100 A cp l x c w (hT.C (by omega)) hcp h1, allotmentref16_Parse.calls 100 A cp l r w (hT.C (by omega)) hcp h2⟩⟩
theorem lives_any (w : World) : Calls Try.prog 13 #[] w fun e w' => e = .returned (.bool true) ∧ Below w.heap.size w w' :=
  allotmentlaw16_lives.calls 20 true w (by decide +kernel)
theorem info9' : (Try.prog.info? 9).map (fun i => (i.zero, i.size, i.bytes)) = some (some (.string ByteArray.empty), 1, 16) := by kernel_rfl
def seven : List ByteArray := [⟨#[115, 101, 101]⟩, ⟨#[99, 104, 97, 110, 103, 101]⟩, ⟨#[107, 101, 101, 112]⟩, ⟨#[103, 105, 118, 101]⟩, ⟨#[115, 101, 101]⟩, ⟨#[107, 101, 101, 112]⟩, ⟨#[115, 101, 97]⟩]

set_option maxRecDepth 100000 in
set_option maxHeartbeats 2000000 in
theorem law_names (a : Int) (v : Value) (l : List ByteArray) (v2 : Value) (ks : List Int) (w : World) (ha : (Lit.int .i64 a).wf = true) (H : InStrs w v l) (HK : InInts w v2 ks) :
    Calls Try.prog 7 #[.int .i64 a, v, v2] w fun e w' => e = .returned (.bool true) ∧ Below w.heap.size w w' := by
  obtain ⟨⟨A, c, rfl, hlc, hcm, hA, hcell⟩, hwf⟩ := H
  obtain ⟨⟨A2, c2, rfl, hlc2, hcm2, hA2, hcell2⟩, hwf2⟩ := HK
  obtain ⟨y, y0, y1, hAr⟩ := around_some a 16 (by omega) (by omega) ha
  obtain ⟨ns, p1, p2, p3, p4⟩ := PNames.names_some (x := y) ⟨y0, y1⟩
  have HAr := Lib.hid hAr
  have HP := Lib.hid (And.intro p1 (And.intro p2 (And.intro p3 p4)))
  have HT := Lib.hid (show ∀ m, m ≤ l.length → TAt w A (l.take m) by
    intro m hm h0
    have hlt : (l.take m).length = m := by simp; omega
    rw [hlt] at h0
    obtain ⟨b, o, e⟩ := hA (by omega)
    refine ⟨b, o, e, fun j hj => ?_⟩
    rw [hlt] at hj
    rw [hcell b o e j (by omega)]
    simp [List.getD_eq_getElem?_getD, hj])
  have HI := Lib.hid (And.intro hA2 hcell2)
  have HW2 := Lib.hid hwf2
  clear hAr p1 p2 p3 p4 hA hcell hwf hA2 hcell2 hwf2
  have hl1 : (l.length : Int) ≤ 9223372036854775807 := by omega
  have hk1 : (ks.length : Int) ≤ 9223372036854775807 := by omega
  obtain ⟨n, hn, hn5, hmin⟩ : ∃ n : Nat, n ≤ l.length ∧ n ≤ 5 ∧ (if (5 : Int) < (l.length : Int) then (5 : Int) else (l.length : Int)) = (n : Int) := by
    by_cases h : 5 < l.length
    · exact ⟨5, by omega, by omega, by rw [if_pos (by omega)]; rfl⟩
    · exact ⟨l.length, by omega, by omega, by rw [if_neg (by omega)]⟩
  have hni : (n : Int) ≤ (c : Int) := by omega
  have HFE := Lib.hid (show (l.take n).length = n by simp; omega)
  have HCP := Lib.hid (show n ≤ c by omega)
  have HN := Lib.hid (HT.out n hn)
  obtain ⟨few, hfew⟩ : ∃ few, few = l.take n := ⟨_, rfl⟩
  rw [← hfew] at HFE HN
  clear hfew HT
  go_enter Try.func7, Try.ntmps7
  go_wp2_with fail
  refine (HAr.out _).mono ?_
  rintro e w' ⟨rfl, rfl⟩
  go_wp2_with fail
  refine (rights_Names.calls 20 y ns w HP.out.1).mono ?_
  rintro e w1 ⟨vn, rfl, hR, hb1⟩
  obtain ⟨An, cn, rfl, hcn, hCn⟩ := Kd.R_reads hR
  have HB1 := Lib.hid hb1
  have HCN := Lib.hid (And.intro hcn hCn)
  clear hR hb1 hcn hCn
  go_wp2_with fail
  refine (rights_Parse.calls 20 An cn ns y 0 w1 HCN.out.2 HCN.out.1 HP.out.2.2.1).mono ?_
  rintro e w2 ⟨rfl, hb2⟩
  have HC2 := Lib.hid (Kd.C_below HCN.out.2 hb2)
  have HB2 := Lib.hid (HB1.out.trans (hb2.mono HB1.out.size))
  clear hb2
  go_wp2_with fail
  refine (allotmentref16_Names.calls 20 y ns w2 HP.out.2.1).mono ?_
  rintro e w3 ⟨vm, rfl, hR, hb3⟩
  obtain ⟨Am, cm, rfl, hcm, hCm⟩ := Kd.R_reads hR
  have HC3 := Lib.hid (Kd.C_below HC2.out hb3)
  have HCM := Lib.hid (And.intro hcm hCm)
  have HB3 := Lib.hid (HB2.out.trans (hb3.mono HB2.out.size))
  clear hR hb3 hcm hCm
  go_wp2_with fail
  refine (allotmentref16_SameTexts.calls 20 An cn ns Am cm ns true w3 HC3.out HCN.out.1 HCM.out.2 HCM.out.1 HP.out.2.2.2).mono ?_
  rintro e w4 ⟨rfl, hd⟩
  have HB4 := Lib.hid (HB3.out.trans (hd.below.mono HB3.out.size))
  clear hd
  go_wp2_with fail
  go_loopw [12, 13] (fun vo i wr => ∃ (k : Nat) (xs : List ByteArray), k ≤ ks.length ∧ k ≤ 5 ∧ i = .int .i64 k ∧ xs.length = k ∧ wr.ownsRow w.heap.size 9 1 vo k (strs xs) ∧ Below w.heap.size w wr) (fun _ i _ => 5 - (intOf i).toNat)
  case atStart => exact ⟨0, [], by omega, by omega, rfl, rfl, own_nil _ _ _ _, HB4.out⟩
  case round =>
    obtain ⟨k, xs, hk, hk5, rfl, hxs, hown, hbel⟩ := hrel
    have HBE := Lib.hid hbel
    have HOW := Lib.hid hown
    have HXS := Lib.hid hxs
    have hsz := hbel.size
    by_cases hlt : k < ks.length ∧ k < 5
    · obtain ⟨hlt, hlt5⟩ := hlt
      have hki : (k : Int) < (ks.length : Int) := by omega
      have hki5 : (k : Int) < 5 := by omega
      have hk0 : (0 : Int) ≤ (k : Int) := by omega
      obtain ⟨b2, o2, rfl⟩ := HI.out.1 (by omega)
      have d0 := cell_below hbel (HI.out.2 b2 o2 rfl k hlt)
      obtain ⟨z, hz⟩ : ∃ z, z = ks.getD k 0 := ⟨_, rfl⟩
      obtain ⟨q, q0, q1, hq⟩ := around_some z 7 (by omega) (by omega) (by rw [hz]; exact HW2.out _ (by simp [List.getD_eq_getElem?_getD, List.getElem?_eq_getElem hlt]))
      rw [← hz] at d0
      obtain ⟨q, rfl⟩ := Int.eq_ofNat_of_zero_le q0
      have q1' : (q : Int) < 7 := q1
      have HQ := Lib.hid hq
      have hqn : q < 7 := by omega
      have hq0 : (0 : Int) ≤ (q : Int) := q0
      obtain ⟨w5, hw5⟩ : ∃ w5 : World, w5 = wr.alloc (.cells #[.string ⟨#[115, 101, 101]⟩, .string ⟨#[99, 104, 97, 110, 103, 101]⟩, .string ⟨#[107, 101, 101, 112]⟩, .string ⟨#[103, 105, 118, 101]⟩, .string ⟨#[115, 101, 101]⟩, .string ⟨#[107, 101, 101, 112]⟩, .string ⟨#[115, 101, 97]⟩] 9) := ⟨_, rfl⟩
      have d1 : w5.cell? ⟨wr.heap.size, q, none⟩ = some (.string (seven.getD q ByteArray.empty)) := by
        have hn := heap_alloc_new wr (.cells #[.string ⟨#[115, 101, 101]⟩, .string ⟨#[99, 104, 97, 110, 103, 101]⟩, .string ⟨#[107, 101, 101, 112]⟩, .string ⟨#[103, 105, 118, 101]⟩, .string ⟨#[115, 101, 101]⟩, .string ⟨#[107, 101, 101, 112]⟩, .string ⟨#[115, 101, 97]⟩] 9)
        rw [← hw5] at hn
        rw [cell_of_row _ _ _ _ _ _ hn]
        have : q = 0 ∨ q = 1 ∨ q = 2 ∨ q = 3 ∨ q = 4 ∨ q = 5 ∨ q = 6 := by omega
        rcases this with rfl | rfl | rfl | rfl | rfl | rfl | rfl <;> rfl
      have hb5 : Below wr.heap.size wr w5 := by rw [hw5]; exact (Below.refl _ _).alloc (Nat.le_refl _) _
      have d2 := cell_below hb5 d0
      have hsz5 : wr.heap.size < w5.heap.size := by rw [hw5]; simp
      obtain ⟨s, hs⟩ : ∃ s, s = seven.getD q ByteArray.empty := ⟨_, rfl⟩
      rw [← hs] at d1
      have HO5 := Lib.hid (own_below HOW.out hb5)
      have HB5 := Lib.hid (HBE.out.trans (hb5.mono hsz))
      have HS := Lib.hid hs
      rw [hw5] at d1 d2 hsz5
      rw [hw5] at HO5 HB5
      clear hz hq hown hbel hxs hs hb5 d0 hw5
      go_wp2_with fail
      refine (HQ.out _).mono ?_
      rintro e w' ⟨rfl, rfl⟩
      have hszb := HB5.out.size
      go_wp2_with (at_builtin; refine app_one HO5.out [.string s] rfl rfl Try.underlying39 info9' rfl (by decide) rfl rfl (by simp) rfl (one_string _) hszb (by omega) (by omega) ?_; intro v1 w1 hown1 hbel1 hgr)
      have HO1 := Lib.hid (show w1.ownsRow w.heap.size 9 1 v1 (k + 1) (strs (xs ++ [s])) by simpa [strs] using hown1)
      have HB1' := Lib.hid (HB5.out.trans hbel1)
      clear hown1 hbel1 hgr
      go_wp2
      go_roundw
      case rel => exact ⟨k + 1, xs ++ [s], by omega, by omega, by go_num, by rw [List.length_append, HXS.out]; rfl, HO1.out, HB1'.out⟩
      case measure => simp [intOf]; omega
    · obtain ⟨A5, c5, rfl⟩ := own_slice hown
      obtain ⟨fx, fc, fr, hF, hFC⟩ := parse_any few (by rw [HFE.out]; exact hn5)
      obtain ⟨gx, gc, gr, hG, hGC⟩ := parse_any xs (by rw [hxs]; exact hk5)
      rw [HFE.out] at hFC
      rw [hxs] at hGC
      have HFC := Lib.hid (fun W h => hFC A c W HCP.out h)
      have hT := own_texts hown
      have hcap : k ≤ c5 := by
        rcases hown.2 with ⟨h0, h1⟩ | ⟨g, cap, cur, h0, _, _, h1, _⟩
        · omega
        · injection h0 with _ _ h0; omega
      have HGC := Lib.hid (fun W h => hGC A5 c5 W hcap h)
      have HTX := Lib.hid hT
      have HNW := Lib.hid (HN.out.below HBE.out)
      clear hFC hGC hT hcap hown hxs hbel
      have HF := Lib.hid hF
      have HG := Lib.hid hG
      clear hF hG
      obtain ⟨w6, hw6⟩ : ∃ w6 : World, w6 = wr.alloc (.cells #[.slice A n c, .slice A5 k c5] 39) := ⟨_, rfl⟩
      have hb6 : Below wr.heap.size wr w6 := by rw [hw6]; exact (Below.refl _ _).alloc (Nat.le_refl _) _
      have c0 : w6.cell? ⟨wr.heap.size, 0, none⟩ = some (.slice A n c) := by rw [hw6]; go_simp
      have c1 : w6.cell? ⟨wr.heap.size, 1, none⟩ = some (.slice A5 k c5) := by rw [hw6]; go_simp
      obtain ⟨pb, hpb⟩ : ∃ pb, pb = wr.heap.size := ⟨_, rfl⟩
      rw [← hpb] at c0 c1
      have HPB := Lib.hid hpb
      have HN6 := Lib.hid (HNW.out.below hb6)
      have HT6 := Lib.hid (HTX.out.below hb6)
      have HB6 := Lib.hid (HBE.out.trans (hb6.mono hsz))
      have HW6 := Lib.hid hw6
      clear hpb hw6 hb6 HNW HTX
      have key : k < ks.length ∧ ¬ (k : Int) < 5 ∧ (k : Int) < (ks.length : Int) ∨ ¬ (k : Int) < (ks.length : Int) := by omega
      rcases key with ⟨_, hk5', hki⟩ | hki
      all_goals
        clear hlt
        go_wp2_with fail
        rw [← HW6.out, ← HPB.out]
        refine wp_loop_rounds 3 ?_
        rw [rounds_succ]
        go_wp2_with fail
        refine (HFC.out _ HN6.out).1.mono ?_
        rintro e w7 ⟨rfl, hb7⟩
        have d0 := cell_below hb7 c0
        have d1 := cell_below hb7 c1
        have HN7 := Lib.hid (HN6.out.below hb7)
        have HT7 := Lib.hid (HT6.out.below hb7)
        have HB7 := Lib.hid (HB6.out.trans (hb7.mono HB6.out.size))
        clear hb7 c0 c1
        go_wp2_with fail
        refine (HFC.out _ HN7.out).2.mono ?_
        rintro e w8 ⟨rfl, hb8⟩
        have c0 := cell_below hb8 d0
        have c1 := cell_below hb8 d1
        have HT8 := Lib.hid (HT7.out.below hb8)
        have HB8 := Lib.hid (HB7.out.trans (hb8.mono HB7.out.size))
        clear hb8 d0 d1
        rcases HF.out with ⟨rfl, hr0, rfl⟩ | ⟨rfl, rfl, hr0⟩
        rotate_left
        have hr1 : ¬ (0 : Int) ≤ fr := by omega
        rotate_left
        all_goals
          go_wp2_with fail
          rw [rounds_succ]
          go_wp2_with fail
          refine (HGC.out _ HT8.out).1.mono ?_
          rintro e w7 ⟨rfl, hb7⟩
          have d0 := cell_below hb7 c0
          have d1 := cell_below hb7 c1
          have HT9 := Lib.hid (HT8.out.below hb7)
          have HB9 := Lib.hid (HB8.out.trans (hb7.mono HB8.out.size))
          clear hb7 c0 c1
          go_wp2_with fail
          refine (HGC.out _ HT9.out).2.mono ?_
          rintro e wa ⟨rfl, hb8⟩
          have HBa := Lib.hid (HB9.out.trans (hb8.mono HB9.out.size))
          clear hb8 d0 d1
          rcases HG.out with ⟨rfl, hr0, rfl⟩ | ⟨rfl, rfl, hr0⟩
          rotate_left
          have hr1 : ¬ (0 : Int) ≤ gr := by omega
          rotate_left
          all_goals
            go_wp2_with fail
            rw [rounds_succ]
            go_wp2_with (go_at_call 13; refine (lives_any _).mono ?_; rintro e w' ⟨rfl, hb⟩)
            go_ret
            exact ⟨rfl, HBa.out.trans (hb.mono HBa.out.size)⟩
end Go.Proofs.Ytjbijljcolkioaa
