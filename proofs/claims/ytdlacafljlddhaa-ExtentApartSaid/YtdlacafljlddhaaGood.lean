/- What allotmentref05.Good makes of a configuration: parts one behind the other. -/
import Derived.Test.YtdlacafljlddhaaBase
namespace Go.Proofs.Ytdlacafljlddhaa
open Go.RowKit
set_option linter.unusedVariables false
set_option linter.unusedSimpArgs false

theorem around_any (a m : Int) (w : World) (hm : 0 < m) (hm' : m ≤ 9223372036854775807) (ha : -9223372036854775808 ≤ a) (ha' : a ≤ 9223372036854775807) :
    Calls Try.prog 12 #[.int .i64 a, .int .i64 m] w fun e w' => e = .returned (.int .i64 (ar a m)) ∧ w = w' := by
  have hm0 : (m == 0) = false := by simp; omega
  by_cases h : a < 0
  · have E : ar a m = (-(a + 1)) % m := by unfold ar; rw [if_pos h]
    rw [E]
    clear E
    have h1 : wrap64 (a + 1) = a + 1 := by unfold wrap64; omega
    have h2 : wrap64 (-(a + 1)) = -(a + 1) := by unfold wrap64; omega
    have h3 : Int.tmod (-(a + 1)) m = (-(a + 1)) % m := Int.tmod_eq_emod_of_nonneg (by omega)
    go_enter Try.func12, Try.ntmps12
    go_wp2
    go_ret
    exact ⟨by simp, rfl⟩
  · have E : ar a m = a % m := by unfold ar; rw [if_neg h]
    rw [E]
    clear E
    go_enter Try.func12, Try.ntmps12
    go_wp2
    go_ret
    exact ⟨by simp, rfl⟩
/-- A call of Around: some number below m. -/
theorem around_some (a m : Int) (hm : 0 < m) (hm' : m ≤ 9223372036854775807) (ha : (Lit.int .i64 a).wf = true) :
    ∃ y, 0 ≤ y ∧ y < m ∧ ∀ w, Calls Try.prog 12 #[.int .i64 a, .int .i64 m] w fun e w' => e = .returned (.int .i64 y) ∧ w = w' :=
  ⟨ar a m, ar_lo a m hm, ar_hi a m hm, fun w => around_any a m w hm hm' (wf64 ha).1 (wf64 ha).2⟩

/-- A part: its quota, base and pages. -/
abbrev PartT := Int × Int × Int
def PartOk (x : PartT) : Prop := (Lit.int .i64 x.1).wf = true ∧ (Lit.int .i64 x.2.1).wf = true ∧ (Lit.int .i64 x.2.2).wf = true
/-- Parts in memory, from a place on. -/
def PartsIn (w : World) (b o : Nat) (l : List PartT) : Prop :=
  ∀ j x, l[j]? = some x → w.cell? ⟨b, o + j * 3, none⟩ = some (.int .i64 x.1) ∧ w.cell? ⟨b, o + j * 3 + 1, none⟩ = some (.int .i64 x.2.1) ∧ w.cell? ⟨b, o + j * 3 + 2, none⟩ = some (.int .i64 x.2.2)
/-- Parts one behind the other, from a sector on, as Good makes them. -/
def Chain : Int → List PartT → Int → Prop
  | a, [], s => a ≤ s
  | a, x :: r, s => 1 ≤ x.1 ∧ x.1 ≤ 3 ∧ a ≤ x.2.1 ∧ 1 ≤ x.2.2 ∧ x.2.2 ≤ 4 ∧ Chain (x.2.1 + 2 * x.2.2) r s
def partVals (l : List PartT) : List Value := l.flatMap fun x => [.int .i64 x.1, .int .i64 x.2.1, .int .i64 x.2.2]
theorem partVals_append (l : List PartT) (x : PartT) : partVals (l ++ [x]) = partVals l ++ [.int .i64 x.1, .int .i64 x.2.1, .int .i64 x.2.2] := by simp [partVals]

theorem info48 : (Try.prog.info? 48).map (fun i => (i.zero, i.size, i.bytes)) = some (some (.agg #[.int .i64 0, .int .i64 0, .int .i64 0]), 3, 24) := by kernel_rfl

/-- What stands behind the choice of the parts: the parts that are read, not none. -/
def GoodMid (w : World) (f d s : Int) (v : Value) (wc : World) : Prop :=
  ∃ b o c l, v = .slice (some ⟨b, o, none⟩) (List.length (α := PartT) l) c ∧ PartsIn wc b o l ∧ (∀ x ∈ l, PartOk x) ∧ 1 ≤ l.length ∧ l.length ≤ 4 ∧ b < wc.heap.size ∧
    wc.cell? ⟨w.heap.size, 1, none⟩ = some (.int .i64 d) ∧ wc.cell? ⟨w.heap.size, 2, none⟩ = some (.int .i64 s) ∧ wc.heap[w.heap.size + 1]? = some (.cells #[.int .i64 0, .int .i64 0, .int .i64 0, .slice none 0 0] 24) ∧
    Below w.heap.size w wc ∧ w.heap.size + 2 ≤ wc.heap.size

def GoodRel (wc : World) (y : Int) (n : Nat) (at_ i : Value) (wr : World) : Prop :=
  ∃ (k : Nat) (ps : List PartT) (t fr : Int) (v : Value), k ≤ n ∧ i = .int .i64 k ∧ at_ = .int .i64 t ∧ ps.length = k ∧ Chain 0 ps t ∧ 0 ≤ t ∧ t ≤ 10 * k ∧ 0 ≤ fr ∧ fr ≤ 3 * k ∧
    wr.heap[wc.heap.size]? = some (.cells #[.int .i64 fr, .int .i64 (1 + y), .int .i64 0, v] 24) ∧ wr.ownsRow (wc.heap.size + 1) 48 3 v k (partVals ps) ∧ Below wc.heap.size wc wr

theorem chain_snoc : ∀ (ps : List PartT) (a t : Int) (x : PartT), Chain a ps t → t ≤ x.2.1 → 1 ≤ x.1 → x.1 ≤ 3 → 1 ≤ x.2.2 → x.2.2 ≤ 4 → Chain a (ps ++ [x]) (x.2.1 + 2 * x.2.2)
  | [], a, t, x, h, h1, h2, h3, h4, h5 => ⟨h2, h3, Int.le_trans h h1, h4, h5, Int.le_refl _⟩
  | z :: r, a, t, x, h, h1, h2, h3, h4, h5 => ⟨h.1, h.2.1, h.2.2.1, h.2.2.2.1, h.2.2.2.2.1, chain_snoc r _ t x h.2.2.2.2.2 h1 h2 h3 h4 h5⟩
theorem chain_mono : ∀ (ps : List PartT) (a t t' : Int), Chain a ps t → t ≤ t' → Chain a ps t'
  | [], a, t, t', h, h1 => Int.le_trans h h1
  | z :: r, a, t, t', h, h1 => ⟨h.1, h.2.1, h.2.2.1, h.2.2.2.1, h.2.2.2.2.1, chain_mono r _ t t' h.2.2.2.2.2 h1⟩

theorem goodRel_step {w0 wr wc w1 : World} {y t fr q u p : Int} {n k c1 : Nat} {ps : List PartT} {v : Value} {A1 : Option Addr} (hlt : k < n) (hps : ps.length = k) (hch : Chain 0 ps t) (ht0 : 0 ≤ t) (ht1 : t ≤ 10 * k) (hf0 : 0 ≤ fr) (hf1 : fr ≤ 3 * k)
    (q0 : 0 ≤ q) (q1 : q < 3) (u0 : 0 ≤ u) (u1 : u < 3) (p0 : 0 ≤ p) (p1 : p < 4)
    (hG1 : w1.heap[w0.heap.size]? = some (.cells #[.int .i64 fr, .int .i64 (1 + y), .int .i64 0, v] 24)) (hO1 : w1.ownsRow (w0.heap.size + 1) 48 3 (.slice A1 (k + 1) c1) (k + 1) (partVals ps ++ [.int .i64 (1 + q), .int .i64 (t + u), .int .i64 (1 + p)]))
    (hbl : Below w0.heap.size w0 wr) (hbx : Below wr.heap.size wr wc) (hb1 : Below (w0.heap.size + 1) wc w1) :
    GoodRel w0 y n (.int .i64 (t + u + 2 * (1 + p))) (.int .i64 ((k : Int) + 1)) ((w1.setCell ⟨w0.heap.size, 3, none⟩ (.slice A1 (k + 1) c1)).setCell ⟨w0.heap.size, 0, none⟩ (.int .i64 (fr + (1 + q)))) := by
  have h1 := heap_setCell_same w1 w0.heap.size 3 _ _ (.slice A1 (k + 1) c1) hG1
  have h2 := heap_setCell_same _ w0.heap.size 0 _ _ (.int .i64 (fr + (1 + q))) h1
  refine ⟨k + 1, ps ++ [(1 + q, t + u, 1 + p)], t + u + 2 * (1 + p), fr + (1 + q), .slice A1 (k + 1) c1, by omega, by go_num, rfl, by simp; omega, chain_snoc ps 0 t _ hch ?_ ?_ ?_ ?_ ?_, by omega, by omega, by omega, by omega, h2, ?_, ?_⟩
  · show t ≤ t + u; omega
  · show 1 ≤ 1 + q; omega
  · show 1 + q ≤ 3; omega
  · show 1 ≤ 1 + p; omega
  · show 1 + p ≤ 4; omega
  · rw [partVals_append]
    exact ownsRow_setCell_below (ownsRow_setCell_below hO1 (by simp) _) (by simp) _
  · exact ((((hbl.trans (hbx.mono hbl.size)).trans (hb1.mono (by omega))).setCell (Nat.le_refl _) _).setCell (Nat.le_refl _) _)

theorem partVals_get : ∀ (ps : List PartT) (j : Nat) (x : PartT), ps[j]? = some x → (partVals ps)[j * 3]? = some (.int .i64 x.1) ∧ (partVals ps)[j * 3 + 1]? = some (.int .i64 x.2.1) ∧ (partVals ps)[j * 3 + 2]? = some (.int .i64 x.2.2)
  | [], j, x, h => by simp at h
  | z :: r, 0, x, h => by
    obtain rfl : z = x := by simpa using h
    simp [partVals]
  | z :: r, j + 1, x, h => by
    obtain ⟨h0, h1, h2⟩ := partVals_get r j x (by simpa using h)
    have e : partVals (z :: r) = [.int .i64 z.1, .int .i64 z.2.1, .int .i64 z.2.2] ++ partVals r := by simp [partVals]
    rw [e]
    refine ⟨?_, ?_, ?_⟩
    · rw [List.getElem?_append_right (by simp; omega), ← h0]; congr 1; simp; omega
    · rw [List.getElem?_append_right (by simp; omega), ← h1]; congr 1; simp; omega
    · rw [List.getElem?_append_right (by simp; omega), ← h2]; congr 1; simp; omega
theorem own_parts {w : World} {base g n c : Nat} {ps : List PartT} (h : w.ownsRow base 48 3 (.slice (some ⟨g, 0, none⟩) n c) n (partVals ps)) : PartsIn w g 0 ps := by
  intro j x hx
  obtain ⟨h0, h1, h2⟩ := partVals_get ps j x hx
  have k0 := h.cells (g := g) rfl _ _ h0
  have k1 := h.cells (g := g) rfl _ _ h1
  have k2 := h.cells (g := g) rfl _ _ h2
  rw [add_plain] at k0 k1 k2
  rw [Nat.zero_add]
  exact ⟨k0, k1, k2⟩
/-- What Good hands back. -/
def GoodPost (w : World) (e : Ending) (w' : World) : Prop :=
  ∃ (fr de sec : Int) (ps : List PartT) (gb cap : Nat), e = .returned (.agg #[.int .i64 fr, .int .i64 de, .int .i64 sec, .slice (some ⟨gb, 0, none⟩) ps.length cap]) ∧
    PartsIn w' gb 0 ps ∧ Chain 0 ps sec ∧ 1 ≤ ps.length ∧ ps.length ≤ 4 ∧ 0 ≤ sec ∧ sec ≤ 42 ∧ ps.length ≤ cap ∧ gb < w'.heap.size ∧ Below w.heap.size w w'
theorem goodPost_mk {w w0 wr : World} {y t z fr : Int} {n c1 : Nat} {ps : List PartT} {A1 : Option Addr} (hn1 : 1 ≤ n) (hn4 : n ≤ 4) (hps : ps.length = n) (hch : Chain 0 ps t) (ht0 : 0 ≤ t) (ht1 : t ≤ 10 * n) (z0 : 0 ≤ z) (z1 : z < 3)
    (hO : wr.ownsRow (w0.heap.size + 1) 48 3 (.slice A1 n c1) n (partVals ps)) (hbl : Below w0.heap.size w0 wr) (hb : Below w.heap.size w w0) (hsz : w.heap.size + 2 ≤ w0.heap.size) (hlt : w0.heap.size < wr.heap.size) :
    GoodPost w (.returned (.agg #[.int .i64 fr, .int .i64 (1 + y), .int .i64 (t + z), .slice A1 n c1])) (((((wr.setCell ⟨w0.heap.size, 2, none⟩ (.int .i64 (t + z))).setCell ⟨w.heap.size + 1, 0, none⟩ (.int .i64 fr)).setCell ⟨w.heap.size + 1, 1, none⟩ (.int .i64 (1 + y))).setCell ⟨w.heap.size + 1, 2, none⟩ (.int .i64 (t + z))).setCell ⟨w.heap.size + 1, 3, none⟩ (.slice A1 n c1)) := by
  subst hps
  have hO2 : (((((wr.setCell ⟨w0.heap.size, 2, none⟩ (.int .i64 (t + z))).setCell ⟨w.heap.size + 1, 0, none⟩ (.int .i64 fr)).setCell ⟨w.heap.size + 1, 1, none⟩ (.int .i64 (1 + y))).setCell ⟨w.heap.size + 1, 2, none⟩ (.int .i64 (t + z))).setCell ⟨w.heap.size + 1, 3, none⟩ (.slice A1 ps.length c1)).ownsRow (w0.heap.size + 1) 48 3 (.slice A1 ps.length c1) ps.length (partVals ps) :=
    ownsRow_setCell_below (ownsRow_setCell_below (ownsRow_setCell_below (ownsRow_setCell_below (ownsRow_setCell_below hO (by simp) _) (by simp; omega) _) (by simp; omega) _) (by simp; omega) _) (by simp; omega) _
  rcases hO2.2 with ⟨h1, h2⟩ | ⟨g, cap, cur, hv, _, hh, hle, _⟩
  · omega
  · have hlen := hO2.lt g (by rw [hv]; rfl)
    obtain ⟨rfl, rfl⟩ : A1 = some ⟨g, 0, none⟩ ∧ c1 = cap := by
      injection hv with h1 h2 h3
      exact ⟨h1, h3⟩
    refine ⟨fr, 1 + y, t + z, ps, g, c1, rfl, own_parts hO2, chain_mono ps 0 t _ hch (by omega), hn1, hn4, by omega, by omega, hle, hlen.2, ?_⟩
    exact (((((hb.trans (hbl.mono (by omega))).setCell (by simp; omega) _).setCell (by simp) _).setCell (by simp) _).setCell (by simp) _).setCell (by simp) _

/-- A part has been put into a new block. -/
def PutPart (wr wx : World) (q u p : Int) : Prop :=
  wx.cell? ⟨wr.heap.size, 0, none⟩ = some (.int .i64 q) ∧ wx.cell? ⟨wr.heap.size, 1, none⟩ = some (.int .i64 u) ∧ wx.cell? ⟨wr.heap.size, 2, none⟩ = some (.int .i64 p) ∧ Below wr.heap.size wr wx ∧ wr.heap.size < wx.heap.size
theorem putPart_mk (wr : World) (q u p : Int) : PutPart wr (wr.alloc (.cells #[.int .i64 q, .int .i64 u, .int .i64 p] 48)).drew q u p :=
  ⟨by go_simp, by go_simp, by go_simp, below_drew ((Below.refl _ _).alloc (Nat.le_refl _) _), by simp⟩

set_option maxHeartbeats 4000000 in
theorem good_any (f d s : Int) (A : Option Addr) (len cap : Nat) (l : List PartT) (w : World)
    (hf : (Lit.int .i64 f).wf = true) (hd : (Lit.int .i64 d).wf = true) (hs : (Lit.int .i64 s).wf = true) (hlen : len ≤ 9223372036854775807) (hcap : len ≤ cap)
    (hl : l.length = min len 4) (hin : 0 < len → ∃ b o, A = some ⟨b, o, none⟩ ∧ PartsIn w b o l) (hok : ∀ x ∈ l, PartOk x) :
    Calls Try.prog 8 #[.agg #[.int .i64 f, .int .i64 d, .int .i64 s, .slice A len cap]] w (GoodPost w) := by
  have HIN := Lib.hid hin
  have HOK := Lib.hid hok
  have HL := Lib.hid hl
  clear hin hok hl
  go_enter Try.func8, Try.ntmps8
  go_upto_if 17 with (fail)
  go_cut [3] (fun v wc => GoodMid w f d s v wc)
  case first =>
    by_cases h0 : len = 0
    · subst h0
      go_wp2
      go_meet
      refine ⟨_, 0, 1, [(0, 0, 0)], rfl, ?_, ?_, by simp, by simp, by simp, by go_simp, by go_simp, ?_, ?_, by simp⟩
      · intro j x hx
        rcases j with _ | j
        · obtain rfl : (0, 0, 0) = x := by simpa using hx
          exact ⟨by go_simp, by go_simp, by go_simp⟩
        · simp at hx
      · intro x hx
        obtain rfl : x = (0, 0, 0) := by simpa using hx
        exact ⟨rfl, rfl, rfl⟩
      · rw [Below.heap_alloc _ _ _ (by simp)]
        exact heap_alloc2_new _ _ _
      · exact (((Below.refl _ _).alloc (Nat.le_refl _) _).alloc (by simp) _).alloc (by simp; omega) _
    · obtain ⟨b, o, rfl, hp⟩ := HIN.out (by omega)
      have hlen0 := HL.out
      have hb : b < w.heap.size := by
        obtain ⟨x, hx⟩ : ∃ x, l[0]? = some x := ⟨l[0], List.getElem?_eq_getElem (by omega)⟩
        exact cell_lt (hp 0 x hx).1
      have HP : Hid (PartsIn ((w.alloc (.cells #[.int .i64 f, .int .i64 d, .int .i64 s, .slice (some ⟨b, o, none⟩) len cap] 24)).alloc (.cells #[.int .i64 0, .int .i64 0, .int .i64 0, .slice none 0 0] 24)) b o l) := by
        intro j x hx
        obtain ⟨h1, h2, h3⟩ := hp j x hx
        have hB : Below w.heap.size w ((w.alloc (.cells #[.int .i64 f, .int .i64 d, .int .i64 s, .slice (some ⟨b, o, none⟩) len cap] 24)).alloc (.cells #[.int .i64 0, .int .i64 0, .int .i64 0, .slice none 0 0] 24)) := ((Below.refl _ _).alloc (Nat.le_refl _) _).alloc (by simp) _
        exact ⟨cell_below hB h1, cell_below hB h2, cell_below hB h3⟩
      clear hp
      by_cases h4 : 4 < len
      · have h4' : (4 : Int) < (len : Int) := by omega
        have e4 : l.length = 4 := by omega
        have E4 := Lib.hid e4
        clear e4 hlen0 h0
        go_wp2
        go_meet
        refine ⟨b, o, cap, l, by rw [E4.out], HP.out, HOK.out, by rw [E4.out]; omega, by rw [E4.out]; omega, by simp; omega, by go_simp, by go_simp, heap_alloc2_new _ _ _, ?_, by simp⟩
        exact ((Below.refl _ _).alloc (Nat.le_refl _) _).alloc (by simp) _
      · have h4' : ¬ (4 : Int) < (len : Int) := by omega
        have e0 : ((len : Int) == 0) = false := by simp; omega
        have e4 : l.length = len := by omega
        have h1 : 1 ≤ len := by omega
        have E4 := Lib.hid e4
        clear e4 hlen0 h0
        go_wp2
        go_meet
        refine ⟨b, o, cap, l, by rw [E4.out], HP.out, HOK.out, by rw [E4.out]; omega, by rw [E4.out]; omega, by simp; omega, by go_simp, by go_simp, heap_alloc2_new _ _ _, ?_, by simp⟩
        exact ((Below.refl _ _).alloc (Nat.le_refl _) _).alloc (by simp) _
  case rest =>
    clear HIN HOK HL
    obtain ⟨b, o, c, l, rfl, hp, hok, hl1, hl4, hb, hc1, hc2, hr, hbel, hsz⟩ := hcut
    obtain ⟨w0, rfl⟩ : ∃ w0 : World, w0 = wc := ⟨_, rfl⟩
    obtain ⟨y, y0, y1, hA⟩ := around_some d 4 (by omega) (by omega) hd
    obtain ⟨z, z0, z1, hB⟩ := around_some s 3 (by omega) (by omega) hs
    have HA := Lib.hid hA
    have HB := Lib.hid hB
    have HP := Lib.hid hp
    have HOK := Lib.hid hok
    have HR := Lib.hid hr
    have HBEL := Lib.hid hbel
    clear hA hB hp hok hr hbel
    go_wp2_with fail
    refine (HA.out _).mono ?_
    rintro e w' ⟨rfl, rfl⟩
    go_wp2_with fail
    go_loopw [5, 6] (fun at_ i wr => GoodRel w0 y l.length at_ i wr) (fun _ i _ => l.length - (intOf i).toNat)
    case atStart => exact ⟨0, [], 0, 0, .slice none 0 0, by omega, rfl, rfl, rfl, by simp [Chain], by omega, by omega, by omega, by omega, heap_alloc_new _ _, own_nil _ _ _ _, (Below.refl _ _).alloc (Nat.le_refl _) _⟩
    case round =>
      obtain ⟨k, ps, t, fr, v, hk, rfl, rfl, hps, hch, ht0, ht1, hf0, hf1, hG, hown, hbl⟩ := hrel
      have hGlt : w0.heap.size < wr.heap.size := (Array.getElem?_eq_some_iff.1 hG).1
      have g0 := cell_of_row wr w0.heap.size 0 _ _ _ hG
      have g3 := cell_of_row wr w0.heap.size 3 _ _ _ hG
      have gf := fun j => frozen_of_row wr w0.heap.size j _ _ hG
      simp at g0 g3
      have HG := Lib.hid hG
      have HO := Lib.hid hown
      have HBL := Lib.hid hbl
      have HCH := Lib.hid hch
      have HPS := Lib.hid hps
      clear hG hown hbl hch hps
      by_cases hlt : k < l.length
      · have hx : l[k]? = some l[k] := List.getElem?_eq_getElem hlt
        obtain ⟨c0, c1, c2⟩ := HP.out k _ hx
        obtain ⟨o0, o1, o2⟩ := HOK.out _ (List.getElem_mem hlt)
        have e0 := (HBL.out.cell (p := ⟨b, o + k * 3, none⟩) hb).trans c0
        have e1 := (HBL.out.cell (p := ⟨b, o + k * 3 + 1, none⟩) hb).trans c1
        have e2 := (HBL.out.cell (p := ⟨b, o + k * 3 + 2, none⟩) hb).trans c2
        obtain ⟨q, q0, q1, hq⟩ := around_some l[k].1 3 (by omega) (by omega) o0
        obtain ⟨u, u0, u1, hu⟩ := around_some l[k].2.1 3 (by omega) (by omega) o1
        obtain ⟨p, p0, p1, hp⟩ := around_some l[k].2.2 4 (by omega) (by omega) o2
        generalize l[k].1 = Q at *
        generalize l[k].2.1 = U at *
        generalize l[k].2.2 = P at *
        have HQ := Lib.hid hq
        have HU := Lib.hid hu
        have HV := Lib.hid hp
        have hk0 : (0 : Int) ≤ (k : Int) := Int.natCast_nonneg _
        have hk1 : (k : Int) < (l.length : Int) := by omega
        clear hx c0 c1 c2 o0 o1 o2 hq hu hp
        go_upto_region 9 with (fail)
        go_cut [7] (fun v7 wx => v7 = .pointer (some ⟨wr.heap.size, 0, none⟩) ∧ PutPart wr wx (1 + q) (t + u) (1 + p))
        case first =>
          have w1 : IntKind.i64.wrap (1 + q) = 1 + q := IntWalk.i64_in _ (by omega)
          have w2 : IntKind.i64.wrap (t + u) = t + u := IntWalk.i64_in _ (by omega)
          have w3 : IntKind.i64.wrap (1 + p) = 1 + p := IntWalk.i64_in _ (by omega)
          go_region_held3 (fun w' => w'.cell? ⟨b, o + k * 3, none⟩ = some (.int .i64 Q) ∧ w'.cell? ⟨b, o + k * 3 + 1, none⟩ = some (.int .i64 U) ∧ w'.cell? ⟨b, o + k * 3 + 2, none⟩ = some (.int .i64 P)) (first | go_keep) (first | (go_at_call_of 12 (Value.int .i64 Q); refine (HQ.out _).mono ?_; rintro e w' ⟨rfl, rfl⟩) | (go_at_call_of 12 (Value.int .i64 U); refine (HU.out _).mono ?_; rintro e w' ⟨rfl, rfl⟩) | (go_at_call_of 12 (Value.int .i64 P); refine (HV.out _).mono ?_; rintro e w' ⟨rfl, rfl⟩))
          all_goals (go_wp2_with fail; go_meet; exact ⟨rfl, putPart_mk _ _ _ _⟩)
        case rest =>
          obtain ⟨rfl, p0', p1', p2', hbx, hsx⟩ := hcut
          have hGx : w0.heap.size < wc.heap.size := by omega
          have hGs : wc.heap[w0.heap.size]? = _ := (hbx.block _ hGlt).trans HG.out
          have g0' := cell_of_row wc w0.heap.size 0 _ _ _ hGs
          have g3' := cell_of_row wc w0.heap.size 3 _ _ _ hGs
          have gf' := fun j => frozen_of_row wc w0.heap.size j _ _ hGs
          simp at g0' g3'
          have HGS := Lib.hid hGs
          have HOX := Lib.hid (own_below HO.out hbx)
          have HBX := Lib.hid hbx
          have hle : w0.heap.size + 1 ≤ wc.heap.size := by omega
          clear hGs hbx g0 g3 gf e0 e1 e2
          have hne : ∀ b', wr.heap.size ≤ b' → some b' ≠ v.ownBlock := fun b' hb' e => by have := (HO.out.lt b' e.symm).2; omega
          have HNE := Lib.hid hne
          clear hne
          go_wp2_with (at_builtin; go_must (refine app_one HOX.out [.int .i64 (1 + q), .int .i64 (t + u), .int .i64 (1 + p)] rfl rfl Try.underlying22 info48 rfl (by decide) rfl rfl rfl rfl ?_ hle (by omega) (by omega) ?_; (simp [Value.oneCell']); intro v1 w1 hown1 hbel1 hgr1; obtain ⟨A1, c1, rfl⟩ := own_slice hown1; have hG1 : w1.heap[w0.heap.size]? = _ := (hbel1.block _ (by omega)).trans HGS.out; have hG1s : w0.heap.size < w1.heap.size := (by have := hbel1.size; omega); have k0 := cell_of_row w1 w0.heap.size 0 _ _ _ hG1; have k3 := cell_of_row w1 w0.heap.size 3 _ _ _ hG1; have kf := fun j => frozen_of_row w1 w0.heap.size j _ _ hG1; have r0 := hgr1.cell p0' (HNE.out _ (Nat.le_refl _)); have r1 := hgr1.cell p1' (HNE.out _ (Nat.le_refl _)); have r2 := hgr1.cell p2' (HNE.out _ (Nat.le_refl _)); have hlt3 : wr.heap.size ≠ w0.heap.size := (by omega); (simp at k0 k3); have HG1 := Lib.hid hG1; have HO1 := Lib.hid hown1; have HB1 := Lib.hid hbel1; clear hG1 hown1 hbel1 hgr1 g0' g3' gf' p0' p1' p2'))
          go_roundw
          case rel => exact goodRel_step hlt HPS.out HCH.out ht0 ht1 hf0 hf1 q0 q1 u0 u1 p0 p1 HG1.out HO1.out HBL.out HBX.out HB1.out
          case measure => simp [intOf]; omega
      · obtain rfl : k = l.length := by omega
        obtain ⟨A1, c1, rfl⟩ := own_slice HO.out
        have hs1 := (HBL.out.cell (p := ⟨w.heap.size, 2, none⟩) (by show w.heap.size < w0.heap.size; omega)).trans hc2
        have hG2 := Lib.hid hGlt
        have hR2 : wr.heap[w.heap.size + 1]? = _ := (HBL.out.block _ (by omega)).trans HR.out
        have r0 := cell_of_row wr (w.heap.size + 1) 0 _ _ _ hR2
        have r1 := cell_of_row wr (w.heap.size + 1) 1 _ _ _ hR2
        have r2 := cell_of_row wr (w.heap.size + 1) 2 _ _ _ hR2
        have r3 := cell_of_row wr (w.heap.size + 1) 3 _ _ _ hR2
        have rf := fun j => frozen_of_row wr (w.heap.size + 1) j _ _ hR2
        have g1 := cell_of_row wr w0.heap.size 1 _ _ _ HG.out
        have g2 := cell_of_row wr w0.heap.size 2 _ _ _ HG.out
        simp at r0 r1 r2 r3 g1 g2
        have HR2 := Lib.hid hR2
        clear hR2
        go_wp2_with fail
        refine (HB.out _).mono ?_
        rintro e w' ⟨rfl, rfl⟩
        go_wp2_with fail
        have hF1 := heap_setCell_other wr ⟨w0.heap.size, 2, none⟩ (w.heap.size + 1) (.int .i64 (t + z)) (by simp; omega)
        have hF2 := heap_setCell_same _ (w.heap.size + 1) 0 _ _ (.int .i64 fr) (hF1.trans HR2.out)
        have hF3 := heap_setCell_same _ (w.heap.size + 1) 1 _ _ (.int .i64 (1 + y)) hF2
        have hF4 := heap_setCell_same _ (w.heap.size + 1) 2 _ _ (.int .i64 (t + z)) hF3
        have hF5 := heap_setCell_same _ (w.heap.size + 1) 3 _ _ (.slice A1 l.length c1) hF4
        refine bodyPost_ret (results_cell_row (fn := Try.f8) (p := 2) (ty := 24) rfl _ _ (w.heap.size + 1) 24 #[.int .i64 fr, .int .i64 (1 + y), .int .i64 (t + z), .slice A1 l.length c1] (0, 0) _ rfl hF5 Try.underlying24 rfl (by kernel_rfl)) rfl ?_
        exact goodPost_mk hl1 hl4 HPS.out HCH.out ht0 ht1 z0 z1 HO.out HBL.out HBEL.out hsz hG2.out
end Go.Proofs.Ytdlacafljlddhaa
