/- The walk of ExtentApart. -/
import Derived.Test.YtdlacafljlddhaaGState
import Derived.Test.YtdlacafljlddhaaAll
import Derived.Deep.OwnRows
namespace Go.Proofs.Ytdlacafljlddhaa
open Go.RowKit
set_option linter.unusedVariables false
set_option linter.unusedSimpArgs false

/-- Was a sector met, behind k sectors of page p of tenant t? -/
def met (ps : List PartT) (t p k : Nat) (s : Nat) : Bool :=
  (ownF ps 0 s).2.2.2 && decide ((ownF ps 0 s).1 < t ∨ ((ownF ps 0 s).1 = t ∧ ((ownF ps 0 s).2.1 < p ∨ ((ownF ps 0 s).2.1 = p ∧ (ownF ps 0 s).2.2.1 < k))))
theorem met_zero (ps : List PartT) (s : Nat) : met ps 0 0 0 s = false := by
  unfold met
  cases h : (ownF ps 0 s).2.2.2 with
  | false => rfl
  | true =>
    obtain ⟨j, x, h1, h2, h3, h4, h5, h6⟩ := own_out ps 0 s h
    simp only [Bool.true_and, decide_eq_false_iff_not]
    omega
theorem met_page (ps : List PartT) (t p s : Nat) : met ps t p 2 s = met ps t (p + 1) 0 s := by
  unfold met
  cases h : (ownF ps 0 s).2.2.2 with
  | false => rfl
  | true =>
    obtain ⟨j, x, h1, h2, h3, h4, h5, h6⟩ := own_out ps 0 s h
    simp only [Bool.true_and]
    rw [Bool.eq_iff_iff]
    simp only [decide_eq_true_eq]
    omega
theorem met_tenant (ps : List PartT) (t s : Nat) (n : Nat) (x : PartT) (hx : ps[t]? = some x) (hn : (n : Int) = x.2.2) : met ps t n 0 s = met ps (t + 1) 0 0 s := by
  unfold met
  cases h : (ownF ps 0 s).2.2.2 with
  | false => rfl
  | true =>
    obtain ⟨j, y, h1, h2, h3, h4, h5, h6⟩ := own_out ps 0 s h
    simp only [Bool.true_and]
    rw [Bool.eq_iff_iff]
    simp only [decide_eq_true_eq]
    by_cases e : j = t
    · subst e
      rw [hx] at h2
      obtain rfl := Option.some.inj h2
      omega
    · omega
theorem met_next {ps : List PartT} {sec : Int} (hc : Chain 0 ps sec) {t p k : Nat} {x : PartT} (hx : ps[t]? = some x) (hp : (p : Int) < x.2.2) (hk : k < 2) {a : Nat} (ha : (a : Int) = x.2.1 + 2 * p + k) (s : Nat) :
    met ps t p (k + 1) s = (decide (s = a) || met ps t p k s) := by
  unfold met
  have hin := own_in ps 0 sec 0 a t x hc hx (by omega) (by omega)
  by_cases e : s = a
  · subst e
    rw [hin]
    simp
    omega
  · cases h : (ownF ps 0 s).2.2.2 with
    | false => simp [e]
    | true =>
      obtain ⟨j, y, h1, h2, h3, h4, h5, h6⟩ := own_out ps 0 s h
      simp only [Bool.true_and]
      rw [Bool.eq_iff_iff]
      simp only [decide_eq_true_eq, Bool.or_eq_true]
      by_cases e2 : j = t
      · subst e2
        rw [hx] at h2
        obtain rfl := Option.some.inj h2
        omega
      · omega
theorem met_not {ps : List PartT} {sec : Int} (hc : Chain 0 ps sec) {t p k : Nat} {x : PartT} (hx : ps[t]? = some x) (hp : (p : Int) < x.2.2) (hk : k < 2) {a : Nat} (ha : (a : Int) = x.2.1 + 2 * p + k) : met ps t p k a = false := by
  unfold met
  rw [own_in ps 0 sec 0 a t x hc hx (by omega) (by omega)]
  simp
  omega

def PRow (wr : World) (b : Nat) (x y : Int) : Prop := wr.cell? ⟨b, 0, none⟩ = some (.int .i64 x) ∧ wr.cell? ⟨b, 1, none⟩ = some (.int .i64 y)
theorem PRow.below {w w1 : World} {b : Nat} {x y : Int} (h : PRow w b x y) (hb : Below w.heap.size w w1) : PRow w1 b x y := ⟨cell_below hb h.1, cell_below hb h.2⟩

/-- The configuration, and the row of those that were met. -/
structure XS (w wr : World) (G : Nat) (fr de : Int) (n gb cap : Nat) (ps : List PartT) (sb : Nat) (g : Nat → Bool) : Prop where
  gs : GState w wr G fr de n gb cap ps
  row : ∃ cs : Array Value, wr.heap[sb]? = some (.cells cs 4 (0, 0)) ∧ cs.size = n ∧ ∀ s, s < n → cs[s]? = some (.bool (g s))
  neG : sb ≠ G
  neg : sb ≠ gb
  lo : w.heap.size ≤ sb
theorem XS.below {w wr w1 : World} {G : Nat} {fr de : Int} {n gb cap : Nat} {ps : List PartT} {sb : Nat} {g : Nat → Bool} (h : XS w wr G fr de n gb cap ps sb g) (hb : Below wr.heap.size wr w1) : XS w w1 G fr de n gb cap ps sb g := by
  obtain ⟨cs, h1, h2, h3⟩ := h.row
  exact ⟨h.gs.below hb, ⟨cs, (hb.block _ (Array.getElem?_eq_some_iff.1 h1).1).trans h1, h2, h3⟩, h.neG, h.neg, h.lo⟩
theorem XS.congr {w wr : World} {G : Nat} {fr de : Int} {n gb cap : Nat} {ps : List PartT} {sb : Nat} {g g' : Nat → Bool} (h : XS w wr G fr de n gb cap ps sb g) (hg : ∀ s, g s = g' s) : XS w wr G fr de n gb cap ps sb g' := by
  obtain rfl : g = g' := funext hg
  exact h
theorem XS.set {w wr : World} {G : Nat} {fr de : Int} {n gb cap : Nat} {ps : List PartT} {sb : Nat} {g : Nat → Bool} (h : XS w wr G fr de n gb cap ps sb g) (a : Nat) : XS w (wr.setCell ⟨sb, a, none⟩ (.bool true)) G fr de n gb cap ps sb (fun s => decide (s = a) || g s) := by
  obtain ⟨cs, h1, h2, h3⟩ := h.row
  obtain ⟨g0, g1, g2, g3, g4, g5, g6⟩ := h.gs
  have far : ∀ b o, sb ≠ b → (wr.setCell ⟨sb, a, none⟩ (.bool true)).cell? ⟨b, o, none⟩ = wr.cell? ⟨b, o, none⟩ := fun b o hb => World.cell?_setCell_far _ _ _ _ (fun e => hb (show sb = b from e))
  refine ⟨⟨(far _ _ h.neG).trans g0, (far _ _ h.neG).trans g1, (far _ _ h.neG).trans g2, (far _ _ h.neG).trans g3, fun j x hx => ⟨(far _ _ h.neg).trans (g4 j x hx).1, (far _ _ h.neg).trans (g4 j x hx).2.1, (far _ _ h.neg).trans (g4 j x hx).2.2⟩, g5.setCell h.lo _, by simpa using g6⟩, ⟨cs.setIfInBounds a (.bool true), Go.heap_setCell_same wr sb a cs 4 _ h1, by simpa using h2, fun s hs => ?_⟩, h.neG, h.neg, h.lo⟩
  rw [Array.getElem?_setIfInBounds]
  split
  · next e => subst e; simp; omega
  · next e => rw [h3 s hs, show decide (s = a) = false by simp; omega]; rfl
set_option maxRecDepth 100000 in
set_option maxHeartbeats 4000000 in
theorem law_apart (f d s : Int) (A : Option Addr) (len cap : Nat) (l : List PartT) (w : World) (hin : InCfg w f d s A len cap l) :
    Calls Try.prog 7 #[.agg #[.int .i64 f, .int .i64 d, .int .i64 s, .slice A len cap]] w fun e w' => e = .returned (.bool true) ∧ Below w.heap.size w w' := by
  have HI := Lib.hid hin
  clear hin
  go_enter Try.func7, Try.ntmps7
  go_wp2_with fail
  refine (HI.out.good ((Below.refl _ _).alloc (Nat.le_refl _) _)).mono ?_
  rintro e w1 ⟨fr, de, sec, ps, gb, gcap, rfl, hp, hch, hl1, hl4, hs0, hs1, hcp, hgb, hb⟩
  obtain ⟨n, rfl⟩ := Int.eq_ofNat_of_zero_le hs0
  have hst := GState.mk0 (fr := fr) (de := de) (sec := (n : Int)) (cap := gcap) ((((Below.refl w.heap.size w).alloc (Nat.le_refl _) _).trans (hb.mono (by simp)))) hp
  have HCH := Lib.hid hch
  have HFIT := Lib.hid (chain_fit hch hs1)
  have hmk : ∀ w : World, Sem.run Try.prog (Instr.makeSlice 46 (.int .i64 (n : Int)) (.int .i64 (n : Int))) w = .ok (.slice (some ⟨w.heap.size, 0, none⟩) n n) (w.alloc (.cells (madeCells #[.bool false] n) 4)) := fun w => run_make_row' 46 4 (.bool false) 1 rfl (by kernel_rfl) rfl .i64 .i64 n (by omega) (by omega) w
  obtain ⟨w2, hw2⟩ : ∃ w2 : World, w2 = w1.alloc (.cells #[.int .i64 fr, .int .i64 de, .int .i64 n, .slice (some ⟨gb, 0, none⟩) ps.length gcap] 24) := ⟨_, rfl⟩
  rw [← hw2] at hst
  have hsz2 : w2.heap.size = w1.heap.size + 1 := by rw [hw2]; simp
  have hXS : XS w (w2.alloc (.cells (madeCells #[.bool false] n) 4)) w1.heap.size fr de n gb gcap ps w2.heap.size (met ps 0 0 0) := by
    refine ⟨hst.below ((Below.refl _ _).alloc (Nat.le_refl _) _), ⟨_, heap_alloc_new w2 _, by simp [size_madeCells], fun s hs => ?_⟩, by omega, by omega, by have := hst.2.2.2.2.2.1.size; omega⟩
    rw [met_zero]
    simp [madeCells, hs, Nat.mod_one]
  have HXS := Lib.hid hXS
  have HW2 := Lib.hid hw2
  clear hst hch hp hb hgb hXS hw2
  go_wp2_with fail
  rw [← HW2.out]
  rw [← hsz2]
  obtain ⟨sb, hsb⟩ : ∃ sb, sb = w2.heap.size := ⟨_, rfl⟩
  obtain ⟨G, hG⟩ : ∃ G, G = w1.heap.size := ⟨_, rfl⟩
  rw [← hsb, ← hG] at HXS ⊢
  clear hsb hG hsz2 HW2 hmk
  have hni : (n : Int) ≤ 42 := hs1
  go_loopw [5, 6, 7, 8, 9, 10, 11, 12, 13] (fun c _ _ _ _ _ _ _ _ wr => ∃ t : Nat, t ≤ ps.length ∧ c = .int .i64 t ∧ XS w wr G fr de n gb gcap ps sb (met ps t 0 0)) (fun c _ _ _ _ _ _ _ _ _ => ps.length - (intOf c).toNat)
  case atStart => exact ⟨0, by omega, rfl, HXS.out⟩
  case round =>
    obtain ⟨t, ht, rfl, hxs⟩ := hrel
    clear HXS
    have HXS := Lib.hid hxs
    obtain ⟨g0, g1, g2, g3, g4, g5, g6⟩ := hxs.gs
    have HB := Lib.hid g5
    clear g4 g5 g6 hxs
    by_cases hlt : t < ps.length
    · have hti : (t : Int) < (ps.length : Int) := by omega
      obtain ⟨x, hx⟩ : ∃ x, ps[t]? = some x := ⟨ps[t], List.getElem?_eq_getElem hlt⟩
      obtain ⟨z1, z2, z3, z4⟩ := chain_at ps 0 n HCH.out t x hx
      obtain ⟨q, hq⟩ := Int.eq_ofNat_of_zero_le (show 0 ≤ x.2.2 by omega)
      have HX := Lib.hid hx
      clear hx
      go_wp2_with fail
      go_loopw [6, 7, 8, 9, 10, 11, 12, 13] (fun c _ _ _ _ _ _ _ wr => ∃ p : Nat, p ≤ q ∧ c = .int .i64 p ∧ XS w wr G fr de n gb gcap ps sb (met ps t p 0)) (fun c _ _ _ _ _ _ _ _ => q - (intOf c).toNat)
      case atStart => exact ⟨0, by omega, rfl, HXS.out⟩
      case round =>
        obtain ⟨p, hp, rfl, hxs⟩ := hrel
        clear HXS g0 g1 g2 g3 HB
        have HXS := Lib.hid hxs
        obtain ⟨g0, g1, g2, g3, g4, g5, g6⟩ := hxs.gs
        have gp := (g4 t x HX.out).2.2
        rw [Nat.zero_add, hq] at gp
        have HG4 := Lib.hid g4
        have HB := Lib.hid g5
        clear g4 g5 hxs
        obtain ⟨wo, rfl⟩ : ∃ wo : World, wo = wr := ⟨_, rfl⟩
        by_cases hpq : p < q
        · have hpi : (p : Int) < (q : Int) := by omega
          have HALL := Lib.hid (all_any fr de n gb gcap ps t p wo HG4.out HFIT.out hl4)
          have e0 : secOf ps t p 0 = (x.2.1 + 2 * p + 0, 0) := by unfold secOf; rw [at?_nat, HX.out]; dsimp only; rw [if_pos (by omega)]
          have e1 : secOf ps t p 1 = (x.2.1 + 2 * p + 1, 0) := by unfold secOf; rw [at?_nat, HX.out]; dsimp only; rw [if_pos (by omega)]
          rw [e0, e1] at HALL
          dsimp only at HALL
          obtain ⟨a, ha⟩ := Int.eq_ofNat_of_zero_le (show 0 ≤ x.2.1 + 2 * (p : Int) by omega)
          rw [show x.2.1 + 2 * (p : Int) + 0 = (a : Int) by omega, show x.2.1 + 2 * (p : Int) + 1 = (a : Int) + 1 by omega] at HALL
          clear e0 e1
          go_wp2_with fail
          refine HALL.out.mono ?_
          rintro e w3 ⟨rfl, hb3⟩
          obtain ⟨ab, hab⟩ : ∃ ab, ab = w3.heap.size := ⟨_, rfl⟩
          have hx4 : XS w (w3.alloc (.cells #[.int .i64 (a : Int), .int .i64 ((a : Int) + 1)] 38)) G fr de n gb gcap ps sb (met ps t p 0) := (HXS.out.below hb3).below ((Below.refl _ _).alloc (Nat.le_refl _) _)
          have hp4 : PRow (w3.alloc (.cells #[.int .i64 (a : Int), .int .i64 ((a : Int) + 1)] 38)) w3.heap.size a ((a : Int) + 1) := ⟨by go_simp, by go_simp⟩
          have hsbab : sb ≠ w3.heap.size := by
            obtain ⟨cs, h1, _⟩ := HXS.out.row
            have := (Array.getElem?_eq_some_iff.1 h1).1
            have := hb3.size
            omega
          have HX4 := Lib.hid hx4
          have HP4 := Lib.hid hp4
          have hGl : G < w3.heap.size := by have := hb3.size; omega
          clear hb3 hx4 hp4 HALL g0 g1 g2 g3 gp HG4 HB HXS g6
          go_wp2_with fail
          rw [← hab] at HP4 hsbab ⊢
          clear hab hGl
          go_loopw [9, 10, 11, 12, 13] (fun c _ _ _ _ wr => ∃ k : Nat, k ≤ 2 ∧ c = .int .i64 k ∧ XS w wr G fr de n gb gcap ps sb (met ps t p k) ∧ PRow wr ab a ((a : Int) + 1)) (fun c _ _ _ _ _ => 2 - (intOf c).toNat)
          case atStart => exact ⟨0, by omega, rfl, HX4.out, HP4.out⟩
          case round =>
            obtain ⟨k, hk, rfl, hxs, hpr⟩ := hrel
            clear HX4 HP4
            have HXS := Lib.hid hxs
            have HPR := Lib.hid hpr
            obtain ⟨g0, g1, g2, g3, g4, g5, g6⟩ := hxs.gs
            obtain ⟨cs, h1, h2, h3⟩ := hxs.row
            have HG4 := Lib.hid g4
            have HB := Lib.hid g5
            have hsbl := (Array.getElem?_eq_some_iff.1 h1).1
            clear g4 g5 hxs
            obtain ⟨wo, rfl⟩ : ∃ wo : World, wo = wr := ⟨_, rfl⟩
            by_cases hk2 : k < 2
            · have hki : (k : Int) < 2 := by omega
              have hk0 : (0 : Int) ≤ (k : Int) := by omega
              obtain ⟨m, hm⟩ : ∃ m : Nat, m = a + k := ⟨_, rfl⟩
              have ha2 : (m : Int) = x.2.1 + 2 * (p : Int) + k := by omega
              have pk : wo.cell? ⟨ab, k, none⟩ = some (.int .i64 (m : Int)) := by
                rcases (show k = 0 ∨ k = 1 by omega) with rfl | rfl
                · rw [hpr.1, hm]; rfl
                · rw [hpr.2, hm]; rfl
              have hmn : m < n := by omega
              have hmi : (m : Int) < (n : Int) := by omega
              have hm0 : (0 : Int) ≤ (m : Int) := by omega
              have hm0n : ¬ (m : Int) < 0 := by omega
              have hmn2 : ¬ (n : Int) ≤ (m : Int) := by omega
              have hnot := met_not HCH.out HX.out (by omega) hk2 ha2
              have hown := own_in ps 0 n 0 m t x HCH.out HX.out (by omega) (by omega)
              have cm := cell_of_row wo sb m _ _ _ h1
              rw [h3 m hmn, hnot] at cm
              have fm := frozen_of_row wo sb m _ _ h1
              have hpl : ab < wo.heap.size := cell_lt pk
              have HXN := Lib.hid ((HXS.out.set m).congr (g' := met ps t p (k + 1)) (fun s => (met_next HCH.out HX.out (by omega) hk2 ha2 s).symm))
              have HOWN := Lib.hid (fun W (h : PartsIn W gb 0 ps) => owner_any fr de n gb gcap ps m W h HFIT.out hl4)
              have eo : ownF ps 0 (m : Int) = ((t : Int), (p : Int), (k : Int), true) := by
                rw [hown]
                refine Prod.ext (by simp) (Prod.ext ?_ (Prod.ext ?_ rfl))
                · show ((m : Int) - x.2.1) / 2 = p; omega
                · show ((m : Int) - x.2.1) % 2 = k; omega
              rw [eo] at HOWN
              dsimp only at HOWN
              have HPR2 := Lib.hid (show PRow (wo.setCell ⟨sb, m, none⟩ (.bool true)) ab a ((a : Int) + 1) from ⟨(World.cell?_setCell_far _ _ _ _ (fun e => hsbab (show sb = ab from e))).trans hpr.1, (World.cell?_setCell_far _ _ _ _ (fun e => hsbab (show sb = ab from e))).trans hpr.2⟩)
              have hsG := HXS.out.neG
              clear h1 h2 h3 hnot hown eo hpr hm ha2 HXS HPR HG4
              go_upto_region 15 with (fail)
              go_quiet (fail)
              rename_i nq
              go_upto_region 20 with (fail)
              obtain ⟨w5, hw5⟩ : ∃ w5 : World, w5 = (wo.drewN nq).setCell ⟨sb, m, none⟩ (.bool true) := ⟨_, rfl⟩
              rw [← hw5]
              have hb5 : Below (wo.setCell ⟨sb, m, none⟩ (.bool true)).heap.size (wo.setCell ⟨sb, m, none⟩ (.bool true)) w5 := by rw [hw5]; exact ⟨rfl, rfl, rfl, Nat.le_refl _, fun _ _ => rfl⟩
              have HX5 := Lib.hid (HXN.out.below hb5)
              have HP5 := Lib.hid (HPR2.out.below hb5)
              have hpr5 := HPR2.out.below hb5
              have pk : w5.cell? ⟨ab, k, none⟩ = some (.int .i64 (m : Int)) := by
                rw [hw5]
                exact (World.cell?_setCell_far _ _ _ _ (fun e => hsbab (show sb = ab from e))).trans pk
              obtain ⟨g0, g1, g2, g3, g4, g5, g6⟩ := HX5.out.gs
              have HG4 := Lib.hid g4
              clear hw5 hb5 HXN HPR2 hpr5 cm fm g4 g5
              have HO5 := Lib.hid (fun W (h : Below w5.heap.size w5 W) => HOWN.out W (HG4.out.below h))
              go_cut [10, 11, 12, 13] (fun a1 b1 c1 d1 wx => a1 = .int .i64 t ∧ b1 = .int .i64 p ∧ c1 = .int .i64 k ∧ d1 = .bool true ∧ XS w wx G fr de n gb gcap ps sb (met ps t p (k + 1)) ∧ PRow wx ab a ((a : Int) + 1))
              case first =>
                go_region_held3 (fun w' => w'.cell? ⟨G, 0, none⟩ = some (.int .i64 fr) ∧ w'.cell? ⟨G, 1, none⟩ = some (.int .i64 de) ∧ w'.cell? ⟨G, 2, none⟩ = some (.int .i64 n) ∧ w'.cell? ⟨G, 3, none⟩ = some (.slice (some ⟨gb, 0, none⟩) ps.length gcap) ∧ w'.cell? ⟨ab, k, none⟩ = some (.int .i64 m)) (first | (go_keep; done) | (exact ⟨cell_below (w := w5) (by (repeat (first | exact BF.out | exact Below.refl _ _ | apply below_drew))) g0, cell_below (w := w5) (by (repeat (first | exact BF.out | exact Below.refl _ _ | apply below_drew))) g1, cell_below (w := w5) (by (repeat (first | exact BF.out | exact Below.refl _ _ | apply below_drew))) g2, cell_below (w := w5) (by (repeat (first | exact BF.out | exact Below.refl _ _ | apply below_drew))) g3, cell_below (w := w5) (by (repeat (first | exact BF.out | exact Below.refl _ _ | apply below_drew))) pk⟩)) (first | (go_at_call 16; refine (HO5.out _ (by (repeat (first | exact BF.out | exact Below.refl _ _ | apply below_drew)))).mono ?_; rintro e w6 ⟨rfl, hbf⟩; have bf : Below w5.heap.size w5 w6 := below_then (by (repeat (first | exact BF.out | exact Below.refl _ _ | apply below_drew))) (by first | simp; done | omega | (simp; omega)) hbf; have BF := Lib.hid bf; clear hbf bf))
                all_goals (go_wp2_with fail; go_meet; exact ⟨rfl, rfl, rfl, rfl, HX5.out.below (by (repeat (first | exact BF.out | exact Below.refl _ _ | apply below_drew))), HP5.out.below (by (repeat (first | exact BF.out | exact Below.refl _ _ | apply below_drew)))⟩)
              case rest =>
                obtain ⟨rfl, rfl, rfl, rfl, hx6, hp6⟩ := hcut
                have HX6 := Lib.hid hx6
                have HP6 := Lib.hid hp6
                clear hx6 hp6 HX5 HP5
                go_wp2_with fail
                go_roundw
                case rel => exact ⟨k + 1, by omega, by go_num, HX6.out, HP6.out⟩
                case measure => simp [intOf]; omega
            · have e : k = 2 := by omega
              subst e
              clear h1 h2 h3 hpr
              go_wp2_with fail
              go_roundw
              case rel => exact ⟨p + 1, by omega, by go_num, HXS.out.congr fun s => met_page ps t p s⟩
              case measure => simp [intOf]; omega
        · have e : p = q := by omega
          subst e
          go_wp2_with fail
          go_roundw
          case rel => exact ⟨t + 1, by omega, by go_num, HXS.out.congr fun s => met_tenant ps t s p x HX.out hq.symm⟩
          case measure => simp [intOf]; omega
    · have e : t = ps.length := by omega
      subst e
      go_wp2_with fail
      refine (lives_any _).mono ?_
      rintro e w2 ⟨rfl, hb2⟩
      have HB2 := Lib.hid hb2
      clear hb2
      go_wp2_with fail
      go_ret
      exact ⟨rfl, HB.out.trans (HB2.out.mono HB.out.size)⟩
end Go.Proofs.Ytdlacafljlddhaa
