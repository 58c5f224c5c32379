/- The walk of ExtentSectors. -/
import Derived.Test.YtdlacafljlddhaaGState
import Derived.Test.YtdlacafljlddhaaAll
namespace Go.Proofs.Ytdlacafljlddhaa
open Go.RowKit
set_option linter.unusedVariables false
set_option linter.unusedSimpArgs false

def Row3 (wr : World) (b : Nat) (f : Nat → Int) : Prop := ∀ j, j < 3 → wr.cell? ⟨b, j, none⟩ = some (.int .i64 (f j))
theorem Row3.below {w w1 : World} {b : Nat} {f : Nat → Int} (h : Row3 w b f) (hb : Below w.heap.size w w1) : Row3 w1 b f := fun j hj => cell_below hb (h j hj)
structure SState (w wr : World) (G : Nat) (fr de sec : Int) (gb cap : Nat) (ps : List PartT) (tb pb kb : Nat) (tv pv kv : Nat → Int) : Prop where
  g : GState w wr G fr de sec gb cap ps
  t : Row3 wr tb tv
  p : Row3 wr pb pv
  k : Row3 wr kb kv
theorem SState.below {w wr w1 : World} {G : Nat} {fr de sec : Int} {gb cap : Nat} {ps : List PartT} {tb pb kb : Nat} {tv pv kv : Nat → Int} (h : SState w wr G fr de sec gb cap ps tb pb kb tv pv kv) (hb : Below wr.heap.size wr w1) : SState w w1 G fr de sec gb cap ps tb pb kb tv pv kv :=
  ⟨h.g.below hb, h.t.below hb, h.p.below hb, h.k.below hb⟩

def ARow (wr : World) (b : Nat) (x y : Int) : Prop := wr.cell? ⟨b, 0, none⟩ = some (.int .i64 x) ∧ wr.cell? ⟨b, 1, none⟩ = some (.int .i64 y)
theorem ARow.below {w w1 : World} {b : Nat} {x y : Int} (h : ARow w b x y) (hb : Below w.heap.size w w1) : ARow w1 b x y := ⟨cell_below hb h.1, cell_below hb h.2⟩

set_option maxRecDepth 100000 in
set_option maxHeartbeats 4000000 in
theorem law_sectors (f d s : Int) (A : Option Addr) (len cap : Nat) (l : List PartT) (tn pn kn : Int) (w : World) (hin : InCfg w f d s A len cap l) (h1 : (Lit.int .i64 tn).wf = true) (h2 : (Lit.int .i64 pn).wf = true) (h3 : (Lit.int .i64 kn).wf = true) :
    Calls Try.prog 4 #[.agg #[.int .i64 f, .int .i64 d, .int .i64 s, .slice A len cap], .int .i64 tn, .int .i64 pn, .int .i64 kn] w fun e w' => e = .returned (.bool true) ∧ Below w.heap.size w w' := by
  have HI := Lib.hid hin
  obtain ⟨t5, _, _, hA⟩ := around_some tn 5 (by omega) (by omega) h1
  obtain ⟨p5, _, _, hB⟩ := around_some pn 5 (by omega) (by omega) h2
  obtain ⟨k3, _, _, hC⟩ := around_some kn 3 (by omega) (by omega) h3
  have HA := Lib.hid hA
  have HB := Lib.hid hB
  have HC := Lib.hid hC
  clear hin h1 h2 h3 hA hB hC
  go_enter Try.func4, Try.ntmps4
  go_wp2_with fail
  refine (HI.out.good ((Below.refl _ _).alloc (Nat.le_refl _) _)).mono ?_
  rintro e w1 ⟨fr, de, sec, ps, gb, gcap, rfl, hp, hch, hl1, hl4, hs0, hs1, hcp, hgb, hb⟩
  have hst := GState.mk0 (fr := fr) (de := de) (sec := sec) (cap := gcap) ((((Below.refl w.heap.size w).alloc (Nat.le_refl _) _).trans (hb.mono (by simp)))) hp
  have HST := Lib.hid hst
  have HFIT := Lib.hid (chain_fit hch hs1)
  clear hst hch hp hb hgb
  go_wp2_with fail
  refine (HA.out _).mono ?_
  rintro e w' ⟨rfl, rfl⟩
  go_wp2_with fail
  refine (HA.out _).mono ?_
  rintro e w' ⟨rfl, rfl⟩
  go_wp2_with fail
  refine (HB.out _).mono ?_
  rintro e w' ⟨rfl, rfl⟩
  go_wp2_with fail
  refine (HC.out _).mono ?_
  rintro e w' ⟨rfl, rfl⟩
  go_wp2_with fail
  refine (HC.out _).mono ?_
  rintro e w' ⟨rfl, rfl⟩
  go_wp2_with fail
  have hss : SState w ((((w1.alloc (.cells #[.int .i64 fr, .int .i64 de, .int .i64 sec, .slice (some ⟨gb, 0, none⟩) ps.length gcap] 24)).alloc (.cells #[.int .i64 tn, .int .i64 t5, .int .i64 t5] 3)).alloc (.cells #[.int .i64 pn, .int .i64 p5, .int .i64 pn] 3)).alloc (.cells #[.int .i64 kn, .int .i64 k3, .int .i64 k3] 3)) w1.heap.size fr de sec gb gcap ps (w1.heap.size + 1) (w1.heap.size + 1 + 1) (w1.heap.size + 1 + 1 + 1) (fun j => [tn, t5, t5].getD j 0) (fun j => [pn, p5, pn].getD j 0) (fun j => [kn, k3, k3].getD j 0) := by
    refine ⟨((HST.out.below ((Below.refl _ _).alloc (Nat.le_refl _) _)).below ((Below.refl _ _).alloc (Nat.le_refl _) _)).below ((Below.refl _ _).alloc (Nat.le_refl _) _), ?_, ?_, ?_⟩
    all_goals
      intro j hj
      rcases (show j = 0 ∨ j = 1 ∨ j = 2 by omega) with rfl | rfl | rfl <;> go_simp <;> rfl
  have HSS := Lib.hid hss
  clear hss HST
  obtain ⟨kb, hkb⟩ : ∃ x, x = w1.heap.size + 1 + 1 + 1 := ⟨_, rfl⟩
  rw [← hkb] at HSS ⊢
  obtain ⟨pb, hpb⟩ : ∃ x, x = w1.heap.size + 1 + 1 := ⟨_, rfl⟩
  rw [← hpb] at HSS ⊢
  obtain ⟨tb, htb⟩ : ∃ x, x = w1.heap.size + 1 := ⟨_, rfl⟩
  rw [← htb] at HSS ⊢
  obtain ⟨G, hG⟩ : ∃ x, x = w1.heap.size := ⟨_, rfl⟩
  rw [← hG] at HSS ⊢
  clear hkb hpb htb hG
  obtain ⟨tv, htv⟩ : ∃ x : Nat → Int, x = fun j => [tn, t5, t5].getD j 0 := ⟨_, rfl⟩
  obtain ⟨pv, hpv⟩ : ∃ x : Nat → Int, x = fun j => [pn, p5, pn].getD j 0 := ⟨_, rfl⟩
  obtain ⟨kv, hkv⟩ : ∃ x : Nat → Int, x = fun j => [kn, k3, k3].getD j 0 := ⟨_, rfl⟩
  rw [← htv, ← hpv, ← hkv] at HSS
  clear htv hpv hkv
  go_loopw [13] (fun c wr => ∃ k : Nat, k ≤ 3 ∧ c = .int .i64 k ∧ SState w wr G fr de sec gb gcap ps tb pb kb tv pv kv) (fun c _ => 3 - (intOf c).toNat)
  case atStart => exact ⟨0, by omega, rfl, HSS.out⟩
  case round =>
    obtain ⟨k, hk, rfl, hss⟩ := hrel
    clear HSS
    obtain ⟨wo, rfl⟩ : ∃ wo : World, wo = wr := ⟨_, rfl⟩
    have HSS := Lib.hid hss
    clear hss
    by_cases hlt : k < 3
    · have hk0 : (0 : Int) ≤ (k : Int) := Int.natCast_nonneg _
      have hk1 : (k : Int) < 3 := by omega
      obtain ⟨⟨g0, g1, g2, g3, g4, g5, g6⟩, ht, hpp, hkk⟩ := HSS.out
      have c0 := ht k hlt
      have c1 := hpp k hlt
      have c2 := hkk k hlt
      clear g4 g5 ht hpp hkk
      go_upto_region 8 with (fail)
      go_cut [14, 15] (fun a b wx => a = .int .i64 (secOf ps (tv k) (pv k) (kv k)).1 ∧ b = .int .i64 (secOf ps (tv k) (pv k) (kv k)).2 ∧ SState w wx G fr de sec gb gcap ps tb pb kb tv pv kv)
      case first =>
        have HPC := Lib.hid HSS.out.g.2.2.2.2.1
        go_region_held3 (fun w' => w'.cell? ⟨G, 0, none⟩ = some (.int .i64 fr) ∧ w'.cell? ⟨G, 1, none⟩ = some (.int .i64 de) ∧ w'.cell? ⟨G, 2, none⟩ = some (.int .i64 sec) ∧ w'.cell? ⟨G, 3, none⟩ = some (.slice (some ⟨gb, 0, none⟩) ps.length gcap) ∧ w'.cell? ⟨tb, k, none⟩ = some (.int .i64 (tv k)) ∧ w'.cell? ⟨pb, k, none⟩ = some (.int .i64 (pv k)) ∧ w'.cell? ⟨kb, k, none⟩ = some (.int .i64 (kv k))) (first | (go_keep; done) | (exact ⟨cell_below (w := wo) (by (repeat (first | exact BF.out | exact Below.refl _ _ | refine Below.setCell ?_ (by first | omega | (simp; omega) | simp) _ | refine Below.alloc ?_ (by first | omega | (simp; omega) | simp) _ | apply below_drew))) g0, cell_below (w := wo) (by (repeat (first | exact BF.out | exact Below.refl _ _ | refine Below.setCell ?_ (by first | omega | (simp; omega) | simp) _ | refine Below.alloc ?_ (by first | omega | (simp; omega) | simp) _ | apply below_drew))) g1, cell_below (w := wo) (by (repeat (first | exact BF.out | exact Below.refl _ _ | refine Below.setCell ?_ (by first | omega | (simp; omega) | simp) _ | refine Below.alloc ?_ (by first | omega | (simp; omega) | simp) _ | apply below_drew))) g2, cell_below (w := wo) (by (repeat (first | exact BF.out | exact Below.refl _ _ | refine Below.setCell ?_ (by first | omega | (simp; omega) | simp) _ | refine Below.alloc ?_ (by first | omega | (simp; omega) | simp) _ | apply below_drew))) g3, cell_below (w := wo) (by (repeat (first | exact BF.out | exact Below.refl _ _ | refine Below.setCell ?_ (by first | omega | (simp; omega) | simp) _ | refine Below.alloc ?_ (by first | omega | (simp; omega) | simp) _ | apply below_drew))) c0, cell_below (w := wo) (by (repeat (first | exact BF.out | exact Below.refl _ _ | refine Below.setCell ?_ (by first | omega | (simp; omega) | simp) _ | refine Below.alloc ?_ (by first | omega | (simp; omega) | simp) _ | apply below_drew))) c1, cell_below (w := wo) (by (repeat (first | exact BF.out | exact Below.refl _ _ | refine Below.setCell ?_ (by first | omega | (simp; omega) | simp) _ | refine Below.alloc ?_ (by first | omega | (simp; omega) | simp) _ | apply below_drew))) c2⟩)) (first | (go_at_call 13; refine (sector_any _ _ _ _ _ ps _ _ _ _ (HPC.out.below (below_drew (Below.refl _ _))) HFIT.out hl4).mono ?_; rintro e w2 ⟨rfl, hbf⟩; have bf : Below wo.heap.size wo w2 := below_then (by repeat (first | exact Below.refl _ _ | apply below_drew | refine Below.alloc ?_ (Nat.le_refl _) _)) (by simp) hbf; have q4 := bf.size; have BF := Lib.hid bf; clear bf; clear hbf))
        all_goals (go_wp2_with fail; go_meet; exact ⟨rfl, rfl, HSS.out.below BF.out⟩)
      case rest =>
        obtain ⟨rfl, rfl, hss⟩ := hcut
        clear HSS
        have HSS := Lib.hid hss
        clear hss g0 g1 g2 g3 g6 c0 c1 c2
        obtain ⟨wo, rfl⟩ : ∃ wo : World, wo = wc := ⟨_, rfl⟩
        obtain ⟨⟨g0, g1, g2, g3, g4, g5, g6⟩, ht, hpp, hkk⟩ := HSS.out
        have c0 := ht k hlt
        have c1 := hpp k hlt
        have c2 := hkk k hlt
        clear g4 g5 ht hpp hkk
        go_upto_region 9 with (fail)
        go_cut [16, 17] (fun a b wx => a = .int .i64 (secOf ps (tv k) (pv k) (kv k)).1 ∧ b = .int .i64 (secOf ps (tv k) (pv k) (kv k)).2 ∧ SState w wx G fr de sec gb gcap ps tb pb kb tv pv kv)
        case first =>
          have HPC := Lib.hid HSS.out.g.2.2.2.2.1
          go_region_held3 (fun w' => w'.cell? ⟨G, 0, none⟩ = some (.int .i64 fr) ∧ w'.cell? ⟨G, 1, none⟩ = some (.int .i64 de) ∧ w'.cell? ⟨G, 2, none⟩ = some (.int .i64 sec) ∧ w'.cell? ⟨G, 3, none⟩ = some (.slice (some ⟨gb, 0, none⟩) ps.length gcap) ∧ w'.cell? ⟨tb, k, none⟩ = some (.int .i64 (tv k)) ∧ w'.cell? ⟨pb, k, none⟩ = some (.int .i64 (pv k)) ∧ w'.cell? ⟨kb, k, none⟩ = some (.int .i64 (kv k))) (first | (go_keep; done) | (exact ⟨cell_below (w := wo) (by (repeat (first | exact BF.out | exact Below.refl _ _ | refine Below.setCell ?_ (by first | omega | (simp; omega) | simp) _ | refine Below.alloc ?_ (by first | omega | (simp; omega) | simp) _ | apply below_drew))) g0, cell_below (w := wo) (by (repeat (first | exact BF.out | exact Below.refl _ _ | refine Below.setCell ?_ (by first | omega | (simp; omega) | simp) _ | refine Below.alloc ?_ (by first | omega | (simp; omega) | simp) _ | apply below_drew))) g1, cell_below (w := wo) (by (repeat (first | exact BF.out | exact Below.refl _ _ | refine Below.setCell ?_ (by first | omega | (simp; omega) | simp) _ | refine Below.alloc ?_ (by first | omega | (simp; omega) | simp) _ | apply below_drew))) g2, cell_below (w := wo) (by (repeat (first | exact BF.out | exact Below.refl _ _ | refine Below.setCell ?_ (by first | omega | (simp; omega) | simp) _ | refine Below.alloc ?_ (by first | omega | (simp; omega) | simp) _ | apply below_drew))) g3, cell_below (w := wo) (by (repeat (first | exact BF.out | exact Below.refl _ _ | refine Below.setCell ?_ (by first | omega | (simp; omega) | simp) _ | refine Below.alloc ?_ (by first | omega | (simp; omega) | simp) _ | apply below_drew))) c0, cell_below (w := wo) (by (repeat (first | exact BF.out | exact Below.refl _ _ | refine Below.setCell ?_ (by first | omega | (simp; omega) | simp) _ | refine Below.alloc ?_ (by first | omega | (simp; omega) | simp) _ | apply below_drew))) c1, cell_below (w := wo) (by (repeat (first | exact BF.out | exact Below.refl _ _ | refine Below.setCell ?_ (by first | omega | (simp; omega) | simp) _ | refine Below.alloc ?_ (by first | omega | (simp; omega) | simp) _ | apply below_drew))) c2⟩)) (first | (go_at_call 14; refine (ref_sector_any _ _ _ _ _ ps _ _ _ _ (HPC.out.below (below_drew (Below.refl _ _))) HFIT.out hl4).mono ?_; rintro e w2 ⟨rfl, hbf⟩; have bf : Below wo.heap.size wo w2 := below_then (by repeat (first | exact Below.refl _ _ | apply below_drew | refine Below.alloc ?_ (Nat.le_refl _) _)) (by simp) hbf; have q4 := bf.size; have BF := Lib.hid bf; clear bf; clear hbf))
          all_goals (go_wp2_with fail; go_meet; exact ⟨rfl, rfl, HSS.out.below BF.out⟩)
        case rest =>
          obtain ⟨rfl, rfl, hss⟩ := hcut
          clear HSS
          have HSS := Lib.hid hss
          clear hss g0 g1 g2 g3 g6 c0 c1 c2
          obtain ⟨wo, rfl⟩ : ∃ wo : World, wo = wc := ⟨_, rfl⟩
          obtain ⟨⟨g0, g1, g2, g3, g4, g5, g6⟩, ht, hpp, hkk⟩ := HSS.out
          have c0 := ht k hlt
          have c1 := hpp k hlt
          have c2 := hkk k hlt
          clear g4 g5 ht hpp hkk
          go_upto_region 12 with (fail)
          go_cut [18, 19] (fun a b wx => (∃ ab, a = .pointer (some ⟨ab, 0, none⟩) ∧ ARow wx ab (secOf ps (tv k) (pv k) 0).1 (secOf ps (tv k) (pv k) 1).1) ∧ b = .int .i64 (secOf ps (tv k) (pv k) 0).2 ∧ SState w wx G fr de sec gb gcap ps tb pb kb tv pv kv)
          case first =>
            have l1 := cell_lt c0
            have l2 := cell_lt c1
            have l3 := cell_lt c2
            have n0 : G ≠ wo.heap.size := by omega
            have n1 : tb ≠ wo.heap.size := by omega
            have n2 : pb ≠ wo.heap.size := by omega
            have n3 : kb ≠ wo.heap.size := by omega
            have HPC := Lib.hid HSS.out.g.2.2.2.2.1
            go_region_held3 (fun w' => w'.cell? ⟨G, 0, none⟩ = some (.int .i64 fr) ∧ w'.cell? ⟨G, 1, none⟩ = some (.int .i64 de) ∧ w'.cell? ⟨G, 2, none⟩ = some (.int .i64 sec) ∧ w'.cell? ⟨G, 3, none⟩ = some (.slice (some ⟨gb, 0, none⟩) ps.length gcap) ∧ w'.cell? ⟨tb, k, none⟩ = some (.int .i64 (tv k)) ∧ w'.cell? ⟨pb, k, none⟩ = some (.int .i64 (pv k)) ∧ w'.cell? ⟨kb, k, none⟩ = some (.int .i64 (kv k))) (first | (go_keep; done) | (exact ⟨cell_below (w := wo) (by (repeat (first | exact BF.out | exact Below.refl _ _ | refine Below.setCell ?_ (by first | omega | (simp; omega) | simp) _ | refine Below.alloc ?_ (by first | omega | (simp; omega) | simp) _ | apply below_drew))) g0, cell_below (w := wo) (by (repeat (first | exact BF.out | exact Below.refl _ _ | refine Below.setCell ?_ (by first | omega | (simp; omega) | simp) _ | refine Below.alloc ?_ (by first | omega | (simp; omega) | simp) _ | apply below_drew))) g1, cell_below (w := wo) (by (repeat (first | exact BF.out | exact Below.refl _ _ | refine Below.setCell ?_ (by first | omega | (simp; omega) | simp) _ | refine Below.alloc ?_ (by first | omega | (simp; omega) | simp) _ | apply below_drew))) g2, cell_below (w := wo) (by (repeat (first | exact BF.out | exact Below.refl _ _ | refine Below.setCell ?_ (by first | omega | (simp; omega) | simp) _ | refine Below.alloc ?_ (by first | omega | (simp; omega) | simp) _ | apply below_drew))) g3, cell_below (w := wo) (by (repeat (first | exact BF.out | exact Below.refl _ _ | refine Below.setCell ?_ (by first | omega | (simp; omega) | simp) _ | refine Below.alloc ?_ (by first | omega | (simp; omega) | simp) _ | apply below_drew))) c0, cell_below (w := wo) (by (repeat (first | exact BF.out | exact Below.refl _ _ | refine Below.setCell ?_ (by first | omega | (simp; omega) | simp) _ | refine Below.alloc ?_ (by first | omega | (simp; omega) | simp) _ | apply below_drew))) c1, cell_below (w := wo) (by (repeat (first | exact BF.out | exact Below.refl _ _ | refine Below.setCell ?_ (by first | omega | (simp; omega) | simp) _ | refine Below.alloc ?_ (by first | omega | (simp; omega) | simp) _ | apply below_drew))) c2⟩)) (first | (go_at_call 15; refine (all_any _ _ _ _ _ ps _ _ _ (HPC.out.below (by repeat (first | exact Below.refl _ _ | apply below_drew | refine Below.alloc ?_ (Nat.le_refl _) _))) HFIT.out hl4).mono ?_; rintro e w2 ⟨rfl, hbf⟩; have bf : Below wo.heap.size wo w2 := below_then (by repeat (first | exact Below.refl _ _ | apply below_drew | refine Below.alloc ?_ (Nat.le_refl _) _)) (by simp) hbf; have q4 := bf.size; have BF := Lib.hid bf; clear bf; obtain ⟨hcF, hfF⟩ := bcell hbf; have hsF := hbf.size; have q0 : G ≠ w2.heap.size := (by simp at hsF; omega); have q1 : tb ≠ w2.heap.size := (by simp at hsF; omega); have q2 : pb ≠ w2.heap.size := (by simp at hsF; omega); have q3 : kb ≠ w2.heap.size := (by simp at hsF; omega); clear hbf))
            all_goals (go_wp2_with fail; go_meet; exact ⟨⟨_, rfl, by go_simp, by go_simp⟩, rfl, HSS.out.below (by (repeat (first | exact BF.out | exact Below.refl _ _ | refine Below.setCell ?_ (by first | omega | (simp; omega) | simp) _ | refine Below.alloc ?_ (by first | omega | (simp; omega) | simp) _ | apply below_drew)))⟩)
          case rest =>
            obtain ⟨⟨ab, rfl, har⟩, rfl, hss⟩ := hcut
            clear HSS
            have HSS := Lib.hid hss
            clear hss g0 g1 g2 g3 g6 c0 c1 c2
            obtain ⟨wo, rfl⟩ : ∃ wo : World, wo = wc := ⟨_, rfl⟩
            obtain ⟨⟨g0, g1, g2, g3, g4, g5, g6⟩, ht, hpp, hkk⟩ := HSS.out
            have c0 := ht k hlt
            have c1 := hpp k hlt
            have c2 := hkk k hlt
            clear g4 g5 ht hpp hkk
            have HAR := Lib.hid har
            clear har
            go_upto_region 13 with (fail)
            go_cut [20, 21] (fun a b wx => a = .int .i64 (secOf ps (tv k) (pv k) 0).1 ∧ b = .int .i64 (secOf ps (tv k) (pv k) 0).2 ∧ ARow wx ab (secOf ps (tv k) (pv k) 0).1 (secOf ps (tv k) (pv k) 1).1 ∧ SState w wx G fr de sec gb gcap ps tb pb kb tv pv kv)
            case first =>
              have HPC := Lib.hid HSS.out.g.2.2.2.2.1
              go_region_held3 (fun w' => w'.cell? ⟨G, 0, none⟩ = some (.int .i64 fr) ∧ w'.cell? ⟨G, 1, none⟩ = some (.int .i64 de) ∧ w'.cell? ⟨G, 2, none⟩ = some (.int .i64 sec) ∧ w'.cell? ⟨G, 3, none⟩ = some (.slice (some ⟨gb, 0, none⟩) ps.length gcap) ∧ w'.cell? ⟨tb, k, none⟩ = some (.int .i64 (tv k)) ∧ w'.cell? ⟨pb, k, none⟩ = some (.int .i64 (pv k)) ∧ w'.cell? ⟨kb, k, none⟩ = some (.int .i64 (kv k))) (first | (go_keep; done) | (exact ⟨cell_below (w := wo) (by (repeat (first | exact BF.out | exact Below.refl _ _ | refine Below.setCell ?_ (by first | omega | (simp; omega) | simp) _ | refine Below.alloc ?_ (by first | omega | (simp; omega) | simp) _ | apply below_drew))) g0, cell_below (w := wo) (by (repeat (first | exact BF.out | exact Below.refl _ _ | refine Below.setCell ?_ (by first | omega | (simp; omega) | simp) _ | refine Below.alloc ?_ (by first | omega | (simp; omega) | simp) _ | apply below_drew))) g1, cell_below (w := wo) (by (repeat (first | exact BF.out | exact Below.refl _ _ | refine Below.setCell ?_ (by first | omega | (simp; omega) | simp) _ | refine Below.alloc ?_ (by first | omega | (simp; omega) | simp) _ | apply below_drew))) g2, cell_below (w := wo) (by (repeat (first | exact BF.out | exact Below.refl _ _ | refine Below.setCell ?_ (by first | omega | (simp; omega) | simp) _ | refine Below.alloc ?_ (by first | omega | (simp; omega) | simp) _ | apply below_drew))) g3, cell_below (w := wo) (by (repeat (first | exact BF.out | exact Below.refl _ _ | refine Below.setCell ?_ (by first | omega | (simp; omega) | simp) _ | refine Below.alloc ?_ (by first | omega | (simp; omega) | simp) _ | apply below_drew))) c0, cell_below (w := wo) (by (repeat (first | exact BF.out | exact Below.refl _ _ | refine Below.setCell ?_ (by first | omega | (simp; omega) | simp) _ | refine Below.alloc ?_ (by first | omega | (simp; omega) | simp) _ | apply below_drew))) c1, cell_below (w := wo) (by (repeat (first | exact BF.out | exact Below.refl _ _ | refine Below.setCell ?_ (by first | omega | (simp; omega) | simp) _ | refine Below.alloc ?_ (by first | omega | (simp; omega) | simp) _ | apply below_drew))) c2⟩)) (first | (go_at_call 14; refine (ref_sector_any _ _ _ _ _ ps _ _ _ _ (HPC.out.below (below_drew (Below.refl _ _))) HFIT.out hl4).mono ?_; rintro e w2 ⟨rfl, hbf⟩; have bf : Below wo.heap.size wo w2 := below_then (by repeat (first | exact Below.refl _ _ | apply below_drew | refine Below.alloc ?_ (Nat.le_refl _) _)) (by simp) hbf; have q4 := bf.size; have BF := Lib.hid bf; clear bf; clear hbf))
              all_goals (go_wp2_with fail; go_meet; exact ⟨rfl, rfl, HAR.out.below BF.out, HSS.out.below BF.out⟩)
            case rest =>
              obtain ⟨rfl, rfl, har, hss⟩ := hcut
              clear HSS
              have HSS := Lib.hid hss
              clear hss g0 g1 g2 g3 g6 c0 c1 c2
              obtain ⟨wo, rfl⟩ : ∃ wo : World, wo = wc := ⟨_, rfl⟩
              obtain ⟨⟨g0, g1, g2, g3, g4, g5, g6⟩, ht, hpp, hkk⟩ := HSS.out
              have c0 := ht k hlt
              have c1 := hpp k hlt
              have c2 := hkk k hlt
              clear g4 g5 ht hpp hkk
              clear HAR
              have HAR := Lib.hid har
              clear har
              go_upto_region 14 with (fail)
              go_cut [22, 23] (fun a b wx => a = .int .i64 (secOf ps (tv k) (pv k) 1).1 ∧ b = .int .i64 (secOf ps (tv k) (pv k) 1).2 ∧ ARow wx ab (secOf ps (tv k) (pv k) 0).1 (secOf ps (tv k) (pv k) 1).1 ∧ SState w wx G fr de sec gb gcap ps tb pb kb tv pv kv)
              case first =>
                have HPC := Lib.hid HSS.out.g.2.2.2.2.1
                go_region_held3 (fun w' => w'.cell? ⟨G, 0, none⟩ = some (.int .i64 fr) ∧ w'.cell? ⟨G, 1, none⟩ = some (.int .i64 de) ∧ w'.cell? ⟨G, 2, none⟩ = some (.int .i64 sec) ∧ w'.cell? ⟨G, 3, none⟩ = some (.slice (some ⟨gb, 0, none⟩) ps.length gcap) ∧ w'.cell? ⟨tb, k, none⟩ = some (.int .i64 (tv k)) ∧ w'.cell? ⟨pb, k, none⟩ = some (.int .i64 (pv k)) ∧ w'.cell? ⟨kb, k, none⟩ = some (.int .i64 (kv k))) (first | (go_keep; done) | (exact ⟨cell_below (w := wo) (by (repeat (first | exact BF.out | exact Below.refl _ _ | refine Below.setCell ?_ (by first | omega | (simp; omega) | simp) _ | refine Below.alloc ?_ (by first | omega | (simp; omega) | simp) _ | apply below_drew))) g0, cell_below (w := wo) (by (repeat (first | exact BF.out | exact Below.refl _ _ | refine Below.setCell ?_ (by first | omega | (simp; omega) | simp) _ | refine Below.alloc ?_ (by first | omega | (simp; omega) | simp) _ | apply below_drew))) g1, cell_below (w := wo) (by (repeat (first | exact BF.out | exact Below.refl _ _ | refine Below.setCell ?_ (by first | omega | (simp; omega) | simp) _ | refine Below.alloc ?_ (by first | omega | (simp; omega) | simp) _ | apply below_drew))) g2, cell_below (w := wo) (by (repeat (first | exact BF.out | exact Below.refl _ _ | refine Below.setCell ?_ (by first | omega | (simp; omega) | simp) _ | refine Below.alloc ?_ (by first | omega | (simp; omega) | simp) _ | apply below_drew))) g3, cell_below (w := wo) (by (repeat (first | exact BF.out | exact Below.refl _ _ | refine Below.setCell ?_ (by first | omega | (simp; omega) | simp) _ | refine Below.alloc ?_ (by first | omega | (simp; omega) | simp) _ | apply below_drew))) c0, cell_below (w := wo) (by (repeat (first | exact BF.out | exact Below.refl _ _ | refine Below.setCell ?_ (by first | omega | (simp; omega) | simp) _ | refine Below.alloc ?_ (by first | omega | (simp; omega) | simp) _ | apply below_drew))) c1, cell_below (w := wo) (by (repeat (first | exact BF.out | exact Below.refl _ _ | refine Below.setCell ?_ (by first | omega | (simp; omega) | simp) _ | refine Below.alloc ?_ (by first | omega | (simp; omega) | simp) _ | apply below_drew))) c2⟩)) (first | (go_at_call 14; refine (ref_sector_any _ _ _ _ _ ps _ _ _ _ (HPC.out.below (below_drew (Below.refl _ _))) HFIT.out hl4).mono ?_; rintro e w2 ⟨rfl, hbf⟩; have bf : Below wo.heap.size wo w2 := below_then (by repeat (first | exact Below.refl _ _ | apply below_drew | refine Below.alloc ?_ (Nat.le_refl _) _)) (by simp) hbf; have q4 := bf.size; have BF := Lib.hid bf; clear bf; clear hbf))
                all_goals (go_wp2_with fail; go_meet; exact ⟨rfl, rfl, HAR.out.below BF.out, HSS.out.below BF.out⟩)
              case rest =>
                obtain ⟨rfl, rfl, har, hss⟩ := hcut
                clear HSS
                have HSS := Lib.hid hss
                clear hss g0 g1 g2 g3 g6 c0 c1 c2
                obtain ⟨wo, rfl⟩ : ∃ wo : World, wo = wc := ⟨_, rfl⟩
                obtain ⟨⟨g0, g1, g2, g3, g4, g5, g6⟩, ht, hpp, hkk⟩ := HSS.out
                have c0 := ht k hlt
                have c1 := hpp k hlt
                have c2 := hkk k hlt
                clear g4 g5 ht hpp hkk
                obtain ⟨a0, a1⟩ := har
                go_wp2_with fail
                go_roundw
                case rel => exact ⟨k + 1, by omega, by go_num, HSS.out⟩
                case measure => simp [intOf]; omega
    · obtain ⟨⟨_, _, _, _, _, g5, _⟩, _, _, _⟩ := HSS.out
      have HB := Lib.hid g5
      clear g5
      go_wp2_with fail
      refine (lives_any _).mono ?_
      rintro e w2 ⟨rfl, hb2⟩
      have HB2 := Lib.hid hb2
      clear hb2
      go_wp2_with fail
      go_ret
      exact ⟨rfl, HB.out.trans (HB2.out.mono HB.out.size)⟩
end Go.Proofs.Ytdlacafljlddhaa
