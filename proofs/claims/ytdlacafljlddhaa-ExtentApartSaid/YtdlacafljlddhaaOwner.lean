/- Whose a sector is: extent.Owner and the reference's. -/
import Derived.Test.YtdlacafljlddhaaExtent
namespace Go.Proofs.Ytdlacafljlddhaa
open Go.RowKit
set_option linter.unusedVariables false
set_option linter.unusedSimpArgs false

/-- Whose a sector is, of parts whose first has the number i. -/
def ownF : List PartT → Int → Int → Int × Int × Int × Bool
  | [], _, _ => (0, 0, 0, false)
  | x :: r, i, s => if x.2.1 ≤ s ∧ s < x.2.1 + 2 * x.2.2 then (i, (s - x.2.1) / 2, (s - x.2.1) % 2, true) else ownF r (i + 1) s
theorem drop_at {ps : List PartT} {k : Nat} (h : k < ps.length) : ps.drop k = ps[k] :: ps.drop (k + 1) := List.drop_eq_getElem_cons h
theorem ownF_step {ps : List PartT} {k : Nat} {s : Int} {x : PartT} (h : ps[k]? = some x) : ownF (ps.drop k) k s = if x.2.1 ≤ s ∧ s < x.2.1 + 2 * x.2.2 then ((k : Int), (s - x.2.1) / 2, (s - x.2.1) % 2, true) else ownF (ps.drop (k + 1)) ((k + 1 : Nat) : Int) s := by
  obtain ⟨hlt, rfl⟩ := List.getElem?_eq_some_iff.1 h
  rw [drop_at hlt]
  simp only [ownF]
  rfl
theorem at?_nat {ps : List PartT} {k : Nat} : at? ps (k : Int) = ps[k]? := by
  unfold at?
  rw [if_pos (Int.natCast_nonneg _), Int.toNat_natCast]

theorem owner_any (fr de sec : Int) (gb cap : Nat) (ps : List PartT) (s : Int) (w : World) (hp : PartsIn w gb 0 ps) (hf : PartsFit ps) (hn : ps.length ≤ 4) :
    Calls Try.prog 16 #[.agg #[.int .i64 fr, .int .i64 de, .int .i64 sec, .slice (some ⟨gb, 0, none⟩) ps.length cap], .int .i64 s] w
      fun e w' => e = .returned (.tuple #[.int .i64 (ownF ps 0 s).1, .int .i64 (ownF ps 0 s).2.1, .int .i64 (ownF ps 0 s).2.2.1, .bool (ownF ps 0 s).2.2.2]) ∧ Below w.heap.size w w' := by
  have HP := Lib.hid hp
  have HF := Lib.hid hf
  clear hp hf
  go_enter Try.func16, Try.ntmps16
  go_wp2_with fail
  go_loopw [15] (fun c wr => ∃ k : Nat, k ≤ ps.length ∧ c = .int .i64 k ∧ ownF ps 0 s = ownF (ps.drop k) k s ∧ Below (w.heap.size + 1) (w.alloc (.cells #[.int .i64 fr, .int .i64 de, .int .i64 sec, .slice (some ⟨gb, 0, none⟩) ps.length cap] 24)) wr) (fun c _ => ps.length - (intOf c).toNat)
  case atStart => exact ⟨0, by omega, rfl, rfl, Below.refl _ _⟩
  case round =>
    obtain ⟨k, hk, rfl, hown, hbl⟩ := hrel
    have g0 := (hbl.cell (p := ⟨w.heap.size, 0, none⟩) (by simp)).trans (show _ = some (.int .i64 fr) by go_simp)
    have g1 := (hbl.cell (p := ⟨w.heap.size, 1, none⟩) (by simp)).trans (show _ = some (.int .i64 de) by go_simp)
    have g2 := (hbl.cell (p := ⟨w.heap.size, 2, none⟩) (by simp)).trans (show _ = some (.int .i64 sec) by go_simp)
    have g3 := (hbl.cell (p := ⟨w.heap.size, 3, none⟩) (by simp)).trans (show _ = some (.slice (some ⟨gb, 0, none⟩) ps.length cap) by go_simp)
    have hsz : w.heap.size + 1 ≤ wr.heap.size := by have := hbl.size; simpa using this
    have hbw : Below w.heap.size w wr := ((Below.refl _ _).alloc (Nat.le_refl _) _).trans (hbl.mono (by omega))
    have HBL := Lib.hid hbl
    have HBW := Lib.hid hbw
    have HO := Lib.hid hown
    clear hbl hbw hown
    by_cases hlt : k < ps.length
    · have hx : ps[k]? = some ps[k] := List.getElem?_eq_getElem hlt
      have hst := ownF_step (s := s) hx
      have hr : rangeOf ps (k : Int) = (ps[k].2.1, ps[k].2.1 + ps[k].2.2 * 2) := by unfold rangeOf; rw [at?_nat, hx]
      obtain ⟨f0, f1, f2, f3⟩ := HF.out k _ hx
      generalize ps[k] = x at *
      obtain ⟨q, b, p⟩ := x
      dsimp only at f0 f1 f2 f3 hst hr
      have HR := Lib.hid hr
      have HST := Lib.hid hst
      clear hst hr hx
      by_cases hin : b ≤ s ∧ s < b + 2 * p
      · have he := HST.out
        rw [if_pos hin, ← HO.out] at he
        obtain ⟨i0, i1⟩ := hin
        have i1' : s < b + p * 2 := by omega
        have HE := Lib.hid he
        have q0 : 0 ≤ (s - b) / 2 := by omega
        clear he
        go_wp2_with fail
        refine (range_any _ _ _ _ _ ps _ _ (HP.out.below HBW.out) HF.out hn).mono ?_
        rintro e w1 ⟨rfl, hb1⟩
        rw [HR.out]
        dsimp only
        have HB1 := Lib.hid hb1
        clear hb1
        go_wp2_with fail
        rw [HE.out]
        exact bodyPost_ret (v := .tuple #[.int .i64 k, .int .i64 ((s - b) / 2), .int .i64 ((s - b) % 2), .bool true]) (by simp [results, Try.results16, go_sem]) rfl ⟨rfl, HBW.out.trans (HB1.out.mono (by omega))⟩
      · have he := HST.out
        rw [if_neg hin, ← HO.out] at he
        have HE := Lib.hid he
        clear he
        go_wp2_with fail
        refine (range_any _ _ _ _ _ ps _ _ (HP.out.below HBW.out) HF.out hn).mono ?_
        rintro e w1 ⟨rfl, hb1⟩
        rw [HR.out]
        dsimp only
        have HB1 := Lib.hid hb1
        clear hb1
        by_cases i0 : b ≤ s
        · have i1 : ¬ s < b + p * 2 := by omega
          go_wp2_with fail
          go_roundw
          case rel => exact ⟨k + 1, by omega, by go_num, HE.out, HBL.out.trans (HB1.out.mono hsz)⟩
          case measure => simp [intOf]; omega
        · go_wp2_with fail
          go_roundw
          case rel => exact ⟨k + 1, by omega, by go_num, HE.out, HBL.out.trans (HB1.out.mono hsz)⟩
          case measure => simp [intOf]; omega
    · have he := HO.out
      rw [List.drop_eq_nil_of_le (by omega)] at he
      simp only [ownF] at he
      have HE := Lib.hid he
      clear he
      go_wp2_with fail
      rw [HE.out]
      exact bodyPost_ret (v := .tuple #[.int .i64 0, .int .i64 0, .int .i64 0, .bool false]) (by simp [results, Try.results16, go_sem]) rfl ⟨rfl, HBW.out⟩
end Go.Proofs.Ytdlacafljlddhaa
