/- The example, and how many sectors are nobody's. -/
import Derived.Test.YtdlacafljlddhaaOwner
namespace Go.Proofs.Ytdlacafljlddhaa
open Go.RowKit
set_option linter.unusedVariables false
set_option linter.unusedSimpArgs false

theorem lives_any (w : World) : Calls Try.prog 11 #[] w fun e w' => e = .returned (.bool true) ∧ Below w.heap.size w w' := by
  have hb : Below w.heap.size w ((w.alloc (.cells #[.int .i64 1, .int .i64 0, .int .i64 2, .int .i64 1, .int .i64 4, .int .i64 2] 48)).alloc (.cells #[.int .i64 2, .int .i64 1, .int .i64 8, .slice (some ⟨w.heap.size, 0, none⟩) 2 2] 24)) := ((Below.refl _ _).alloc (Nat.le_refl _) _).alloc (by simp) _
  have hp : PartsIn ((w.alloc (.cells #[.int .i64 1, .int .i64 0, .int .i64 2, .int .i64 1, .int .i64 4, .int .i64 2] 48)).alloc (.cells #[.int .i64 2, .int .i64 1, .int .i64 8, .slice (some ⟨w.heap.size, 0, none⟩) 2 2] 24)) w.heap.size 0 [(1, 0, 2), (1, 4, 2)] := by
    intro j x hx
    rcases j with _ | _ | j
    · obtain rfl : (1, 0, 2) = x := by simpa using hx
      exact ⟨by go_simp, by go_simp, by go_simp⟩
    · obtain rfl : (1, 4, 2) = x := by simpa using hx
      exact ⟨by go_simp, by go_simp, by go_simp⟩
    · simp at hx
  have hf : PartsFit [(1, 0, 2), (1, 4, 2)] := chain_fit (s := 8) (by simp [Chain]) (by omega)
  have hs : secOf [(1, 0, 2), (1, 4, 2)] 1 1 0 = (6, 0) := by decide
  have HP := Lib.hid hp
  have HF := Lib.hid hf
  have HS := Lib.hid hs
  have HB := Lib.hid hb
  clear hp hf hs hb
  go_enter Try.func11, Try.ntmps11
  go_wp2_with fail
  refine (sector_any 2 1 8 _ 2 [(1, 0, 2), (1, 4, 2)] 1 1 0 _ HP.out HF.out (by simp)).mono ?_
  rintro e w1 ⟨rfl, hb1⟩
  rw [HS.out]
  dsimp only
  have HB1 := Lib.hid hb1
  clear hb1
  go_wp2_with fail
  go_ret
  exact ⟨rfl, HB.out.trans (HB1.out.mono (by simp; omega))⟩

def hasB (x : PartT) (s : Int) : Bool := decide (x.2.1 ≤ s ∧ s < x.2.1 + 2 * x.2.2)
theorem has_any (q b p s : Int) (w : World) (b0 : 0 ≤ b) (p0 : 1 ≤ p) (p1 : p ≤ 4) (b1 : b + 2 * p ≤ 42) :
    Calls Try.prog 18 #[.agg #[.int .i64 q, .int .i64 b, .int .i64 p], .int .i64 s] w fun e w' => e = .returned (.bool (hasB (q, b, p) s)) ∧ Below w.heap.size w w' := by
  by_cases h0 : b ≤ s
  · by_cases h1 : s < b + 2 * p
    · have e : hasB (q, b, p) s = true := decide_eq_true ⟨h0, h1⟩
      rw [e]
      clear e
      go_enter Try.func18, Try.ntmps18
      go_wp2
      go_ret
      exact ⟨by simp, (Below.refl _ _).alloc (Nat.le_refl _) _⟩
    · have e : hasB (q, b, p) s = false := decide_eq_false (fun h => h1 h.2)
      rw [e]
      clear e
      go_enter Try.func18, Try.ntmps18
      go_wp2
      go_ret
      exact ⟨by simp, (Below.refl _ _).alloc (Nat.le_refl _) _⟩
  · have e : hasB (q, b, p) s = false := decide_eq_false (fun h => h0 h.1)
    rw [e]
    clear e
    go_enter Try.func18, Try.ntmps18
    go_wp2
    go_ret
    exact ⟨by simp, (Below.refl _ _).alloc (Nat.le_refl _) _⟩

def freeN (ps : List PartT) : Nat → Int
  | 0 => 0
  | n + 1 => freeN ps n + if ps.any (hasB · n) then 0 else 1
theorem freeN_bd (ps : List PartT) (n : Nat) : 0 ≤ freeN ps n ∧ freeN ps n ≤ n := by
  induction n with
  | zero => simp [freeN]
  | succ n ih => rw [freeN]; split <;> omega
def ownN (ps : List PartT) : Nat → Int
  | 0 => 0
  | n + 1 => ownN ps n + if ps.any (hasB · n) then 1 else 0
theorem ownN_free (ps : List PartT) (n : Nat) : ownN ps n = n - freeN ps n := by
  induction n with
  | zero => simp [ownN, freeN]
  | succ n ih => rw [ownN, freeN, ih]; split <;> omega
theorem ownF_any : ∀ (ps : List PartT) (i s : Int), (ownF ps i s).2.2.2 = ps.any (hasB · s)
  | [], i, s => rfl
  | x :: r, i, s => by
    simp only [ownF, List.any_cons, hasB]
    by_cases h : x.2.1 ≤ s ∧ s < x.2.1 + 2 * x.2.2
    · rw [if_pos h]; simp [h]
    · rw [if_neg h, ownF_any r]; simp [h, hasB]
theorem take_any {ps : List PartT} {k : Nat} {s : Int} {x : PartT} (h : ps[k]? = some x) : (ps.take (k + 1)).any (hasB · s) = ((ps.take k).any (hasB · s) || hasB x s) := by
  obtain ⟨hlt, rfl⟩ := List.getElem?_eq_some_iff.1 h
  rw [List.take_succ_eq_append_getElem hlt, List.any_append]
  simp

theorem free_any (fr de : Int) (sec gb cap : Nat) (ps : List PartT) (w : World) (hp : PartsIn w gb 0 ps) (hf : PartsFit ps) (hn : ps.length ≤ 4) (hs : sec ≤ 42) :
    Calls Try.prog 17 #[.agg #[.int .i64 fr, .int .i64 de, .int .i64 (sec : Int), .slice (some ⟨gb, 0, none⟩) ps.length cap]] w
      fun e w' => e = .returned (.int .i64 (freeN ps sec)) ∧ Below w.heap.size w w' := by
  have HP := Lib.hid hp
  have HF := Lib.hid hf
  clear hp hf
  go_enter Try.func17, Try.ntmps17
  go_wp2_with fail
  go_loopw [3, 4] (fun c s wr => ∃ k : Nat, k ≤ sec ∧ s = .int .i64 k ∧ c = .int .i64 (freeN ps k) ∧ Below (w.heap.size + 1) (w.alloc (.cells #[.int .i64 fr, .int .i64 de, .int .i64 (sec : Int), .slice (some ⟨gb, 0, none⟩) ps.length cap] 24)) wr) (fun _ s _ => sec - (intOf s).toNat)
  case atStart => exact ⟨0, by omega, rfl, rfl, Below.refl _ _⟩
  case round =>
    obtain ⟨s, hk, rfl, rfl, hbl⟩ := hrel
    obtain ⟨wo, rfl⟩ : ∃ wo : World, wo = wr := ⟨_, rfl⟩
    have g2 := (hbl.cell (p := ⟨w.heap.size, 2, none⟩) (by simp)).trans (show _ = some (.int .i64 (sec : Int)) by go_simp)
    have g3 := (hbl.cell (p := ⟨w.heap.size, 3, none⟩) (by simp)).trans (show _ = some (.slice (some ⟨gb, 0, none⟩) ps.length cap) by go_simp)
    have hsz : w.heap.size + 1 ≤ wo.heap.size := by have := hbl.size; simpa using this
    have hbw : Below w.heap.size w wo := ((Below.refl _ _).alloc (Nat.le_refl _) _).trans (hbl.mono (by omega))
    have HBL := Lib.hid hbl
    have HBW := Lib.hid hbw
    have fb := freeN_bd ps s
    have HFN : Hid (freeN ps (s + 1) = freeN ps s + if ps.any (hasB · s) then 0 else 1) := rfl
    clear hbl hbw
    generalize hFeq : freeN ps s = F at *
    have HFE := Lib.hid hFeq
    clear hFeq
    by_cases hlt : s < sec
    · go_wp2_with fail
      go_loopw [5, 6] (fun c i wr => ∃ k : Nat, k ≤ ps.length ∧ i = .int .i64 k ∧ c = .bool ((ps.take k).any (hasB · s)) ∧ Below (w.heap.size + 1) (w.alloc (.cells #[.int .i64 fr, .int .i64 de, .int .i64 (sec : Int), .slice (some ⟨gb, 0, none⟩) ps.length cap] 24)) wr) (fun _ i _ => ps.length - (intOf i).toNat)
      case atStart => exact ⟨0, by omega, rfl, by simp, HBL.out⟩
      case round =>
        obtain ⟨k, hk2, rfl, rfl, hbl⟩ := hrel
        clear g2 g3 hsz HBL HBW
        have g2 := (hbl.cell (p := ⟨w.heap.size, 2, none⟩) (by simp)).trans (show _ = some (.int .i64 (sec : Int)) by go_simp)
        have g3 := (hbl.cell (p := ⟨w.heap.size, 3, none⟩) (by simp)).trans (show _ = some (.slice (some ⟨gb, 0, none⟩) ps.length cap) by go_simp)
        have hsz : w.heap.size + 1 ≤ wr.heap.size := by have := hbl.size; simpa using this
        have hbw : Below w.heap.size w wr := ((Below.refl _ _).alloc (Nat.le_refl _) _).trans (hbl.mono (by omega))
        have HBL := Lib.hid hbl
        have HBW := Lib.hid hbw
        clear hbl hbw
        by_cases hlt2 : k < ps.length
        · have hx : ps[k]? = some ps[k] := List.getElem?_eq_getElem hlt2
          have ht := take_any (s := (s : Int)) hx
          obtain ⟨c0, c1, c2⟩ := HP.out k _ hx
          rw [Nat.zero_add] at c0 c1 c2
          obtain ⟨f0, f1, f2, f3⟩ := HF.out k _ hx
          generalize ps[k] = x at *
          obtain ⟨q, b, p⟩ := x
          dsimp only at f0 f1 f2 f3 c0 c1 c2
          have e0 := cell_below HBW.out c0
          have e1 := cell_below HBW.out c1
          have e2 := cell_below HBW.out c2
          have HT := Lib.hid ht
          clear ht hx c0 c1 c2
          generalize hA : (ps.take k).any (hasB · s) = A at *
          clear hA
          cases A with
          | true =>
            go_wp2_with fail
            go_roundw
            case rel => exact ⟨k + 1, by omega, by go_num, by rw [HT.out]; rfl, HBL.out⟩
            case measure => simp [intOf]; omega
          | false =>
            go_wp2_with fail
            refine (has_any q b p s _ f0 f1 f2 f3).mono ?_
            rintro e w1 ⟨rfl, hb1⟩
            have HB1 := Lib.hid hb1
            clear hb1
            go_wp2_with fail
            go_roundw
            case rel => exact ⟨k + 1, by omega, by go_num, by rw [HT.out]; rfl, HBL.out.trans (HB1.out.mono hsz)⟩
            case measure => simp [intOf]; omega
        · have hta : ps.take k = ps := List.take_of_length_le (by omega)
          rw [hta]
          clear hta
          generalize hA : ps.any (hasB · s) = A at *
          clear hA
          cases A with
          | true =>
            go_wp2_with fail
            go_roundw
            case rel => exact ⟨s + 1, by omega, by go_num, by rw [HFN.out]; simp, HBL.out⟩
            case measure => simp [intOf]; omega
          | false =>
            go_wp2_with fail
            go_roundw
            case rel => exact ⟨s + 1, by omega, by go_num, by rw [HFN.out]; simp, HBL.out⟩
            case measure => simp [intOf]; omega
    · obtain rfl : s = sec := by omega
      go_wp2_with fail
      go_ret
      exact ⟨ret_int HFE.out.symm, HBW.out⟩
end Go.Proofs.Ytdlacafljlddhaa
