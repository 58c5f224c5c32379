/- extent's functions, and the reference's, over parts in memory. -/
import Derived.Test.YtdlacafljlddhaaGood
namespace Go.Proofs.Ytdlacafljlddhaa
open Go.RowKit
set_option linter.unusedVariables false
set_option linter.unusedSimpArgs false

def at? (ps : List PartT) (t : Int) : Option PartT := if 0 ≤ t then ps[t.toNat]? else none
theorem at?_some {ps : List PartT} {t : Int} {x : PartT} (h : at? ps t = some x) : 0 ≤ t ∧ t < ps.length ∧ ps[t.toNat]? = some x := by
  unfold at? at h
  split at h
  · rename_i h0
    have := (List.getElem?_eq_some_iff.1 h).1
    exact ⟨h0, by omega, h⟩
  · cases h
theorem at?_none {ps : List PartT} {t : Int} (h : at? ps t = none) : t < 0 ∨ (ps.length : Int) ≤ t := by
  unfold at? at h
  split at h
  · rename_i h0
    have := List.getElem?_eq_none_iff.1 h
    omega
  · omega
/-- Parts with bounds that no sum leaves. -/
def PartsFit (ps : List PartT) : Prop := ∀ (j : Nat) (x : PartT), ps[j]? = some x → 0 ≤ x.2.1 ∧ 1 ≤ x.2.2 ∧ x.2.2 ≤ 4 ∧ x.2.1 + 2 * x.2.2 ≤ 42
theorem chain_at : ∀ (ps : List PartT) (a s : Int), Chain a ps s → ∀ (j : Nat) (x : PartT), ps[j]? = some x → a ≤ x.2.1 ∧ 1 ≤ x.2.2 ∧ x.2.2 ≤ 4 ∧ x.2.1 + 2 * x.2.2 ≤ s
  | [], a, s, h, j, x, hx => by simp at hx
  | z :: r, a, s, h, 0, x, hx => by
    obtain rfl : z = x := by simpa using hx
    obtain ⟨h1, h2, h3, h4, h5, h6⟩ := h
    refine ⟨h3, h4, h5, ?_⟩
    have key : ∀ (r : List PartT) (b s : Int), Chain b r s → b ≤ s := by
      intro r
      induction r with
      | nil => intro b s h; exact h
      | cons z r ih =>
        intro b s h
        obtain ⟨_, _, g3, g4, _, g6⟩ := h
        have := ih _ _ g6
        omega
    exact key _ _ _ h6
  | z :: r, a, s, h, j + 1, x, hx => by
    obtain ⟨h1, h2, h3, h4, h5, h6⟩ := h
    obtain ⟨g1, g2, g3, g4⟩ := chain_at r _ s h6 j x (by simpa using hx)
    exact ⟨by omega, g2, g3, g4⟩
theorem chain_fit {ps : List PartT} {s : Int} (h : Chain 0 ps s) (hs : s ≤ 42) : PartsFit ps := fun j x hx => by
  obtain ⟨h1, h2, h3, h4⟩ := chain_at ps 0 s h j x hx
  exact ⟨h1, h2, h3, by omega⟩
theorem PartsIn.below {w w1 : World} {b o : Nat} {l : List PartT} (h : PartsIn w b o l) (hb : Below w.heap.size w w1) : PartsIn w1 b o l :=
  fun j x hx => ⟨cell_below hb (h j x hx).1, cell_below hb (h j x hx).2.1, cell_below hb (h j x hx).2.2⟩
def rangeOf (ps : List PartT) (t : Int) : Int × Int := match at? ps t with | some x => (x.2.1, x.2.1 + x.2.2 * 2) | none => (0, 0)
def secOf (ps : List PartT) (t p k : Int) : Int × Int := match at? ps t with | some x => if 0 ≤ p ∧ p < x.2.2 ∧ 0 ≤ k ∧ k ≤ 1 then (x.2.1 + 2 * p + k, 0) else (0, 4) | none => (0, 1)

theorem range_any (fr de sec : Int) (gb cap : Nat) (ps : List PartT) (t : Int) (w : World) (hp : PartsIn w gb 0 ps) (hf : PartsFit ps) (hn : ps.length ≤ 4) :
    Calls Try.prog 9 #[.agg #[.int .i64 fr, .int .i64 de, .int .i64 sec, .slice (some ⟨gb, 0, none⟩) ps.length cap], .int .i64 t] w
      fun e w' => e = .returned (.tuple #[.int .i64 (rangeOf ps t).1, .int .i64 (rangeOf ps t).2]) ∧ Below w.heap.size w w' := by
  unfold rangeOf
  cases h : at? ps t with
  | none =>
    clear hp hf
    rcases at?_none h with h0 | h0
    · clear h
      go_enter Try.func9, Try.ntmps9
      go_wp2
      go_ret2
      exact ⟨rfl, (Below.refl _ _).alloc (Nat.le_refl _) _⟩
    · clear h
      have d0 : ¬ t < 0 := by omega
      go_enter Try.func9, Try.ntmps9
      go_wp2
      go_ret2
      exact ⟨rfl, (Below.refl _ _).alloc (Nat.le_refl _) _⟩
  | some x =>
    obtain ⟨t0, t1, hx⟩ := at?_some h
    obtain ⟨t, rfl⟩ := Int.eq_ofNat_of_zero_le t0
    rw [Int.toNat_natCast] at hx
    obtain ⟨q, b, p⟩ := x
    obtain ⟨c0, c1, c2⟩ := hp t _ hx
    obtain ⟨f0, f1, f2, f3⟩ := hf t _ hx
    rw [Nat.zero_add] at c0 c1 c2
    dsimp only at c0 c1 c2 f0 f1 f2 f3 ⊢
    have hlt := cell_lt c0
    have d1 : decide ((t : Int) < 0) = false := by simp
    have d2 : decide (ps.length ≤ t) = false := by simp; omega
    clear h hp hf hx
    generalize ps.length = n at *
    go_enter Try.func9, Try.ntmps9
    go_wp2
    go_quiet (fail)
    go_wp2
    go_ret2
    exact ⟨rfl, below_drewN (((Below.refl _ _).alloc (Nat.le_refl _) _).alloc (by simp) _) _⟩

theorem sector_any (fr de sec : Int) (gb cap : Nat) (ps : List PartT) (t p k : Int) (w : World) (hp : PartsIn w gb 0 ps) (hf : PartsFit ps) (hn : ps.length ≤ 4) :
    Calls Try.prog 13 #[.agg #[.int .i64 fr, .int .i64 de, .int .i64 sec, .slice (some ⟨gb, 0, none⟩) ps.length cap], .int .i64 t, .int .i64 p, .int .i64 k] w
      fun e w' => e = .returned (.tuple #[.int .i64 (secOf ps t p k).1, .int .i64 (secOf ps t p k).2]) ∧ Below w.heap.size w w' := by
  unfold secOf
  cases h : at? ps t with
  | none =>
    clear hp hf
    rcases at?_none h with h0 | h0
    · clear h
      go_enter Try.func13, Try.ntmps13
      go_wp2
      go_ret2
      exact ⟨rfl, (Below.refl _ _).alloc (Nat.le_refl _) _⟩
    · clear h
      have d0 : ¬ t < 0 := by omega
      go_enter Try.func13, Try.ntmps13
      go_wp2
      go_ret2
      exact ⟨rfl, (Below.refl _ _).alloc (Nat.le_refl _) _⟩
  | some x =>
    obtain ⟨t0, t1, hx⟩ := at?_some h
    obtain ⟨t, rfl⟩ := Int.eq_ofNat_of_zero_le t0
    rw [Int.toNat_natCast] at hx
    obtain ⟨q, b, pg⟩ := x
    obtain ⟨c0, c1, c2⟩ := hp t _ hx
    obtain ⟨f0, f1, f2, f3⟩ := hf t _ hx
    rw [Nat.zero_add] at c0 c1 c2
    dsimp only at c0 c1 c2 f0 f1 f2 f3 ⊢
    have hlt := cell_lt c0
    have d1 : decide ((t : Int) < 0) = false := by simp
    have d2 : decide (ps.length ≤ t) = false := by simp; omega
    clear h hp hf hx
    generalize ps.length = n at *
    by_cases hgood : 0 ≤ p ∧ p < pg ∧ 0 ≤ k ∧ k ≤ 1
    · rw [if_pos hgood]
      obtain ⟨p0, p1, k0, k1⟩ := hgood
      go_enter Try.func13, Try.ntmps13
      go_wp2
      go_ret2
      exact ⟨congrArg (fun x => Ending.returned (.tuple #[.int .i64 x, .int .i64 0])) (show b + p * 2 + k = b + 2 * p + k by omega), ((Below.refl _ _).alloc (Nat.le_refl _) _).alloc (by simp) _⟩
    · rw [if_neg hgood]
      by_cases p0 : p < 0
      · clear hgood
        go_enter Try.func13, Try.ntmps13
        go_wp2
        go_ret2
        exact ⟨rfl, ((Below.refl _ _).alloc (Nat.le_refl _) _).alloc (by simp) _⟩
      · by_cases p1 : pg ≤ p
        · clear hgood
          go_enter Try.func13, Try.ntmps13
          go_wp2
          go_ret2
          exact ⟨rfl, ((Below.refl _ _).alloc (Nat.le_refl _) _).alloc (by simp) _⟩
        · by_cases k0 : k < 0
          · clear hgood
            go_enter Try.func13, Try.ntmps13
            go_wp2
            go_ret2
            exact ⟨rfl, ((Below.refl _ _).alloc (Nat.le_refl _) _).alloc (by simp) _⟩
          · have k1 : 2 ≤ k := by omega
            clear hgood
            go_enter Try.func13, Try.ntmps13
            go_wp2
            go_ret2
            exact ⟨rfl, ((Below.refl _ _).alloc (Nat.le_refl _) _).alloc (by simp) _⟩

theorem ref_sector_any (fr de sec : Int) (gb cap : Nat) (ps : List PartT) (t p k : Int) (w : World) (hp : PartsIn w gb 0 ps) (hf : PartsFit ps) (hn : ps.length ≤ 4) :
    Calls Try.prog 14 #[.agg #[.int .i64 fr, .int .i64 de, .int .i64 sec, .slice (some ⟨gb, 0, none⟩) ps.length cap], .int .i64 t, .int .i64 p, .int .i64 k] w
      fun e w' => e = .returned (.tuple #[.int .i64 (secOf ps t p k).1, .int .i64 (secOf ps t p k).2]) ∧ Below w.heap.size w w' := by
  unfold secOf
  cases h : at? ps t with
  | none =>
    clear hp hf
    rcases at?_none h with h0 | h0
    · clear h
      go_enter Try.func14, Try.ntmps14
      go_wp2
      go_ret2
      exact ⟨rfl, (Below.refl _ _).alloc (Nat.le_refl _) _⟩
    · clear h
      have d0 : ¬ t < 0 := by omega
      go_enter Try.func14, Try.ntmps14
      go_wp2
      go_ret2
      exact ⟨rfl, (Below.refl _ _).alloc (Nat.le_refl _) _⟩
  | some x =>
    obtain ⟨t0, t1, hx⟩ := at?_some h
    obtain ⟨t, rfl⟩ := Int.eq_ofNat_of_zero_le t0
    rw [Int.toNat_natCast] at hx
    obtain ⟨q, b, pg⟩ := x
    obtain ⟨c0, c1, c2⟩ := hp t _ hx
    obtain ⟨f0, f1, f2, f3⟩ := hf t _ hx
    rw [Nat.zero_add] at c0 c1 c2
    dsimp only at c0 c1 c2 f0 f1 f2 f3 ⊢
    have hlt := cell_lt c0
    have d1 : decide ((t : Int) < 0) = false := by simp
    have d2 : decide (ps.length ≤ t) = false := by simp; omega
    clear h hp hf hx
    generalize ps.length = n at *
    by_cases hgood : 0 ≤ p ∧ p < pg ∧ 0 ≤ k ∧ k ≤ 1
    · rw [if_pos hgood]
      obtain ⟨p0, p1, k0, k1⟩ := hgood
      go_enter Try.func14, Try.ntmps14
      go_wp2
      go_ret2
      exact ⟨rfl, (Below.refl _ _).alloc (Nat.le_refl _) _⟩
    · rw [if_neg hgood]
      by_cases p0 : p < 0
      · clear hgood
        go_enter Try.func14, Try.ntmps14
        go_wp2
        go_ret2
        exact ⟨rfl, (Below.refl _ _).alloc (Nat.le_refl _) _⟩
      · by_cases p1 : pg ≤ p
        · clear hgood
          go_enter Try.func14, Try.ntmps14
          go_wp2
          go_ret2
          exact ⟨rfl, (Below.refl _ _).alloc (Nat.le_refl _) _⟩
        · by_cases k0 : k < 0
          · clear hgood
            go_enter Try.func14, Try.ntmps14
            go_wp2
            go_ret2
            exact ⟨rfl, (Below.refl _ _).alloc (Nat.le_refl _) _⟩
          · have k1 : 1 < k := by omega
            clear hgood
            go_enter Try.func14, Try.ntmps14
            go_wp2
            go_ret2
            exact ⟨rfl, (Below.refl _ _).alloc (Nat.le_refl _) _⟩
end Go.Proofs.Ytdlacafljlddhaa
