/- caps.Table: a table in which some were minted; the document's Has. -/
import Derived.Test.YthdcffbifgifeaaLawNews
namespace Go.Proofs.Ythdcffbifgifeaa
open Go.RowKit
set_option linter.unusedVariables false

/-- A table of the epoch E in which capabilities of the rights rs were minted. -/
def stL (E : Nat) (rs : List Int) : Nat → Slot := fun j => if j = 0 then (true, (E : Int) * 1048576, 15) else if j ≤ rs.length then (true, (E : Int) * 1048576 + j, rs.getD (j - 1) 0) else (false, 0, 0)
theorem stL_nil (E : Nat) : stL E [] = st0 E := by
  funext j
  unfold stL st0 upd emp
  by_cases h : j = 0
  · rw [if_pos h, if_pos h]
  · rw [if_neg h, if_neg h, if_neg (by simpa using h)]
theorem stL_root (E : Nat) (rs : List Int) : Rooted (stL E rs) E := rfl
theorem stL_snoc (E : Nat) (rs : List Int) (r : Int) : upd (stL E rs) (rs.length + 1) (true, (E : Int) * 1048576 + ((rs.length + 1 : Nat) : Int), r) = stL E (rs ++ [r]) := by
  funext j
  unfold upd stL
  by_cases h0 : j = 0
  · subst h0; simp
  · by_cases h1 : j = rs.length + 1
    · subst h1
      simp [List.getD_eq_getElem?_getD]
    · rw [if_neg h1, if_neg h0, if_neg h0]
      by_cases h2 : j ≤ rs.length
      · rw [if_pos h2, if_pos (by simp; omega)]
        simp only [List.getD_eq_getElem?_getD]
        rw [List.getElem?_append_left (by omega)]
      · rw [if_neg h2, if_neg (by simp; omega)]
theorem stL_used (E : Nat) (rs : List Int) {j : Nat} (h : j ≤ rs.length) : (stL E rs j).1 = true ∧ (stL E rs j).2.1 = (E : Int) * 1048576 + j := by
  unfold stL
  by_cases h0 : j = 0
  · rw [if_pos h0]; subst h0; simp
  · rw [if_neg h0, if_pos h]; exact ⟨rfl, rfl⟩
theorem stL_free (E : Nat) (rs : List Int) {j : Nat} (h : rs.length < j) : (stL E rs j).1 = false := by
  unfold stL
  rw [if_neg (by omega), if_neg (by omega)]
theorem fre_run (f : Nat → Slot) : ∀ (n k m : Nat), k ≤ m → (∀ j, k ≤ j → j < m → (f j).1 = true) → (m < k + n → (f m).1 = false) → fre f n k = if m < k + n then (m : Int) else -1
  | 0, k, m, h, _, _ => by rw [if_neg (by omega)]; rfl
  | n + 1, k, m, h, h1, h2 => by
    by_cases e : k = m
    · subst e
      rw [if_pos (by omega)]
      simp [fre, h2 (by omega)]
    · have := fre_run f n (k + 1) m (by omega) (fun j a b => h1 j (by omega) b) (fun a => h2 (by omega))
      simp only [fre, h1 k (Nat.le_refl _) (by omega), if_true]
      rw [this]
      by_cases h3 : m < k + (n + 1)
      · rw [if_pos h3, if_pos (by omega)]
      · rw [if_neg h3, if_neg (by omega)]
theorem stL_fre (E : Nat) (rs : List Int) : fre (stL E rs) 8 0 = if rs.length < 7 then ((rs.length + 1 : Nat) : Int) else -1 := by
  rw [fre_run (stL E rs) 8 0 (rs.length + 1) (by omega) (fun j _ h => (stL_used E rs (by omega)).1) (fun _ => stL_free E rs (by omega))]
  by_cases h : rs.length < 7
  · rw [if_pos (by omega), if_pos h]
  · rw [if_neg (by omega), if_neg h]
theorem live_run (f : Nat → Slot) (m : Nat) (h1 : ∀ j, j < m → (f j).1 = true) (h2 : ∀ j, m ≤ j → (f j).1 = false) : ∀ n, live f n = (List.range (min n m)).map fun i : Nat => ((i : Int), (f i).2.1)
  | 0 => by simp [live]
  | n + 1 => by
    by_cases h : n < m
    · rw [live_yes f n (h1 n h), live_run f m h1 h2 n, show min (n + 1) m = n + 1 by omega, show min n m = n by omega, List.range_succ]
      simp
    · rw [live_no f n (h2 n (by omega)), live_run f m h1 h2 n, show min (n + 1) m = min n m by omega]
theorem stL_live (E : Nat) (rs : List Int) (h : rs.length ≤ 7) : live (stL E rs) 8 = (List.range (rs.length + 1)).map fun i : Nat => ((i : Int), (E : Int) * 1048576 + i) := by
  rw [live_run (stL E rs) (rs.length + 1) (fun j hj => (stL_used E rs (by omega)).1) (fun j hj => stL_free E rs (by omega)), show min 8 (rs.length + 1) = rs.length + 1 by omega]
  apply List.map_congr_left
  intro i hi
  rw [(stL_used E rs (by have := List.mem_range.1 hi; omega)).2]
/-- The rights of the one that was minted as the k-th; 0: the root's. -/
def rk (rs : List Int) (k : Nat) : Int := if k = 0 then 15 else rs.getD (k - 1) 0
theorem stL_gd (E : Nat) (rs : List Int) (h : rs.length ≤ 7) {k : Nat} (hk : k ≤ rs.length) : gd (stL E rs) k ((E : Int) * 1048576 + k) = some (rk rs k) := by
  have hm := mem_live (f := stL E rs) (i := k) (by omega) (stL_used E rs hk).1
  rw [(stL_used E rs hk).2] at hm
  unfold gd
  rw [if_pos hm, Int.toNat_natCast]
  unfold stL rk
  by_cases h0 : k = 0
  · rw [if_pos h0, if_pos h0]
  · rw [if_neg h0, if_neg h0, if_pos hk]
end Go.Proofs.Ythdcffbifgifeaa
