/- The document's list of those that are good, beside the table's slots. -/
import Derived.Test.YthdcffbifgifeaaMt
namespace Go.Proofs.Ythdcffbifgifeaa
open Go.RowKit
set_option linter.unusedVariables false

/-- One of the document's list: slot, generation, rights. -/
abbrev Ent := Int × Int × Int
def ent (f : Nat → Slot) (i : Nat) : Ent := ((i : Int), (f i).2.1, (f i).2.2)
def lsl (f : Nat → Slot) (I : List Nat) : List Ent := (I.filter fun i => (f i).1).map (ent f)
/-- Those that are good, by their slots. -/
def lst (f : Nat → Slot) : List Ent := lsl f (List.range 8)
theorem lsl_app (f : Nat → Slot) (I J : List Nat) : lsl f (I ++ J) = lsl f I ++ lsl f J := by simp [lsl]
theorem lsl_one (f : Nat → Slot) (i : Nat) (h : (f i).1 = true) : lsl f [i] = [ent f i] := by simp [lsl, h]
theorem lsl_none (f : Nat → Slot) (i : Nat) (h : (f i).1 = false) : lsl f [i] = [] := by simp [lsl, h]
theorem lsl_upd (f : Nat → Slot) (i : Nat) (s : Slot) (I : List Nat) (h : i ∉ I) : lsl (upd f i s) I = lsl f I := by
  unfold lsl
  have h1 : I.filter (fun j => (upd f i s j).1) = I.filter fun j => (f j).1 := by
    apply List.filter_congr
    intro j hj
    unfold upd
    rw [if_neg (fun e => h (by rw [← e]; exact hj))]
  rw [h1]
  apply List.map_congr_left
  intro j hj
  have hj' := (List.mem_filter.1 hj).1
  unfold ent upd
  rw [if_neg (fun e => h (by rw [← e]; exact hj'))]
theorem range_at {i : Nat} (hi : i < 8) : List.range 8 = List.range i ++ [i] ++ List.range' (i + 1) (7 - i) := by
  rcases eight hi with rfl | rfl | rfl | rfl | rfl | rfl | rfl | rfl <;> rfl
theorem lst_at (f : Nat → Slot) {i : Nat} (hi : i < 8) : lst f = lsl f (List.range i) ++ lsl f [i] ++ lsl f (List.range' (i + 1) (7 - i)) := by
  unfold lst
  rw [range_at hi, lsl_app, lsl_app]
theorem lsl_slot {f : Nat → Slot} {I : List Nat} {x : Ent} (h : x ∈ lsl f I) : ∃ j ∈ I, (f j).1 = true ∧ x = ent f j := by
  unfold lsl at h
  rw [List.mem_map] at h
  obtain ⟨j, hj, rfl⟩ := h
  rw [List.mem_filter] at hj
  exact ⟨j, hj.1, hj.2, rfl⟩
theorem lst_live (f : Nat → Slot) : (lst f).map (fun x => (x.1, x.2.1)) = live f 8 := by
  unfold lst lsl live
  rw [List.map_map]
  rfl
theorem lst_len (f : Nat → Slot) : (lst f).length ≤ 8 := by
  have := live_len f 8
  rw [← lst_live, List.length_map] at this
  exact this
theorem lst_live_len (f : Nat → Slot) : (lst f).length = (live f 8).length := by rw [← lst_live, List.length_map]

/-- Where a capability stands. -/
def fnd (R : List Ent) (s g : Int) : Option Nat := R.findIdx? fun x => x.1 == s && x.2.1 == g
def fidx (R : List Ent) (s g : Int) : Int := match fnd R s g with | some k => (k : Int) | none => -1
theorem fnd_at (f : Nat → Slot) {i : Nat} (hi : i < 8) (hu : (f i).1 = true) : fnd (lst f) i (f i).2.1 = some (lsl f (List.range i)).length := by
  have h0 : (lsl f (List.range i)).findIdx? (fun x => x.1 == (i : Int) && x.2.1 == (f i).2.1) = none := by
    rw [List.findIdx?_eq_none_iff]
    intro x hx
    obtain ⟨j, hj, _, rfl⟩ := lsl_slot hx
    have := List.mem_range.1 hj
    have hne : ((j : Int) == (i : Int)) = false := by simp; omega
    simp [ent, hne]
  unfold fnd
  rw [lst_at f hi, lsl_one f i hu, List.append_assoc, List.findIdx?_append, h0]
  simp [ent, List.findIdx?_cons]
theorem lst_get (f : Nat → Slot) {i : Nat} (hi : i < 8) (hu : (f i).1 = true) : (lst f)[(lsl f (List.range i)).length]? = some (ent f i) := by
  rw [lst_at f hi, lsl_one f i hu, List.append_assoc, List.getElem?_append_right (Nat.le_refl _)]
  simp
theorem fnd_none (f : Nat → Slot) {s g : Int} (h : (s, g) ∉ live f 8) : fnd (lst f) s g = none := by
  unfold fnd
  rw [List.findIdx?_eq_none_iff]
  intro x hx
  rw [← Bool.not_eq_true]
  intro he
  simp at he
  apply h
  rw [← lst_live]
  exact List.mem_map.2 ⟨x, hx, by rw [he.1, he.2]⟩
/-- A good one, or not. -/
theorem gd_cases (f : Nat → Slot) (s g : Int) : (gd f s g = none ∧ fnd (lst f) s g = none) ∨
    ∃ i : Nat, i < 8 ∧ s = i ∧ (f i).1 = true ∧ g = (f i).2.1 ∧ gd f s g = some (f i).2.2 ∧ fnd (lst f) s g = some (lsl f (List.range i)).length ∧ (lst f)[(lsl f (List.range i)).length]? = some (s, g, (f i).2.2) := by
  by_cases h : (s, g) ∈ live f 8
  · right
    obtain ⟨i, hi, rfl, hu, rfl⟩ := live_mem h
    exact ⟨i, hi, rfl, hu, rfl, gd_some hi hu rfl, fnd_at f hi hu, lst_get f hi hu⟩
  · left
    exact ⟨by unfold gd; rw [if_neg h], fnd_none f h⟩

theorem lst_revoke (f : Nat → Slot) {i : Nat} (hi : i < 8) (hu : (f i).1 = true) :
    lst (upd f i (false, 0, 0)) = (lst f).take (lsl f (List.range i)).length ++ (lst f).drop ((lsl f (List.range i)).length + 1) := by
  have h1 : i ∉ List.range i := by simp
  have h2 : i ∉ List.range' (i + 1) (7 - i) := by rw [List.mem_range'_1]; omega
  rw [lst_at (upd f i _) hi, lsl_upd _ _ _ _ h1, lsl_upd _ _ _ _ h2, lsl_none _ i (by unfold upd; rw [if_pos rfl]), lst_at f hi, lsl_one f i hu]
  simp
theorem lsl_all (f : Nat → Slot) (I : List Nat) (h : ∀ j ∈ I, (f j).1 = true) : lsl f I = I.map (ent f) := by
  unfold lsl
  rw [List.filter_eq_self.2 h]
theorem lst_mint (f : Nat → Slot) {i : Nat} (hi : i < 8) (hu : (f i).1 = false) (hb : ∀ j, j < i → (f j).1 = true) (g o : Int) :
    lst (upd f i (true, g, o)) = (lst f).take i ++ [((i : Int), g, o)] ++ (lst f).drop i := by
  have h1 : i ∉ List.range i := by simp
  have h2 : i ∉ List.range' (i + 1) (7 - i) := by rw [List.mem_range'_1]; omega
  have hl : (lsl f (List.range i)).length = i := by rw [lsl_all f _ (fun j hj => hb j (List.mem_range.1 hj))]; simp
  rw [lst_at (upd f i _) hi, lsl_upd _ _ _ _ h1, lsl_upd _ _ _ _ h2, lsl_one _ i (by unfold upd; rw [if_pos rfl]), lst_at f hi, lsl_none f i hu]
  have e : ent (upd f i (true, g, o)) i = ((i : Int), g, o) := by unfold ent upd; rw [if_pos rfl]
  rw [e, List.append_nil]
  rw [List.take_append_of_le_length (by omega), List.drop_append_of_le_length (by omega), List.take_of_length_le (by omega), List.drop_eq_nil_of_le (by omega)]
  simp
/-- How the document counts to the first empty slot. -/
def frc (n : Int) : List Ent → Int
  | [] => n
  | x :: R => frc (if x.1 = n then n + 1 else n) R
theorem frc_app (n : Int) (A C : List Ent) : frc n (A ++ C) = frc (frc n A) C := by
  induction A generalizing n with
  | nil => rfl
  | cons x A ih => exact ih _
theorem frc_snoc (n : Int) (A : List Ent) (x : Ent) : frc n (A ++ [x]) = if x.1 = frc n A then frc n A + 1 else frc n A := by rw [frc_app]; rfl
theorem frc_run (f : Nat → Slot) : ∀ i : Nat, frc 0 ((List.range i).map (ent f)) = i
  | 0 => rfl
  | i + 1 => by
    rw [List.range_succ, List.map_append, List.map_singleton, frc_snoc, frc_run f i]
    simp [ent]
theorem frc_far (n : Int) : ∀ C : List Ent, (∀ x ∈ C, n < x.1) → frc n C = n
  | [], _ => rfl
  | x :: C, h => by
    have h1 := h x List.mem_cons_self
    show frc (if x.1 = n then n + 1 else n) C = n
    rw [if_neg (by omega)]
    exact frc_far n C fun y hy => h y (List.mem_cons_of_mem _ hy)
theorem fre_first (f : Nat → Slot) : ∀ (n k : Nat), (fre f n k = -1 ∧ ∀ j, k ≤ j → j < k + n → (f j).1 = true) ∨ ∃ i : Nat, k ≤ i ∧ i < k + n ∧ fre f n k = i ∧ (f i).1 = false ∧ ∀ j, k ≤ j → j < i → (f j).1 = true
  | 0, k => .inl ⟨rfl, fun j h1 h2 => by omega⟩
  | n + 1, k => by
    cases hu : (f k).1 with
    | false => exact .inr ⟨k, Nat.le_refl _, by omega, by simp [fre, hu], hu, fun j h1 h2 => by omega⟩
    | true =>
      rcases fre_first f n (k + 1) with ⟨h, ha⟩ | ⟨i, h1, h2, h3, h4, h5⟩
      · refine .inl ⟨by simp [fre, hu, h], fun j h1 h2 => ?_⟩
        by_cases e : j = k
        · rw [e]; exact hu
        · exact ha j (by omega) (by omega)
      · refine .inr ⟨i, by omega, by omega, by simp [fre, hu, h3], h4, fun j h6 h7 => ?_⟩
        by_cases e : j = k
        · rw [e]; exact hu
        · exact h5 j (by omega) h7
theorem frc_full (f : Nat → Slot) (h : ∀ j, j < 8 → (f j).1 = true) : frc 0 (lst f) = 8 := by
  unfold lst
  rw [lsl_all f _ (fun j hj => h j (List.mem_range.1 hj))]
  exact frc_run f 8
theorem frc_free (f : Nat → Slot) {i : Nat} (hi : i < 8) (hu : (f i).1 = false) (hb : ∀ j, j < i → (f j).1 = true) : frc 0 (lst f) = i := by
  rw [lst_at f hi, lsl_none f i hu, List.append_nil, frc_app, lsl_all f _ (fun j hj => hb j (List.mem_range.1 hj)), frc_run]
  apply frc_far
  intro x hx
  obtain ⟨j, hj, _, rfl⟩ := lsl_slot hx
  have := List.mem_range'_1.1 hj
  simp [ent]
  omega
/-- All rights of a table are rights. -/
def Good (f : Nat → Slot) : Prop := ∀ i, 0 ≤ (f i).2.2 ∧ (f i).2.2 < 16
theorem Good.upd {f : Nat → Slot} (h : Good f) (i : Nat) {u : Bool} {g o : Int} (h0 : 0 ≤ o) (h1 : o < 16) : Good (upd f i (u, g, o)) := by
  intro j
  unfold Proofs.Ythdcffbifgifeaa.upd
  by_cases e : j = i
  · rw [if_pos e]; exact ⟨h0, h1⟩
  · rw [if_neg e]; exact h j
theorem Good.code {f : Nat → Slot} (h : Good f) {i : Nat} {n : Nat} (hn : n < 16) : ∃ o : Nat, o < 16 ∧ (f i).2.2 = o ∧ ccode (some (f i).2.2) n = if refh o n then 0 else 11 := by
  obtain ⟨h0, h1⟩ := h i
  obtain ⟨o, ho⟩ := Int.eq_ofNat_of_zero_le h0
  refine ⟨o, by omega, ho, ?_⟩
  rw [ho]
  unfold ccode
  show (if hs (o : Int) n = true then _ else _) = _
  rw [hs_ref (by omega) hn]
end Go.Proofs.Ythdcffbifgifeaa
