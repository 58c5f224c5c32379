/- The evaluator's tries: what a get says behind a set. -/
import Derived.Test.YtohnakjamlhhkaaGreatDoorSo1
namespace Go.Proofs.YtohnakjamlhhkaaGreatDoor
open Go
set_option linter.unusedVariables false
set_option linter.unusedSimpArgs false

/-- A number is 0, or an odd one, or an even one. -/
theorem nat_cases3 (n : Nat) : n = 0 ∨ (∃ m, n = m + 1 ∧ m % 2 = 0) ∨ (∃ m, n = m + 1 ∧ ∃ k, m % 2 = k + 1) := by
  rcases n with _ | m
  · exact .inl rfl
  · rcases Nat.mod_two_eq_zero_or_one m with h | h
    · exact .inr (.inl ⟨m, rfl, h⟩)
    · exact .inr (.inr ⟨m, rfl, 0, h⟩)

theorem HT.get_leaf (n : Nat) : HT.get .leaf n = none := rfl
theorem HT.get_zero (v : Option AObj) (l r : HT) : HT.get (.node v l r) 0 = v := rfl
theorem HT.get_even (v : Option AObj) (l r : HT) {m : Nat} (h : m % 2 = 0) : HT.get (.node v l r) (m + 1) = HT.get l (m / 2) := by
  show Nat.rec (motive := fun _ => Option AObj) (HT.get l (m / 2)) (fun _ _ => HT.get r (m / 2)) (m % 2) = _
  rw [h]; try rfl
theorem HT.get_odd (v : Option AObj) (l r : HT) {m k : Nat} (h : m % 2 = k + 1) : HT.get (.node v l r) (m + 1) = HT.get r (m / 2) := by
  show Nat.rec (motive := fun _ => Option AObj) (HT.get l (m / 2)) (fun _ _ => HT.get r (m / 2)) (m % 2) = _
  rw [h]; try rfl
theorem HT.one_zero (v : AObj) (k : Nat) : HT.one v (k + 1) 0 = .node (some v) .leaf .leaf := rfl
theorem HT.one_even (v : AObj) (k : Nat) {m : Nat} (h : m % 2 = 0) : HT.one v (k + 1) (m + 1) = .node none (HT.one v k (m / 2)) .leaf := by
  show Nat.rec (motive := fun _ => HT) (HT.node none (HT.one v k (m / 2)) .leaf) (fun _ _ => HT.node none .leaf (HT.one v k (m / 2))) (m % 2) = _
  rw [h]; try rfl
theorem HT.one_odd (v : AObj) (k : Nat) {m j : Nat} (h : m % 2 = j + 1) : HT.one v (k + 1) (m + 1) = .node none .leaf (HT.one v k (m / 2)) := by
  show Nat.rec (motive := fun _ => HT) (HT.node none (HT.one v k (m / 2)) .leaf) (fun _ _ => HT.node none .leaf (HT.one v k (m / 2))) (m % 2) = _
  rw [h]; try rfl
theorem HT.set_leaf (v : AObj) (n : Nat) : HT.set v n .leaf = HT.one v 24 n := rfl
theorem HT.set_zero (v : AObj) (u : Option AObj) (l r : HT) : HT.set v 0 (.node u l r) = .node (some v) l r := rfl
theorem HT.set_even (v : AObj) (u : Option AObj) (l r : HT) {m : Nat} (h : m % 2 = 0) : HT.set v (m + 1) (.node u l r) = .node u (HT.set v (m / 2) l) r := by
  show Nat.rec (motive := fun _ => HT) (HT.node u (HT.set v (m / 2) l) r) (fun _ _ => HT.node u l (HT.set v (m / 2) r)) (m % 2) = _
  rw [h]; try rfl
theorem HT.set_odd (v : AObj) (u : Option AObj) (l r : HT) {m k : Nat} (h : m % 2 = k + 1) : HT.set v (m + 1) (.node u l r) = .node u l (HT.set v (m / 2) r) := by
  show Nat.rec (motive := fun _ => HT) (HT.node u (HT.set v (m / 2) l) r) (fun _ _ => HT.node u l (HT.set v (m / 2) r)) (m % 2) = _
  rw [h]; try rfl

theorem half_inj0 {a b : Nat} (ha : a % 2 = 0) (hb : b % 2 = 0) (h : a / 2 = b / 2) : a = b := by omega
theorem half_inj1 {a b j k : Nat} (ha : a % 2 = j + 1) (hb : b % 2 = k + 1) (h : a / 2 = b / 2) : a = b := by omega

theorem HT.get_one (v : AObj) : ∀ (k n m : Nat) (o : AObj), HT.get (HT.one v k n) m = some o → m = n ∧ o = v
  | 0, n, m, o, h => by
    have : HT.one v 0 n = .leaf := rfl
    rw [this, HT.get_leaf] at h; cases h
  | k + 1, n, m, o, h => by
    rcases nat_cases3 n with rfl | ⟨a, rfl, ha⟩ | ⟨a, rfl, j, ha⟩ <;> rcases nat_cases3 m with rfl | ⟨b, rfl, hb⟩ | ⟨b, rfl, i, hb⟩
    · rw [HT.one_zero, HT.get_zero] at h; exact ⟨rfl, by cases h; rfl⟩
    · rw [HT.one_zero, HT.get_even _ _ _ hb, HT.get_leaf] at h; cases h
    · rw [HT.one_zero, HT.get_odd _ _ _ hb, HT.get_leaf] at h; cases h
    · rw [HT.one_even _ _ ha, HT.get_zero] at h; cases h
    · rw [HT.one_even _ _ ha, HT.get_even _ _ _ hb] at h
      have := HT.get_one v k _ _ _ h
      exact ⟨by rw [half_inj0 hb ha this.1], this.2⟩
    · rw [HT.one_even _ _ ha, HT.get_odd _ _ _ hb, HT.get_leaf] at h; cases h
    · rw [HT.one_odd _ _ ha, HT.get_zero] at h; cases h
    · rw [HT.one_odd _ _ ha, HT.get_even _ _ _ hb, HT.get_leaf] at h; cases h
    · rw [HT.one_odd _ _ ha, HT.get_odd _ _ _ hb] at h
      have := HT.get_one v k _ _ _ h
      exact ⟨by rw [half_inj1 hb ha this.1], this.2⟩

/-- Behind a set one finds what was set, or elsewhere what was there. -/
theorem HT.get_set (v : AObj) (t : HT) : ∀ (n m : Nat) (o : AObj), HT.get (HT.set v n t) m = some o → (m = n ∧ o = v) ∨ (m ≠ n ∧ HT.get t m = some o) := by
  induction t with
  | leaf => intro n m o h; rw [HT.set_leaf] at h; exact .inl (HT.get_one v _ _ _ _ h)
  | node u l r ihl ihr =>
    intro n m o h
    rcases nat_cases3 n with rfl | ⟨a, rfl, ha⟩ | ⟨a, rfl, j, ha⟩ <;> rcases nat_cases3 m with rfl | ⟨b, rfl, hb⟩ | ⟨b, rfl, i, hb⟩
    · rw [HT.set_zero, HT.get_zero] at h; cases h; exact .inl ⟨rfl, rfl⟩
    · rw [HT.set_zero, HT.get_even _ _ _ hb] at h; rw [HT.get_even _ _ _ hb]; exact .inr ⟨by omega, h⟩
    · rw [HT.set_zero, HT.get_odd _ _ _ hb] at h; rw [HT.get_odd _ _ _ hb]; exact .inr ⟨by omega, h⟩
    · rw [HT.set_even _ _ _ _ ha, HT.get_zero] at h; rw [HT.get_zero]; exact .inr ⟨by omega, h⟩
    · rw [HT.set_even _ _ _ _ ha, HT.get_even _ _ _ hb] at h; rw [HT.get_even _ _ _ hb]
      rcases ihl _ _ _ h with ⟨e, e'⟩ | ⟨e, e'⟩
      · exact .inl ⟨by rw [half_inj0 hb ha e], e'⟩
      · exact .inr ⟨fun q => e (by rw [show b = a by omega]), e'⟩
    · rw [HT.set_even _ _ _ _ ha, HT.get_odd _ _ _ hb] at h; rw [HT.get_odd _ _ _ hb]; exact .inr ⟨fun q => by rw [Nat.add_right_cancel q] at hb; omega, h⟩
    · rw [HT.set_odd _ _ _ _ ha, HT.get_zero] at h; rw [HT.get_zero]; exact .inr ⟨by omega, h⟩
    · rw [HT.set_odd _ _ _ _ ha, HT.get_even _ _ _ hb] at h; rw [HT.get_even _ _ _ hb]; exact .inr ⟨fun q => by rw [Nat.add_right_cancel q] at hb; omega, h⟩
    · rw [HT.set_odd _ _ _ _ ha, HT.get_odd _ _ _ hb] at h; rw [HT.get_odd _ _ _ hb]
      rcases ihr _ _ _ h with ⟨e, e'⟩ | ⟨e, e'⟩
      · exact .inl ⟨by rw [half_inj1 hb ha e], e'⟩
      · exact .inr ⟨fun q => e (by rw [show b = a by omega]), e'⟩

/-! ### Frames -/
theorem getC_leaf : ∀ (k n : Nat), (getC k n).run .leaf = none
  | 0, n => rfl
  | k + 1, n => by
    rcases nat_cases3 n with rfl | ⟨a, rfl, ha⟩ | ⟨a, rfl, j, ha⟩
    · rfl
    · show (Nat.rec (motive := fun _ => RunV) _ _ (a % 2)).run _ = _
      rw [ha]; try rfl
    · show (Nat.rec (motive := fun _ => RunV) _ _ (a % 2)).run _ = _
      rw [ha]; try rfl
theorem getC_zero (k : Nat) (v : Value) (l r : FT) : (getC (k + 1) 0).run (.node v l r) = some v := rfl
theorem getC_even (k : Nat) (v : Value) (l r : FT) {m : Nat} (h : m % 2 = 0) : (getC (k + 1) (m + 1)).run (.node v l r) = (getC k (m / 2)).run l := by
  show (Nat.rec (motive := fun _ => RunV) ⟨fun t => FT.rec none (fun _ l _ _ _ => (getC k (m / 2)).run l) t⟩ (fun _ _ => ⟨fun t => FT.rec none (fun _ _ r _ _ => (getC k (m / 2)).run r) t⟩) (m % 2)).run _ = _
  rw [h]; try rfl
theorem getC_odd (k : Nat) (v : Value) (l r : FT) {m j : Nat} (h : m % 2 = j + 1) : (getC (k + 1) (m + 1)).run (.node v l r) = (getC k (m / 2)).run r := by
  show (Nat.rec (motive := fun _ => RunV) ⟨fun t => FT.rec none (fun _ l _ _ _ => (getC k (m / 2)).run l) t⟩ (fun _ _ => ⟨fun t => FT.rec none (fun _ _ r _ _ => (getC k (m / 2)).run r) t⟩) (m % 2)).run _ = _
  rw [h]; try rfl
theorem setC_leaf : ∀ (k n : Nat) (v : Value), (setC k n).run v .leaf = none
  | 0, n, v => rfl
  | k + 1, n, v => by
    rcases nat_cases3 n with rfl | ⟨a, rfl, ha⟩ | ⟨a, rfl, j, ha⟩
    · rfl
    · show (Nat.rec (motive := fun _ => RunS) _ _ (a % 2)).run _ _ = _
      rw [ha]; try rfl
    · show (Nat.rec (motive := fun _ => RunS) _ _ (a % 2)).run _ _ = _
      rw [ha]; try rfl
theorem setC_zero (k : Nat) (v u : Value) (l r : FT) : (setC (k + 1) 0).run v (.node u l r) = some (.node v l r) := rfl
theorem setC_even (k : Nat) (v u : Value) (l r : FT) {m : Nat} (h : m % 2 = 0) : (setC (k + 1) (m + 1)).run v (.node u l r) = ((setC k (m / 2)).run v l).bind fun l => some (.node u l r) := by
  show (Nat.rec (motive := fun _ => RunS) ⟨fun v t => FT.rec none (fun u l r _ _ => Option.rec none (fun l => some (.node u l r)) ((setC k (m / 2)).run v l)) t⟩ (fun _ _ => ⟨fun v t => FT.rec none (fun u l r _ _ => Option.rec none (fun r => some (.node u l r)) ((setC k (m / 2)).run v r)) t⟩) (m % 2)).run _ _ = _
  rw [h]
  show Option.rec (motive := fun _ => Option FT) none (fun l => some (FT.node u l r)) ((setC k (m / 2)).run v l) = _
  cases (setC k (m / 2)).run v l <;> rfl
theorem setC_odd (k : Nat) (v u : Value) (l r : FT) {m j : Nat} (h : m % 2 = j + 1) : (setC (k + 1) (m + 1)).run v (.node u l r) = ((setC k (m / 2)).run v r).bind fun r => some (.node u l r) := by
  show (Nat.rec (motive := fun _ => RunS) ⟨fun v t => FT.rec none (fun u l r _ _ => Option.rec none (fun l => some (.node u l r)) ((setC k (m / 2)).run v l)) t⟩ (fun _ _ => ⟨fun v t => FT.rec none (fun u l r _ _ => Option.rec none (fun r => some (.node u l r)) ((setC k (m / 2)).run v r)) t⟩) (m % 2)).run _ _ = _
  rw [h]
  show Option.rec (motive := fun _ => Option FT) none (fun r => some (FT.node u l r)) ((setC k (m / 2)).run v r) = _
  cases (setC k (m / 2)).run v r <;> rfl

/-- A number that can be set was there. -/
theorem setC_get : ∀ (k n : Nat) (v : Value) (t t' : FT), (setC k n).run v t = some t' → ∃ u, (getC k n).run t = some u
  | 0, n, v, t, t', h => by cases h
  | k + 1, n, v, .leaf, t', h => by rw [setC_leaf] at h; cases h
  | k + 1, n, v, .node u l r, t', h => by
    rcases nat_cases3 n with rfl | ⟨a, rfl, ha⟩ | ⟨a, rfl, j, ha⟩
    · exact ⟨u, rfl⟩
    · rw [setC_even _ _ _ _ _ ha] at h
      rw [getC_even _ _ _ _ ha]
      cases h' : (setC k (a / 2)).run v l with
      | none => rw [h'] at h; cases h
      | some l' => exact setC_get k _ v l l' h'
    · rw [setC_odd _ _ _ _ _ ha] at h
      rw [getC_odd _ _ _ _ ha]
      cases h' : (setC k (a / 2)).run v r with
      | none => rw [h'] at h; cases h
      | some r' => exact setC_get k _ v r r' h'

theorem getC_setC : ∀ (k n : Nat) (v : Value) (t t' : FT), (setC k n).run v t = some t' → ∀ m u, (getC k m).run t' = some u → (m = n ∧ u = v) ∨ (m ≠ n ∧ (getC k m).run t = some u)
  | 0, n, v, t, t', h => by cases h
  | k + 1, n, v, .leaf, t', h => by rw [setC_leaf] at h; cases h
  | k + 1, n, v, .node u l r, t', h => by
    intro m x hm
    rcases nat_cases3 n with rfl | ⟨a, rfl, ha⟩ | ⟨a, rfl, j, ha⟩
    · rw [setC_zero] at h; cases h
      rcases nat_cases3 m with rfl | ⟨b, rfl, hb⟩ | ⟨b, rfl, i, hb⟩
      · rw [getC_zero] at hm; cases hm; exact .inl ⟨rfl, rfl⟩
      · rw [getC_even _ _ _ _ hb] at hm ⊢; exact .inr ⟨by omega, hm⟩
      · rw [getC_odd _ _ _ _ hb] at hm ⊢; exact .inr ⟨by omega, hm⟩
    · rw [setC_even _ _ _ _ _ ha] at h
      cases h' : (setC k (a / 2)).run v l with
      | none => rw [h'] at h; cases h
      | some l' =>
        rw [h'] at h; cases h
        rcases nat_cases3 m with rfl | ⟨b, rfl, hb⟩ | ⟨b, rfl, i, hb⟩
        · rw [getC_zero] at hm ⊢; exact .inr ⟨by omega, hm⟩
        · rw [getC_even _ _ _ _ hb] at hm ⊢
          rcases getC_setC k _ v l l' h' _ _ hm with ⟨e, e'⟩ | ⟨e, e'⟩
          · exact .inl ⟨by rw [half_inj0 hb ha e], e'⟩
          · exact .inr ⟨fun q => e (by rw [Nat.add_right_cancel q]), e'⟩
        · rw [getC_odd _ _ _ _ hb] at hm ⊢; exact .inr ⟨fun q => by rw [Nat.add_right_cancel q] at hb; omega, hm⟩
    · rw [setC_odd _ _ _ _ _ ha] at h
      cases h' : (setC k (a / 2)).run v r with
      | none => rw [h'] at h; cases h
      | some r' =>
        rw [h'] at h; cases h
        rcases nat_cases3 m with rfl | ⟨b, rfl, hb⟩ | ⟨b, rfl, i, hb⟩
        · rw [getC_zero] at hm ⊢; exact .inr ⟨by omega, hm⟩
        · rw [getC_even _ _ _ _ hb] at hm ⊢; exact .inr ⟨fun q => by rw [Nat.add_right_cancel q] at hb; omega, hm⟩
        · rw [getC_odd _ _ _ _ hb] at hm ⊢
          rcases getC_setC k _ v r r' h' _ _ hm with ⟨e, e'⟩ | ⟨e, e'⟩
          · exact .inl ⟨by rw [half_inj1 hb ha e], e'⟩
          · exact .inr ⟨fun q => e (by rw [Nat.add_right_cancel q]), e'⟩
end Go.Proofs.YtohnakjamlhhkaaGreatDoor
