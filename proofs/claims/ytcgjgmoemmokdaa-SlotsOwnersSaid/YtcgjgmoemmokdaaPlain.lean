/- Plain arithmetic of a schedule: whose a tick is, the next tick of a tenant, how many ticks are a tenant's. No program in sight. -/
set_option linter.unusedVariables false
namespace Go.Proofs.Ytcgjgmoemmokdaa.Slots

/-- The next tick of a tenant. -/
def nx (n t i : Int) : Int := t + (i - t) % n
theorem nx_lo (n t i : Int) (h : 1 ≤ n) : t ≤ nx n t i := by
  have := Int.emod_nonneg (i - t) (show n ≠ 0 by omega)
  unfold nx; omega
theorem nx_hi (n t i : Int) (h : 1 ≤ n) : nx n t i < t + n := by
  have := Int.emod_lt_of_pos (i - t) (show 0 < n by omega)
  unfold nx; omega
theorem nx_owner (n t i : Int) (_h : 1 ≤ n) (h0 : 0 ≤ i) (h1 : i < n) : nx n t i % n = i := by
  unfold nx
  rw [Int.add_emod_emod, show t + (i - t) = i by omega, Int.emod_eq_of_lt h0 h1]
/-- One within n ticks whose owner is i is the next tick. -/
theorem nx_eq (n t i k : Int) (h0 : 0 ≤ k) (h1 : k < n) (h : (t + k) % n = i) : t + k = nx n t i := by
  unfold nx
  have e : (i - t) % n = k := by
    rw [← h, Int.emod_sub_emod, show t + k - t = k by omega, Int.emod_eq_of_lt h0 h1]
  omega
theorem nx_least (n t i k : Int) (h : 1 ≤ n) (h0 : 0 ≤ i) (h1 : i < n) (_hk : 0 ≤ k) (hlt : t + k < nx n t i) : (t + k) % n ≠ i := by
  intro he
  have h2 := nx_hi n t i h
  have := nx_eq n t i k (by omega) (by omega) he
  omega

/-- How many ticks ahead of t are a tenant's. -/
def ah (n t i : Int) : Int := (t + n - 1 - i) / n
/-- How many of d ticks from f on are a tenant's. -/
def cnt (n i f : Int) : Nat → Int
  | 0 => 0
  | d + 1 => cnt n i f d + if (f + d) % n = i then 1 else 0

theorem div_succ (n x : Int) (h : 1 ≤ n) : (x + 1) / n = x / n + if (x + 1) % n = 0 then 1 else 0 := by
  have e1 := Int.mul_ediv_add_emod x n
  have e2 := Int.mul_ediv_add_emod (x + 1) n
  have r1 := Int.emod_nonneg x (show n ≠ 0 by omega)
  have r2 := Int.emod_lt_of_pos x (show 0 < n by omega)
  have r3 := Int.emod_nonneg (x + 1) (show n ≠ 0 by omega)
  have r4 := Int.emod_lt_of_pos (x + 1) (show 0 < n by omega)
  generalize hq : x / n = q at *
  generalize hp : (x + 1) / n = p at *
  generalize x % n = r at *
  generalize (x + 1) % n = s at *
  have e3 : n * (p - q) = r + 1 - s := by rw [Int.mul_sub]; omega
  by_cases hs : s = 0
  · rw [if_pos hs]
    have hr : 0 < n * (p - q) := by omega
    have h1 : 1 ≤ p - q := by
      rcases Int.lt_or_le 0 (p - q) with h' | h'
      · omega
      · have := Int.mul_nonpos_of_nonneg_of_nonpos (show (0 : Int) ≤ n by omega) h'
        omega
    have h2 : p - q ≤ 1 := by
      rcases Int.lt_or_le 1 (p - q) with h' | h'
      · have := Int.mul_le_mul_of_nonneg_left (show (2 : Int) ≤ p - q by omega) (show (0 : Int) ≤ n by omega)
        omega
      · exact h'
    omega
  · rw [if_neg hs]
    have h1 : 0 ≤ p - q := by
      rcases Int.lt_or_le (p - q) 0 with h' | h'
      · have := Int.mul_le_mul_of_nonneg_left (show p - q ≤ -1 by omega) (show (0 : Int) ≤ n by omega)
        omega
      · exact h'
    have h2 : p - q ≤ 0 := by
      rcases Int.lt_or_le 0 (p - q) with h' | h'
      · have := Int.mul_le_mul_of_nonneg_left (show (1 : Int) ≤ p - q by omega) (show (0 : Int) ≤ n by omega)
        omega
      · exact h'
    omega

theorem hit_iff (n x i : Int) (h : 1 ≤ n) (h0 : 0 ≤ i) (h1 : i < n) : (x + n - i) % n = 0 ↔ x % n = i := by
  constructor
  · intro e
    have e2 : (x - i) % n = 0 := by
      rw [show x + n - i = x - i + n by omega, Int.add_emod_right] at e
      exact e
    have e3 : x % n = i % n := Int.emod_eq_emod_iff_emod_sub_eq_zero.2 e2
    rw [e3, Int.emod_eq_of_lt h0 h1]
  · intro e
    have e3 : x % n = i % n := by rw [e, Int.emod_eq_of_lt h0 h1]
    have e2 := Int.emod_eq_emod_iff_emod_sub_eq_zero.1 e3
    rw [show x + n - i = x - i + n by omega, Int.add_emod_right]
    exact e2

theorem cnt_eq (n i f : Int) (h : 1 ≤ n) (h0 : 0 ≤ i) (h1 : i < n) (d : Nat) : cnt n i f d = ah n (f + d) i - ah n f i := by
  induction d with
  | zero => simp [cnt]
  | succ d ih =>
    have e : ah n (f + ((d + 1 : Nat) : Int)) i = ah n (f + d) i + if (f + d) % n = i then 1 else 0 := by
      unfold ah
      have := div_succ n (f + d + n - 1 - i) h
      rw [show f + (d : Int) + n - 1 - i + 1 = f + d + n - i by omega] at this
      rw [show f + ((d + 1 : Nat) : Int) + n - 1 - i = f + d + n - i by omega, this]
      by_cases hh : (f + (d : Int)) % n = i
      · rw [if_pos hh, if_pos ((hit_iff n (f + d) i h h0 h1).2 hh)]
      · rw [if_neg hh, if_neg (fun e => hh ((hit_iff n (f + d) i h h0 h1).1 e))]
    rw [cnt, ih, e]
    omega
theorem cnt_nonneg (n i f : Int) (d : Nat) : 0 ≤ cnt n i f d := by
  induction d with
  | zero => simp [cnt]
  | succ d ih => rw [cnt]; split <;> omega
theorem cnt_le (n i f : Int) (d : Nat) : cnt n i f d ≤ d := by
  induction d with
  | zero => simp [cnt]
  | succ d ih => rw [cnt]; split <;> omega
/-- As many as the program tells. -/
def num (n f t i : Int) : Int := max (ah n t i - ah n f i) 0
theorem ah_mono (n i f t : Int) (h : 1 ≤ n) (hl : f ≤ t) : ah n f i ≤ ah n t i := Int.ediv_le_ediv (by omega) (by omega)
theorem num_cnt (n f t i : Int) (h : 1 ≤ n) (h0 : 0 ≤ i) (h1 : i < n) : num n f t i = cnt n i f (t - f).toNat := by
  unfold num
  by_cases hl : f ≤ t
  · obtain ⟨d, hd⟩ := Int.eq_ofNat_of_zero_le (show 0 ≤ t - f by omega)
    have e : t = f + d := by omega
    have hm := ah_mono n i f t h hl
    rw [cnt_eq n i f h h0 h1, show (((t - f).toNat : Nat) : Int) = t - f by omega, show f + (t - f) = t by omega]
    omega
  · have hm := ah_mono n i t f h (by omega)
    rw [show (t - f).toNat = 0 by omega]
    simp only [cnt]
    omega

/-- The ticks of all tenants together. -/
def sumTo (q : Nat → Int) : Nat → Int
  | 0 => 0
  | m + 1 => sumTo q m + q m
theorem sumTo_add (p q : Nat → Int) (m : Nat) : sumTo (fun i => p i + q i) m = sumTo p m + sumTo q m := by
  induction m with
  | zero => rfl
  | succ m ih => simp only [sumTo, ih]; omega
theorem sumTo_hit (c : Int) (c0 : 0 ≤ c) (m : Nat) : sumTo (fun i => if c = (i : Int) then 1 else 0) m = if c < m then 1 else 0 := by
  induction m with
  | zero => simp only [sumTo]; rw [if_neg (by omega)]
  | succ m ih =>
    simp only [sumTo, ih]
    by_cases h : c = (m : Int)
    · rw [if_pos h, if_neg (by omega), if_pos (by omega)]; rfl
    · rw [if_neg h]
      by_cases h' : c < (m : Int)
      · rw [if_pos h', if_pos (by omega)]; rfl
      · rw [if_neg h', if_neg (by omega)]; rfl
theorem sumTo_zero (m : Nat) : sumTo (fun _ => 0) m = 0 := by
  induction m with
  | zero => rfl
  | succ m ih => simp only [sumTo, ih]; rfl
theorem sumTo_nonneg (q : Nat → Int) (h : ∀ i, 0 ≤ q i) (m : Nat) : 0 ≤ sumTo q m := by
  induction m with
  | zero => exact Int.le_refl _
  | succ m ih => simp only [sumTo]; have := h m; omega
theorem sum_cnt (n : Nat) (hn : 1 ≤ n) (f : Int) (d : Nat) : sumTo (fun i => cnt n i f d) n = d := by
  induction d with
  | zero => simp only [cnt]; exact sumTo_zero n
  | succ d ih =>
    have e : (fun i : Nat => cnt (n : Int) (i : Int) f (d + 1)) = fun i : Nat => cnt (n : Int) (i : Int) f d + if (f + d) % (n : Int) = (i : Int) then 1 else 0 := rfl
    have r0 := Int.emod_nonneg (f + d) (show (n : Int) ≠ 0 by omega)
    have r1 := Int.emod_lt_of_pos (f + d) (show (0 : Int) < n by omega)
    rw [e, sumTo_add, ih, sumTo_hit _ r0, if_pos r1]
    omega

/-- Far numbers: as many as fit, and the rest. -/
theorem num_far (n a b t : Int) (h : 1 ≤ n) (h0 : 0 ≤ t) (h1 : t < n) : num n a b t = max (b - a) 0 / n + cnt n t a (max (b - a) 0 % n).toNat := by
  have r0 := Int.emod_nonneg (max (b - a) 0) (show n ≠ 0 by omega)
  rw [cnt_eq n t a h h0 h1, show (((max (b - a) 0 % n).toNat : Nat) : Int) = max (b - a) 0 % n by omega]
  by_cases hl : a ≤ b
  · have e1 : max (b - a) 0 = b - a := by omega
    rw [e1]
    have e2 := Int.mul_ediv_add_emod (b - a) n
    have e3 : ah n b t = ah n (a + (b - a) % n) t + (b - a) / n := by
      unfold ah
      rw [← Int.add_mul_ediv_left _ _ (show n ≠ 0 by omega)]
      congr 1
      omega
    have hm := ah_mono n t a b h hl
    unfold num
    omega
  · have e1 : max (b - a) 0 = 0 := by omega
    have hm := ah_mono n t b a h (by omega)
    rw [e1]
    unfold num
    simp only [Int.zero_ediv, Int.zero_emod, Int.add_zero]
    omega
/-- Of so many times n ticks as many are each tenant's. -/
theorem num_times (n a k i : Int) (h : 1 ≤ n) (hk : 0 ≤ k) : num n a (a + k * n) i = k := by
  unfold num ah
  rw [show a + k * n + n - 1 - i = a + n - 1 - i + k * n by omega, Int.add_mul_ediv_right _ _ (show n ≠ 0 by omega)]
  omega
theorem num_one (n a i : Int) (h : 1 ≤ n) : num n a (a + n) i = 1 := by
  have := num_times n a 1 i h (by omega)
  rwa [Int.one_mul] at this
/-- One tick less, and its owner has one less. -/
theorem num_short (n a k i : Int) (h : 1 ≤ n) (hk : 1 ≤ k) (h0 : 0 ≤ i) (h1 : i < n) (ho : (a + k * n - 1) % n = i) : num n a (a + k * n - 1) i < k := by
  have hp : 1 ≤ k * n := by
    have := Int.mul_le_mul hk h (by omega) (by omega)
    omega
  obtain ⟨d, hd⟩ := Int.eq_ofNat_of_zero_le (show 0 ≤ k * n - 1 by omega)
  have e1 := num_times n a k i h (by omega)
  rw [num_cnt n _ _ i h h0 h1, show (a + k * n - a).toNat = d + 1 by omega, cnt, if_pos (by rw [← ho]; congr 1; omega)] at e1
  rw [num_cnt n _ _ i h h0 h1, show (a + k * n - 1 - a).toNat = d by omega]
  omega
end Go.Proofs.Ytcgjgmoemmokdaa.Slots
