/- The pure statement of RightsHas: whether rights are among others, and those together, are the document's, at every list and every two numbers. -/
import Derived.Test.YtjbijljcolkioaaPRightsHasx2
namespace Go.Proofs.Ytjbijljcolkioaa.Pure
open Go.RowKit Go.Proofs.Ytjbijljcolkioaa.PRightsHas Go.Proofs.YtjbijljcolkioaaW.PrintWords Go.Proofs.YtjbijljcolkioaaW.PrintLast

theorem RightsHas_lives : allotmentlaw16_lives.f 10 = some true := by decide +kernel

theorem RightsHas_wf {a : Int} (hw : (Lit.int .i64 a).wf = true) : -9223372036854775808 ≤ a ∧ a ≤ 9223372036854775807 := by
  have h := hw
  simp only [Lit.wf, IntKind.min, IntKind.max, IntKind.signed, IntKind.bits, decide_eq_true_eq, Bool.and_eq_true] at h
  simp at h
  exact h
theorem RightsHas_around (a m : Int) (hm : 0 < m) (hw : (Lit.int .i64 a).wf = true) : ∃ y, allotmentref01_Around.f a m = some y ∧ 0 ≤ y ∧ y < m := by
  have hb := RightsHas_wf hw
  have hm0 : ¬ m = 0 := by omega
  have key : ∀ b : Int, 0 ≤ b → 0 ≤ Int.tmod b m ∧ Int.tmod b m < m := fun b h => ⟨Int.tmod_nonneg _ h, Int.tmod_lt_of_pos _ hm⟩
  by_cases h : a < 0
  · have e : allotmentref01_Around.f a m = some (Int.tmod (wrap64 (-(wrap64 (a + 1)))) m) := by
      unfold allotmentref01_Around.f
      rw [if_pos h, if_neg hm0]
    exact ⟨_, e, key _ (by unfold wrap64; omega)⟩
  · have e : allotmentref01_Around.f a m = some (Int.tmod a m) := by
      unfold allotmentref01_Around.f
      rw [if_neg h, if_neg hm0]
    exact ⟨_, e, key _ (by omega)⟩
theorem RightsHas_wrap {i : Int} (h0 : 0 ≤ i) (h1 : i < 1000) : wrap64 (i + 1) = i + 1 := by unfold wrap64; omega

/-- A right of the document. -/
def Small (x : Int) : Prop := 0 ≤ x ∧ x < 16
def orr (x y : Int) : Int := Go.bits .or .i64 x y
def bitB (x b : Int) : Bool := (Int.tmod (wrap64 (Int.tdiv x b)) 2) == 1
theorem bit_some (x b : Int) (hb : b ≠ 0) : allotmentref16_Bit.f x b = some (bitB x b) := by unfold allotmentref16_Bit.f bitB; rw [if_neg hb]

theorem small_nat {x : Int} (h : Small x) : ∃ n : Nat, x = (n : Int) ∧ n ∈ List.range 16 := by
  obtain ⟨n, rfl⟩ := Int.eq_ofNat_of_zero_le h.1
  exact ⟨n, rfl, List.mem_range.2 (by have := h.2; omega)⟩
def orGood (x y : Int) : Bool := decide (0 ≤ orr x y) && decide (orr x y < 16) && [1, 2, 4, 8].all fun b => bitB (orr x y) b == (bitB x b || bitB y b)
theorem or_table : ((List.range 16).all fun x => (List.range 16).all fun y => orGood (x : Int) (y : Int)) = true := by decide +kernel
theorem or_good {x y : Int} (hx : Small x) (hy : Small y) : orGood x y = true := by
  obtain ⟨n, rfl, hn⟩ := small_nat hx
  obtain ⟨m, rfl, hm⟩ := small_nat hy
  exact List.all_eq_true.1 (List.all_eq_true.1 or_table n hn) m hm
theorem or_small {x y : Int} (hx : Small x) (hy : Small y) : Small (orr x y) := by
  have h := or_good hx hy
  simp only [orGood, Bool.and_eq_true, decide_eq_true_eq] at h
  exact ⟨h.1.1, h.1.2⟩
theorem or_bit {x y b : Int} (hx : Small x) (hy : Small y) (hb : b ∈ ([1, 2, 4, 8] : List Int)) : bitB (orr x y) b = (bitB x b || bitB y b) := by
  have h := or_good hx hy
  simp only [orGood, Bool.and_eq_true, decide_eq_true_eq] at h
  exact beq_iff_eq.1 (List.all_eq_true.1 h.2 b hb)
/-- Rights are the sum of their bits. -/
def total (q : Int → Bool) : Int := (if q 1 then 1 else 0) + (if q 2 then 2 else 0) + (if q 4 then 4 else 0) + (if q 8 then 8 else 0)
theorem sum_table : ((List.range 16).all fun x => total (bitB (x : Int)) == (x : Int)) = true := by decide +kernel
theorem sum_small {x : Int} (hx : Small x) : total (bitB x) = x := by
  obtain ⟨n, rfl, hn⟩ := small_nat hx
  exact beq_iff_eq.1 (List.all_eq_true.1 sum_table n hn)
/-- 'Has' of two that may be. -/
def hasGood (x y : Int) : Bool := (Go.bits .and .i64 x y == y) == [1, 2, 4, 8].all fun b => !bitB y b || bitB x b
theorem has_table : ((List.range 16).all fun x => (List.range 16).all fun y => hasGood (x : Int) (y : Int)) = true := by decide +kernel
theorem has_good {x y : Int} (hx : Small x) (hy : Small y) : rights_Has.f x y = some ([1, 2, 4, 8].all fun b => !bitB y b || bitB x b) := by
  obtain ⟨n, rfl, hn⟩ := small_nat hx
  obtain ⟨m, rfl, hm⟩ := small_nat hy
  unfold rights_Has.f
  rw [beq_iff_eq.1 (List.all_eq_true.1 (List.all_eq_true.1 has_table n hn) m hm)]

/-! ### The program's 'Of' -/
theorem of_loop (ys : List Int) (hn : ys.length ≤ 5) (d : Nat) : ∀ (k : Nat) (acc i : Int), 0 ≤ i → (ys.length : Int) - i = d → d < k →
    rights_Of.l0 k acc ys (ys.length : Int) i = some ((ys.drop i.toNat).foldl orr acc) := by
  induction d with
  | zero =>
    intro k acc i h0 hd hk
    obtain ⟨k, rfl⟩ : ∃ m, k = m + 1 := ⟨k - 1, by omega⟩
    simp only [rights_Of.l0]
    rw [if_neg (by omega), List.drop_eq_nil_of_le (by omega)]
    rfl
  | succ d ih =>
    intro k acc i h0 hd hk
    obtain ⟨k, rfl⟩ : ∃ m, k = m + 1 := ⟨k - 1, by omega⟩
    simp only [rights_Of.l0]
    rw [if_pos (by omega), if_pos h0, if_pos (by omega), RightsHas_wrap h0 (by omega), ih k _ _ (by omega) (by omega) (by omega)]
    have hlt : i.toNat < ys.length := by omega
    have e : (i + 1).toNat = i.toNat + 1 := by omega
    rw [e, List.drop_eq_getElem_cons hlt, List.foldl_cons]
    have hr : rd ys i = ys[i.toNat] := by simp [rd, List.getD_eq_getElem?_getD, List.getElem?_eq_getElem hlt]
    rw [hr]
    rfl
theorem of_some (k : Nat) (ys : List Int) (hn : ys.length ≤ 5) (hk : 5 < k) : rights_Of.f k ys = some (ys.foldl orr 0) := by
  unfold rights_Of.f
  rw [of_loop ys hn ys.length k 0 0 (by omega) (by omega) (by omega)]
  rfl
theorem fold_small (ys : List Int) : ∀ acc, Small acc → (∀ y ∈ ys, Small y) → Small (ys.foldl orr acc) ∧ ∀ b ∈ ([1, 2, 4, 8] : List Int), bitB (ys.foldl orr acc) b = (bitB acc b || ys.any (bitB · b)) := by
  induction ys with
  | nil => intro acc ha _; exact ⟨ha, fun b _ => by simp⟩
  | cons y ys ih =>
    intro acc ha hy
    have h1 := or_small ha (hy y (by simp))
    obtain ⟨h2, h3⟩ := ih (orr acc y) h1 (fun z hz => hy z (by simp [hz]))
    refine ⟨h2, fun b hb => ?_⟩
    rw [List.foldl_cons, h3 b hb, or_bit ha (hy y (by simp)) hb, List.any_cons, Bool.or_assoc]

/-! ### The reference's 'Of' -/
def B4 : List Int := [1, 2, 4, 8]
theorem ref_inner (ys : List Int) (hn : ys.length ≤ 5) (i acc : Int) (i0 : 0 ≤ i) (i1 : i < 4) (d : Nat) : ∀ (k : Nat) (has : Bool) (j : Int), 0 ≤ j → (ys.length : Int) - j = d →
    allotmentref16_Of.l1 (k + d + 1) ys [1, 2, 4, 8] acc i has j = allotmentref16_Of.l0 k ys [1, 2, 4, 8] (if has || (ys.drop j.toNat).any (bitB · (rd [1, 2, 4, 8] i)) then wrap64 (acc + rd [1, 2, 4, 8] i) else acc) (wrap64 (i + 1)) := by
  have hl : ([1, 2, 4, 8] : List Int).length = 4 := rfl
  have hb : rd [1, 2, 4, 8] i ≠ 0 := by
    have : i = 0 ∨ i = 1 ∨ i = 2 ∨ i = 3 := by omega
    rcases this with rfl | rfl | rfl | rfl <;> decide
  induction d with
  | zero =>
    intro k has j h0 hd
    simp only [allotmentref16_Of.l1]
    rw [if_neg (by omega), List.drop_eq_nil_of_le (by omega)]
    simp only [List.any_nil, Bool.or_false]
    cases has
    · simp
    · simp only [if_true]
      rw [if_pos i0, if_pos (by rw [hl]; omega)]
  | succ d ih =>
    intro k has j h0 hd
    have e : k + (d + 1) + 1 = (k + d + 1) + 1 := by omega
    rw [e]
    generalize hm : k + d + 1 = m
    simp only [allotmentref16_Of.l1]
    rw [if_pos (by omega), if_pos h0, if_pos i0, if_pos (by rw [hl]; omega), bit_some _ _ hb]
    simp only [Option.bind_some]
    subst hm
    have hlt : j.toNat < ys.length := by omega
    have e1 : (j + 1).toNat = j.toNat + 1 := by omega
    have hr : rd ys j = ys[j.toNat] := by simp [rd, List.getD_eq_getElem?_getD, List.getElem?_eq_getElem hlt]
    rw [RightsHas_wrap h0 (by omega), ih k _ _ (by omega) (by omega), ih k _ _ (by omega) (by omega), e1, List.drop_eq_getElem_cons hlt, List.any_cons, hr]
    cases has <;> simp

theorem acc_total (q1 q2 q4 q8 : Bool) : (if q8 = true then wrap64 ((if q4 = true then wrap64 ((if q2 = true then wrap64 ((if q1 = true then wrap64 (0 + 1) else 0) + 2) else (if q1 = true then wrap64 (0 + 1) else 0)) + 4) else (if q2 = true then wrap64 ((if q1 = true then wrap64 (0 + 1) else 0) + 2) else (if q1 = true then wrap64 (0 + 1) else 0))) + 8) else (if q4 = true then wrap64 ((if q2 = true then wrap64 ((if q1 = true then wrap64 (0 + 1) else 0) + 2) else (if q1 = true then wrap64 (0 + 1) else 0)) + 4) else (if q2 = true then wrap64 ((if q1 = true then wrap64 (0 + 1) else 0) + 2) else (if q1 = true then wrap64 (0 + 1) else 0)))) =
    (if q1 then 1 else 0) + (if q2 then 2 else 0) + (if q4 then 4 else 0) + (if q8 then (8 : Int) else 0) := by
  cases q1 <;> cases q2 <;> cases q4 <;> cases q8 <;> decide +kernel
theorem ref_some (k : Nat) (ys : List Int) (hn : ys.length ≤ 5) (hk : 40 ≤ k) : allotmentref16_Of.f k ys = some (total fun b => ys.any (bitB · b)) := by
  have key : allotmentref16_Of.f 40 ys = some (total fun b => ys.any (bitB · b)) := by
    unfold allotmentref16_Of.f
    have step : ∀ (k : Nat) (acc i : Int), 0 ≤ i → i < 4 → allotmentref16_Of.l0 (k + ys.length + 2) ys [1, 2, 4, 8] acc i = allotmentref16_Of.l0 k ys [1, 2, 4, 8] (if ys.any (bitB · (rd [1, 2, 4, 8] i)) then wrap64 (acc + rd [1, 2, 4, 8] i) else acc) (i + 1) := by
      intro k acc i h0 h1
      have e : k + ys.length + 2 = (k + ys.length + 1) + 1 := by omega
      rw [e]
      simp only [allotmentref16_Of.l0]
      rw [if_pos h1, ref_inner ys hn i acc h0 h1 ys.length k false 0 (by omega) (by omega), RightsHas_wrap h0 (by omega)]
      simp
    obtain ⟨m, hm⟩ : ∃ m, 40 = ((((m + 1) + ys.length + 2) + ys.length + 2) + ys.length + 2) + ys.length + 2 := ⟨40 - (1 + 4 * (ys.length + 2)), by omega⟩
    rw [hm, step _ _ _ (by omega) (by omega), step _ _ _ (by omega) (by omega), step _ _ _ (by omega) (by omega), step _ _ _ (by omega) (by omega)]
    simp only [allotmentref16_Of.l0]
    rw [if_neg (by omega)]
    have r0 : rd [1, 2, 4, 8] 0 = 1 := by decide
    have r1 : rd [1, 2, 4, 8] (0 + 1) = 2 := by decide
    have r2 : rd [1, 2, 4, 8] (0 + 1 + 1) = 4 := by decide
    have r3 : rd [1, 2, 4, 8] (0 + 1 + 1 + 1) = 8 := by decide
    rw [r0, r1, r2, r3]
    exact congrArg some (acc_total _ _ _ _)
  exact at_rounds (fun n => allotmentref16_Of.mono ys n) hk key

theorem of_same (k : Nat) (ys : List Int) (hn : ys.length ≤ 5) (hs : ∀ y ∈ ys, Small y) (hk : 40 ≤ k) : ∃ r, rights_Of.f k ys = some r ∧ allotmentref16_Of.f k ys = some r := by
  refine ⟨ys.foldl orr 0, of_some k ys hn (by omega), ?_⟩
  rw [ref_some k ys hn hk]
  obtain ⟨h1, h2⟩ := fold_small ys 0 ⟨by omega, by omega⟩ hs
  rw [← sum_small h1]
  unfold total
  rw [h2 1 (by simp), h2 2 (by simp), h2 4 (by simp), h2 8 (by simp)]
  have z1 : bitB 0 1 = false := by decide +kernel
  have z2 : bitB 0 2 = false := by decide +kernel
  have z4 : bitB 0 4 = false := by decide +kernel
  have z8 : bitB 0 8 = false := by decide +kernel
  rw [z1, z2, z4, z8]
  simp

/-! ### The reference's 'Has' -/
theorem ref_has (k : Nat) (x y : Int) : allotmentref16_Has.f (k + 5) x y = some ([1, 2, 4, 8].all fun b => !bitB y b || bitB x b) := by
  have hl : ([1, 2, 4, 8] : List Int).length = 4 := rfl
  have step : ∀ (k : Nat) (i : Int), 0 ≤ i → i < 4 → allotmentref16_Has.l0 (k + 1) x y [1, 2, 4, 8] i = if !bitB y (rd [1, 2, 4, 8] i) || bitB x (rd [1, 2, 4, 8] i) then allotmentref16_Has.l0 k x y [1, 2, 4, 8] (i + 1) else some false := by
    intro k i h0 h1
    have hb : rd [1, 2, 4, 8] i ≠ 0 := by
      have : i = 0 ∨ i = 1 ∨ i = 2 ∨ i = 3 := by omega
      rcases this with rfl | rfl | rfl | rfl <;> decide
    simp only [allotmentref16_Has.l0]
    rw [if_pos h1, if_pos h0, if_pos (by rw [hl]; omega), bit_some _ _ hb, bit_some _ _ hb, RightsHas_wrap h0 (by omega)]
    simp only [Option.bind_some]
    cases bitB y (rd [1, 2, 4, 8] i) <;> cases bitB x (rd [1, 2, 4, 8] i) <;> rfl
  have r0 : rd [1, 2, 4, 8] 0 = 1 := by decide
  have r1 : rd [1, 2, 4, 8] (0 + 1) = 2 := by decide
  have r2 : rd [1, 2, 4, 8] (0 + 1 + 1) = 4 := by decide
  have r3 : rd [1, 2, 4, 8] (0 + 1 + 1 + 1) = 8 := by decide
  unfold allotmentref16_Has.f
  rw [step _ _ (by omega) (by omega), step _ _ (by omega) (by omega), step _ _ (by omega) (by omega), step _ _ (by omega) (by omega), r0, r1, r2, r3]
  simp only [allotmentref16_Has.l0]
  rw [if_neg (show ¬ ((0 : Int) + 1 + 1 + 1 + 1 < 4) by omega)]
  simp only [List.all_cons, List.all_nil, Bool.and_true]
  generalize (!bitB y 1 || bitB x 1) = p1
  generalize (!bitB y 2 || bitB x 2) = p2
  generalize (!bitB y 4 || bitB x 4) = p4
  generalize (!bitB y 8 || bitB x 8) = p8
  cases p1 <;> cases p2 <;> cases p4 <;> cases p8 <;> rfl

/-! ### The law -/
theorem law_end (k : Nat) (hk : 60 ≤ k) (a b : Int) (ha : (Lit.int .i64 a).wf = true) (hb : (Lit.int .i64 b).wf = true) (ys : List Int) (hn : ys.length ≤ 5) (hs : ∀ y ∈ ys, Small y) :
    allotmentlaw16_RightsHas.j1 (k + 1) a b ys ys = some true := by
  obtain ⟨x, hx, x0, x1⟩ := RightsHas_around a 16 (by omega) ha
  obtain ⟨y, hy, y0, y1⟩ := RightsHas_around b 16 (by omega) hb
  obtain ⟨r, h1, h2⟩ := of_same k ys hn hs (by omega)
  have h3 := has_good (x := x) (y := y) ⟨x0, x1⟩ ⟨y0, y1⟩
  have h4 : allotmentref16_Has.f k x y = some ([1, 2, 4, 8].all fun b => !bitB y b || bitB x b) := by
    obtain ⟨d, rfl⟩ : ∃ d, k = d + 5 := ⟨k - 5, by omega⟩
    exact ref_has d x y
  have h5 : allotmentlaw16_lives.f k = some true := at_rounds (fun n => allotmentlaw16_lives.mono n) (by omega) RightsHas_lives
  simp only [allotmentlaw16_RightsHas.j1]
  rw [hx]; simp only [Option.bind_some]
  rw [hy]; simp only [Option.bind_some]
  rw [h3]; simp only [Option.bind_some]
  rw [h4]; simp only [Option.bind_some]
  rw [if_pos (by simp), h1]; simp only [Option.bind_some]
  rw [h2]; simp only [Option.bind_some]
  rw [if_pos trivial, h5]
  rfl

theorem law_stop (k : Nat) (l : List Int) (a b i : Int) (xs ys : List Int) (h : ¬ (i < (l.length : Int)) ∨ ¬ i < 5) : allotmentlaw16_RightsHas.l0 (k + 1) l a b xs ys i = allotmentlaw16_RightsHas.j1 k a b xs ys := by
  simp only [allotmentlaw16_RightsHas.l0]
  rcases h with h | h
  · rw [if_neg h]
  · by_cases hlt : i < (l.length : Int)
    · rw [if_pos hlt, if_neg h]
    · rw [if_neg hlt]
theorem law_step (k : Nat) (l : List Int) (a b i : Int) (xs : List Int) (y : Int) (hi : i = (xs.length : Int)) (h0 : i < (l.length : Int)) (h1 : i < 5) (hy : allotmentref01_Around.f (rd l i) 16 = some y) :
    allotmentlaw16_RightsHas.l0 (k + 1) l a b xs xs i = allotmentlaw16_RightsHas.l0 k l a b (xs ++ [y]) (xs ++ [y]) (i + 1) := by
  have hw : wrap64 (i + 1) = i + 1 := RightsHas_wrap (by omega) (by omega)
  have hlen : xs.length < 17592186044416 := by omega
  have hr : rd (xs ++ [y]) i = y := by rw [hi]; simp [rd]
  have hl : i < (((xs ++ [y]).length : Nat) : Int) := by rw [List.length_append]; simp; omega
  generalize 17592186044416 = M at hlen
  simp only [allotmentlaw16_RightsHas.l0]
  rw [if_pos h0, if_pos h1, if_pos (show 0 ≤ i by omega), hy]
  simp only [Option.bind_some]
  rw [if_pos (by omega), if_pos hl, if_pos (by omega), hw, hr]
theorem law_loop (k : Nat) (hk : 60 ≤ k) (l : List Int) (hw : ∀ x ∈ l, (Lit.int .i64 x).wf = true) (a b : Int) (ha : (Lit.int .i64 a).wf = true) (hb : (Lit.int .i64 b).wf = true) (d : Nat) :
    ∀ (k' : Nat) (i : Int) (ys : List Int), k' = k + d + 1 → i = (ys.length : Int) → ys.length + d = 5 → (∀ y ∈ ys, Small y) → allotmentlaw16_RightsHas.l0 (k' + 1) l a b ys ys i = some true := by
  induction d with
  | zero =>
    intro k' i ys hk' hi hl hs
    rw [law_stop k' l a b i ys ys (Or.inr (by omega)), hk']
    exact law_end (k + 0) (by omega) a b ha hb ys (by omega) hs
  | succ d ih =>
    intro k' i ys hk' hi hl hs
    by_cases hlt : i < (l.length : Int)
    · have hlt' : ys.length < l.length := by omega
      have hr : rd l i = l[ys.length] := by rw [hi]; simp [rd, List.getD_eq_getElem?_getD, List.getElem?_eq_getElem hlt']
      obtain ⟨y, hy, y0, y1⟩ := RightsHas_around (rd l i) 16 (by omega) (by rw [hr]; exact hw _ (List.getElem_mem _))
      rw [law_step k' l a b i ys y hi hlt (by omega) hy, hk']
      refine ih (k + d + 1) (i + 1) (ys ++ [y]) rfl ?_ ?_ ?_
      · rw [List.length_append]; simp; omega
      · rw [List.length_append]; simp; omega
      · intro z hz
        rcases List.mem_append.1 hz with hz | hz
        · exact hs z hz
        · rw [List.mem_singleton.1 hz]; exact ⟨y0, y1⟩
    · rw [law_stop k' l a b i ys ys (Or.inl hlt), hk']
      exact law_end (k + (d + 1)) (by omega) a b ha hb ys (by omega) hs

theorem RightsHas : allotmentlaw16_RightsHas.Pure := by
  intro l a b _ _ hw ha hb
  refine ⟨(60 + 5 + 1) + 1, ?_⟩
  unfold allotmentlaw16_RightsHas.f
  exact law_loop 60 (by omega) l hw a b ha hb 5 (60 + 5 + 1) 0 [] rfl rfl rfl (by simp)

end Go.Proofs.Ytjbijljcolkioaa.Pure
