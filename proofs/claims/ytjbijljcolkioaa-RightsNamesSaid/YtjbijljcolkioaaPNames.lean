/- The plain law of RightsNames: rights' names are the document's, and any names are read as the document says. -/
import Derived.Test.YtjbijljcolkioaaPRightsNamesx2
namespace Go.Proofs.Ytjbijljcolkioaa.PNames
open Go.RowKit Go.Proofs.Ytjbijljcolkioaa.PRightsNames Go.Proofs.YtjbijljcolkioaaW.PrintWords Go.Proofs.YtjbijljcolkioaaW.PrintLast

theorem RN_lives : allotmentlaw16_lives.f 10 = some true := by decide +kernel

theorem RN_wf {a : Int} (hw : (Lit.int .i64 a).wf = true) : -9223372036854775808 ≤ a ∧ a ≤ 9223372036854775807 := by
  have h := hw
  simp only [Lit.wf, IntKind.min, IntKind.max, IntKind.signed, IntKind.bits, decide_eq_true_eq, Bool.and_eq_true] at h
  simp at h
  exact h
theorem RN_around (a m : Int) (hm : 0 < m) (hw : (Lit.int .i64 a).wf = true) : ∃ y, allotmentref01_Around.f a m = some y ∧ 0 ≤ y ∧ y < m := by
  have hb := RN_wf hw
  have hm0 : ¬ m = 0 := by omega
  have key : ∀ b : Int, 0 ≤ b → 0 ≤ Int.tmod b m ∧ Int.tmod b m < m := fun b h => ⟨Int.tmod_nonneg _ h, Int.tmod_lt_of_pos _ hm⟩
  by_cases h : a < 0
  · have e : allotmentref01_Around.f a m = some (Int.tmod (wrap64 (-(wrap64 (a + 1)))) m) := by
      unfold allotmentref01_Around.f
      rw [if_pos h, if_neg hm0]
    exact ⟨_, e, key _ (by unfold wrap64; omega)⟩
  · have e : allotmentref01_Around.f a m = some (Int.tmod a m) := by
      unfold allotmentref01_Around.f
      rw [if_neg h, if_neg hm0]
    exact ⟨_, e, key _ (by omega)⟩
theorem RN_wrap {i : Int} (h0 : 0 ≤ i) (h1 : i < 1000) : wrap64 (i + 1) = i + 1 := by unfold wrap64; omega

/-- A right of the document. -/
def Small (x : Int) : Prop := 0 ≤ x ∧ x < 16
def orr (x y : Int) : Int := Go.bits .or .i64 x y
def bitB (x b : Int) : Bool := (Int.tmod (wrap64 (Int.tdiv x b)) 2) == 1
theorem bit_some (x b : Int) (hb : b ≠ 0) : allotmentref16_Bit.f x b = some (bitB x b) := by unfold allotmentref16_Bit.f bitB; rw [if_neg hb]

theorem small_nat {x : Int} (h : Small x) : ∃ n : Nat, x = (n : Int) ∧ n ∈ List.range 16 := by
  obtain ⟨n, rfl⟩ := Int.eq_ofNat_of_zero_le h.1
  exact ⟨n, rfl, List.mem_range.2 (by have := h.2; omega)⟩
def orGood (x y : Int) : Bool := decide (0 ≤ orr x y) && decide (orr x y < 16) && [1, 2, 4, 8].all fun b => bitB (orr x y) b == (bitB x b || bitB y b)
theorem or_table : ((List.range 16).all fun x => (List.range 16).all fun y => orGood (x : Int) (y : Int)) = true := by decide +kernel
theorem or_good {x y : Int} (hx : Small x) (hy : Small y) : orGood x y = true := by
  obtain ⟨n, rfl, hn⟩ := small_nat hx
  obtain ⟨m, rfl, hm⟩ := small_nat hy
  exact List.all_eq_true.1 (List.all_eq_true.1 or_table n hn) m hm
theorem or_small {x y : Int} (hx : Small x) (hy : Small y) : Small (orr x y) := by
  have h := or_good hx hy
  simp only [orGood, Bool.and_eq_true, decide_eq_true_eq] at h
  exact ⟨h.1.1, h.1.2⟩
theorem or_bit {x y b : Int} (hx : Small x) (hy : Small y) (hb : b ∈ ([1, 2, 4, 8] : List Int)) : bitB (orr x y) b = (bitB x b || bitB y b) := by
  have h := or_good hx hy
  simp only [orGood, Bool.and_eq_true, decide_eq_true_eq] at h
  exact beq_iff_eq.1 (List.all_eq_true.1 h.2 b hb)
/-- Rights are the sum of their bits. -/
def total (q : Int → Bool) : Int := (if q 1 then 1 else 0) + (if q 2 then 2 else 0) + (if q 4 then 4 else 0) + (if q 8 then 8 else 0)
theorem sum_table : ((List.range 16).all fun x => total (bitB (x : Int)) == (x : Int)) = true := by decide +kernel
theorem sum_small {x : Int} (hx : Small x) : total (bitB x) = x := by
  obtain ⟨n, rfl, hn⟩ := small_nat hx
  exact beq_iff_eq.1 (List.all_eq_true.1 sum_table n hn)
/-! ### The program's 'Of' -/
theorem of_loop (ys : List Int) (hn : ys.length ≤ 5) (d : Nat) : ∀ (k : Nat) (acc i : Int), 0 ≤ i → (ys.length : Int) - i = d → d < k →
    rights_Of.l0 k acc ys (ys.length : Int) i = some ((ys.drop i.toNat).foldl orr acc) := by
  induction d with
  | zero =>
    intro k acc i h0 hd hk
    obtain ⟨k, rfl⟩ : ∃ m, k = m + 1 := ⟨k - 1, by omega⟩
    simp only [rights_Of.l0]
    rw [if_neg (by omega), List.drop_eq_nil_of_le (by omega)]
    rfl
  | succ d ih =>
    intro k acc i h0 hd hk
    obtain ⟨k, rfl⟩ : ∃ m, k = m + 1 := ⟨k - 1, by omega⟩
    simp only [rights_Of.l0]
    rw [if_pos (by omega), if_pos h0, if_pos (by omega), RN_wrap h0 (by omega), ih k _ _ (by omega) (by omega) (by omega)]
    have hlt : i.toNat < ys.length := by omega
    have e : (i + 1).toNat = i.toNat + 1 := by omega
    rw [e, List.drop_eq_getElem_cons hlt, List.foldl_cons]
    have hr : rd ys i = ys[i.toNat] := by simp [rd, List.getD_eq_getElem?_getD, List.getElem?_eq_getElem hlt]
    rw [hr]
    rfl
theorem of_some (k : Nat) (ys : List Int) (hn : ys.length ≤ 5) (hk : 5 < k) : rights_Of.f k ys = some (ys.foldl orr 0) := by
  unfold rights_Of.f
  rw [of_loop ys hn ys.length k 0 0 (by omega) (by omega) (by omega)]
  rfl
theorem fold_small (ys : List Int) : ∀ acc, Small acc → (∀ y ∈ ys, Small y) → Small (ys.foldl orr acc) ∧ ∀ b ∈ ([1, 2, 4, 8] : List Int), bitB (ys.foldl orr acc) b = (bitB acc b || ys.any (bitB · b)) := by
  induction ys with
  | nil => intro acc ha _; exact ⟨ha, fun b _ => by simp⟩
  | cons y ys ih =>
    intro acc ha hy
    have h1 := or_small ha (hy y (by simp))
    obtain ⟨h2, h3⟩ := ih (orr acc y) h1 (fun z hz => hy z (by simp [hz]))
    refine ⟨h2, fun b hb => ?_⟩
    rw [List.foldl_cons, h3 b hb, or_bit ha (hy y (by simp)) hb, List.any_cons, Bool.or_assoc]

/-! ### The reference's 'Of' -/
def B4 : List Int := [1, 2, 4, 8]
theorem ref_inner (ys : List Int) (hn : ys.length ≤ 5) (i acc : Int) (i0 : 0 ≤ i) (i1 : i < 4) (d : Nat) : ∀ (k : Nat) (has : Bool) (j : Int), 0 ≤ j → (ys.length : Int) - j = d →
    allotmentref16_Of.l1 (k + d + 1) ys [1, 2, 4, 8] acc i has j = allotmentref16_Of.l0 k ys [1, 2, 4, 8] (if has || (ys.drop j.toNat).any (bitB · (rd [1, 2, 4, 8] i)) then wrap64 (acc + rd [1, 2, 4, 8] i) else acc) (wrap64 (i + 1)) := by
  have hl : ([1, 2, 4, 8] : List Int).length = 4 := rfl
  have hb : rd [1, 2, 4, 8] i ≠ 0 := by
    have : i = 0 ∨ i = 1 ∨ i = 2 ∨ i = 3 := by omega
    rcases this with rfl | rfl | rfl | rfl <;> decide
  induction d with
  | zero =>
    intro k has j h0 hd
    simp only [allotmentref16_Of.l1]
    rw [if_neg (by omega), List.drop_eq_nil_of_le (by omega)]
    simp only [List.any_nil, Bool.or_false]
    cases has
    · simp
    · simp only [if_true]
      rw [if_pos i0, if_pos (by rw [hl]; omega)]
  | succ d ih =>
    intro k has j h0 hd
    have e : k + (d + 1) + 1 = (k + d + 1) + 1 := by omega
    rw [e]
    generalize hm : k + d + 1 = m
    simp only [allotmentref16_Of.l1]
    rw [if_pos (by omega), if_pos h0, if_pos i0, if_pos (by rw [hl]; omega), bit_some _ _ hb]
    simp only [Option.bind_some]
    subst hm
    have hlt : j.toNat < ys.length := by omega
    have e1 : (j + 1).toNat = j.toNat + 1 := by omega
    have hr : rd ys j = ys[j.toNat] := by simp [rd, List.getD_eq_getElem?_getD, List.getElem?_eq_getElem hlt]
    rw [RN_wrap h0 (by omega), ih k _ _ (by omega) (by omega), ih k _ _ (by omega) (by omega), e1, List.drop_eq_getElem_cons hlt, List.any_cons, hr]
    cases has <;> simp

theorem acc_total (q1 q2 q4 q8 : Bool) : (if q8 = true then wrap64 ((if q4 = true then wrap64 ((if q2 = true then wrap64 ((if q1 = true then wrap64 (0 + 1) else 0) + 2) else (if q1 = true then wrap64 (0 + 1) else 0)) + 4) else (if q2 = true then wrap64 ((if q1 = true then wrap64 (0 + 1) else 0) + 2) else (if q1 = true then wrap64 (0 + 1) else 0))) + 8) else (if q4 = true then wrap64 ((if q2 = true then wrap64 ((if q1 = true then wrap64 (0 + 1) else 0) + 2) else (if q1 = true then wrap64 (0 + 1) else 0)) + 4) else (if q2 = true then wrap64 ((if q1 = true then wrap64 (0 + 1) else 0) + 2) else (if q1 = true then wrap64 (0 + 1) else 0)))) =
    (if q1 then 1 else 0) + (if q2 then 2 else 0) + (if q4 then 4 else 0) + (if q8 then (8 : Int) else 0) := by
  cases q1 <;> cases q2 <;> cases q4 <;> cases q8 <;> decide +kernel
theorem ref_some (k : Nat) (ys : List Int) (hn : ys.length ≤ 5) (hk : 40 ≤ k) : allotmentref16_Of.f k ys = some (total fun b => ys.any (bitB · b)) := by
  have key : allotmentref16_Of.f 40 ys = some (total fun b => ys.any (bitB · b)) := by
    unfold allotmentref16_Of.f
    have step : ∀ (k : Nat) (acc i : Int), 0 ≤ i → i < 4 → allotmentref16_Of.l0 (k + ys.length + 2) ys [1, 2, 4, 8] acc i = allotmentref16_Of.l0 k ys [1, 2, 4, 8] (if ys.any (bitB · (rd [1, 2, 4, 8] i)) then wrap64 (acc + rd [1, 2, 4, 8] i) else acc) (i + 1) := by
      intro k acc i h0 h1
      have e : k + ys.length + 2 = (k + ys.length + 1) + 1 := by omega
      rw [e]
      simp only [allotmentref16_Of.l0]
      rw [if_pos h1, ref_inner ys hn i acc h0 h1 ys.length k false 0 (by omega) (by omega), RN_wrap h0 (by omega)]
      simp
    obtain ⟨m, hm⟩ : ∃ m, 40 = ((((m + 1) + ys.length + 2) + ys.length + 2) + ys.length + 2) + ys.length + 2 := ⟨40 - (1 + 4 * (ys.length + 2)), by omega⟩
    rw [hm, step _ _ _ (by omega) (by omega), step _ _ _ (by omega) (by omega), step _ _ _ (by omega) (by omega), step _ _ _ (by omega) (by omega)]
    simp only [allotmentref16_Of.l0]
    rw [if_neg (by omega)]
    have r0 : rd [1, 2, 4, 8] 0 = 1 := by decide
    have r1 : rd [1, 2, 4, 8] (0 + 1) = 2 := by decide
    have r2 : rd [1, 2, 4, 8] (0 + 1 + 1) = 4 := by decide
    have r3 : rd [1, 2, 4, 8] (0 + 1 + 1 + 1) = 8 := by decide
    rw [r0, r1, r2, r3]
    exact congrArg some (acc_total _ _ _ _)
  exact at_rounds (fun n => allotmentref16_Of.mono ys n) hk key

theorem of_same (k : Nat) (ys : List Int) (hn : ys.length ≤ 5) (hs : ∀ y ∈ ys, Small y) (hk : 40 ≤ k) : ∃ r, rights_Of.f k ys = some r ∧ allotmentref16_Of.f k ys = some r := by
  refine ⟨ys.foldl orr 0, of_some k ys hn (by omega), ?_⟩
  rw [ref_some k ys hn hk]
  obtain ⟨h1, h2⟩ := fold_small ys 0 ⟨by omega, by omega⟩ hs
  rw [← sum_small h1]
  unfold total
  rw [h2 1 (by simp), h2 2 (by simp), h2 4 (by simp), h2 8 (by simp)]
  have z1 : bitB 0 1 = false := by decide +kernel
  have z2 : bitB 0 2 = false := by decide +kernel
  have z4 : bitB 0 4 = false := by decide +kernel
  have z8 : bitB 0 8 = false := by decide +kernel
  rw [z1, z2, z4, z8]
  simp


/-! ### Names, read back -/
def N4 : List ByteArray := [(⟨#[115, 101, 101]⟩ : ByteArray), (⟨#[99, 104, 97, 110, 103, 101]⟩ : ByteArray), (⟨#[107, 101, 101, 112]⟩ : ByteArray), (⟨#[103, 105, 118, 101]⟩ : ByteArray)]
def namesGood (n : Nat) : Bool := match rights_Names.f 20 (n : Int) with
  | some ns => decide (allotmentref16_Names.f 20 (n : Int) = some ns) && decide (rights_Parse.f 20 ns = some ((n : Int), 0)) && decide (allotmentref16_SameTexts.f 20 ns ns = some true)
  | none => false
theorem names_table : ((List.range 16).all namesGood) = true := by decide +kernel
theorem names_some {x : Int} (hx : Small x) : ∃ ns, rights_Names.f 20 x = some ns ∧ allotmentref16_Names.f 20 x = some ns ∧ rights_Parse.f 20 ns = some (x, 0) ∧ allotmentref16_SameTexts.f 20 ns ns = some true := by
  obtain ⟨n, rfl, hn⟩ := small_nat hx
  have h := List.all_eq_true.1 names_table n hn
  unfold namesGood at h
  split at h
  · rename_i ns hns
    simp only [Bool.and_eq_true, decide_eq_true_eq] at h
    exact ⟨ns, hns, h.1.1, h.1.2, h.2⟩
  · cases h

/-! ### Any names -/
/-- Which of the four a text is; -1: none. -/
def ixl (q : List UInt8) : Int := if q = [115, 101, 101] then 0 else if q = [99, 104, 97, 110, 103, 101] then 1 else if q = [107, 101, 101, 112] then 2 else if q = [103, 105, 118, 101] then 3 else -1
def ix (s : ByteArray) : Int := ixl s.toList
theorem t0 : (rdOf ByteArray.empty N4 0).toList = [115, 101, 101] := by decide +kernel
theorem t1 : (rdOf ByteArray.empty N4 1).toList = [99, 104, 97, 110, 103, 101] := by decide +kernel
theorem t2 : (rdOf ByteArray.empty N4 2).toList = [107, 101, 101, 112] := by decide +kernel
theorem t3 : (rdOf ByteArray.empty N4 3).toList = [103, 105, 118, 101] := by decide +kernel
theorem w0 : wrap64 (0 + 1) = 1 := by decide +kernel
theorem w1 : wrap64 (1 + 1) = 2 := by decide +kernel
theorem w2 : wrap64 (2 + 1) = 3 := by decide +kernel
theorem w3 : wrap64 (3 + 1) = 4 := by decide +kernel
theorem l4 : (N4.length : Int) = 4 := by decide +kernel
theorem index_some (k : Nat) (s : ByteArray) : slices_Index_string_string.f (k + 5) N4 s = some (ix s) := by
  unfold slices_Index_string_string.f ix
  rw [l4]
  simp only [slices_Index_string_string.l0, l4, t0, t1, t2, t3, w0, w1, w2, w3]
  generalize s.toList = q
  unfold ixl
  by_cases h0 : q = [115, 101, 101]
  · subst h0; simp
  by_cases h1 : q = [99, 104, 97, 110, 103, 101]
  · subst h1; simp
  by_cases h2 : q = [107, 101, 101, 112]
  · subst h2; simp
  by_cases h3 : q = [103, 105, 118, 101]
  · subst h3; simp
  simp [h0, h1, h2, h3]
/-- The right of a name. -/
def bt (i : Int) : Int := rd [1, 2, 4, 8] i
theorem ixl_cases (q : List UInt8) : ixl q = -1 ∨ ixl q = 0 ∨ ixl q = 1 ∨ ixl q = 2 ∨ ixl q = 3 := by
  unfold ixl
  repeat' split
  all_goals simp
theorem r0 : rd [1, 2, 4, 8] 0 = 1 := by decide
theorem r1 : rd [1, 2, 4, 8] 1 = 2 := by decide
theorem r2 : rd [1, 2, 4, 8] 2 = 4 := by decide
theorem r3 : rd [1, 2, 4, 8] 3 = 8 := by decide
theorem lb4 : (([1, 2, 4, 8] : List Int).length : Int) = 4 := rfl
theorem inner_some (k : Nat) (l : List ByteArray) (acc : List Int) (i : Int) (h0 : 0 ≤ i) (h1 : i < (l.length : Int)) (ha : acc.length < 5) :
    allotmentref16_Parse.l1 (k + 5) l acc i (-1) 0 = if ix (rdOf ByteArray.empty l i) < 0 then some (-1) else allotmentref16_Parse.l0 k l (acc ++ [bt (ix (rdOf ByteArray.empty l i))]) (wrap64 (i + 1)) := by
  have ha' : acc.length < 17592186044416 := by omega
  have e : ([(⟨#[115, 101, 101]⟩ : ByteArray), (⟨#[99, 104, 97, 110, 103, 101]⟩ : ByteArray), (⟨#[107, 101, 101, 112]⟩ : ByteArray), (⟨#[103, 105, 118, 101]⟩ : ByteArray)] : List ByteArray) = N4 := rfl
  generalize hM : 17592186044416 = M at ha'
  simp only [allotmentref16_Parse.l1, e, hM, Option.bind_some, l4, t0, t1, t2, t3, w0, w1, w2, w3, r0, r1, r2, r3, lb4, h0, h1, ha', if_true]
  unfold ix
  generalize (rdOf ByteArray.empty l i).toList = q
  by_cases h0 : q = [115, 101, 101]
  · subst h0; simp [ixl, bt, r0]
  by_cases h1 : q = [99, 104, 97, 110, 103, 101]
  · subst h1; simp [ixl, bt, r1]
  by_cases h2 : q = [107, 101, 101, 112]
  · subst h2; simp [ixl, bt, r2]
  by_cases h3 : q = [103, 105, 118, 101]
  · subst h3; simp [ixl, bt, r3]
  simp [ixl, h0, h1, h2, h3, Ne.symm h0, Ne.symm h1, Ne.symm h2, Ne.symm h3]
theorem bt_small (q : List UInt8) : Small (bt (ixl q)) := by
  rcases ixl_cases q with h | h | h | h | h <;> rw [h] <;> exact ⟨by decide, by decide⟩
theorem bt_shl (q : List UInt8) (h : ¬ ixl q < 0) : shl .i64 1 (ixl q) = bt (ixl q) := by
  rcases ixl_cases q with e | e | e | e | e
  · omega
  all_goals rw [e]; decide +kernel
/-- What is read of the names, both ways. -/
theorem parse_loop (l : List ByteArray) (hl : l.length ≤ 5) (d : Nat) : ∀ (k m : Nat) (ys : List Int) (i : Int), 0 ≤ i → (ys.length : Int) = i → (l.length : Int) - i = d → 41 + 8 * d ≤ k → 41 + 8 * d ≤ m → (∀ y ∈ ys, Small y) →
    ∃ x c r, rights_Parse.l0 k (ys.foldl orr 0) l (l.length : Int) i = some (x, c) ∧ allotmentref16_Parse.l0 m l ys i = some r ∧ ((c = 0 ∧ 0 ≤ r ∧ x = r) ∨ (c = 2 ∧ x = 0 ∧ r < 0)) := by
  induction d with
  | zero =>
    intro k m ys i h0 hi hd hk hm hy
    obtain ⟨k, rfl⟩ : ∃ j, k = j + 1 := ⟨k - 1, by omega⟩
    obtain ⟨m, rfl⟩ : ∃ j, m = j + 1 := ⟨m - 1, by omega⟩
    obtain ⟨r, hr1, hr2⟩ := of_same 60 ys (by omega) hy (by omega)
    rw [of_some 60 ys (by omega) (by omega)] at hr1
    obtain rfl := Option.some.inj hr1
    have hr3 : allotmentref16_Of.f m ys = some (ys.foldl orr 0) := by
      rw [ref_some 60 ys (by omega) (by omega)] at hr2
      rw [ref_some m ys (by omega) (by omega)]; exact hr2
    simp only [rights_Parse.l0, allotmentref16_Parse.l0]
    rw [if_neg (by omega), if_neg (by omega), hr3]
    exact ⟨_, _, _, rfl, rfl, .inl ⟨rfl, (fold_small ys 0 ⟨by omega, by omega⟩ hy).1.1, rfl⟩⟩
  | succ d ih =>
    intro k m ys i h0 hi hd hk hm hy
    obtain ⟨k, rfl⟩ : ∃ j, k = j + 1 := ⟨k - 1, by omega⟩
    obtain ⟨m, rfl⟩ : ∃ j, m = j + 1 := ⟨m - 1, by omega⟩
    have hn : rights_named.f = some N4 := rfl
    simp only [rights_Parse.l0, allotmentref16_Parse.l0]
    obtain ⟨k5, hk5⟩ : ∃ j, k = j + 5 := ⟨k - 5, by omega⟩
    obtain ⟨m, rfl⟩ : ∃ j, m = j + 5 := ⟨m - 5, by omega⟩
    have hix := index_some k5 (rdOf ByteArray.empty l i)
    rw [← hk5] at hix
    have hlt : i < (l.length : Int) := by omega
    rw [inner_some m l ys i h0 (by omega) (by omega)]
    simp only [hlt, h0, if_true, hn, Option.bind_some]
    rw [hix]
    simp only [Option.bind_some]
    unfold ix
    generalize (rdOf ByteArray.empty l i).toList = q
    by_cases hq : ixl q < 0
    · rw [if_pos hq, if_pos hq]
      exact ⟨_, _, _, rfl, rfl, .inr ⟨rfl, rfl, by omega⟩⟩
    · rw [if_neg hq, if_neg hq, if_pos (by omega), bt_shl q hq, of_some _ _ (by simp) (by omega)]
      simp only [Option.bind_some]
      have hf : [ys.foldl orr 0, bt (ixl q)].foldl orr 0 = (ys ++ [bt (ixl q)]).foldl orr 0 := by
        rw [List.foldl_append]
        simp only [List.foldl_cons, List.foldl_nil]
        congr 1
        have hs := (fold_small ys 0 ⟨by omega, by omega⟩ hy).1
        obtain ⟨n, hn, hm⟩ := small_nat hs
        rw [hn]
        have t : ((List.range 16).all fun x => orr 0 (x : Int) == (x : Int)) = true := by decide +kernel
        exact beq_iff_eq.1 (List.all_eq_true.1 t n hm)
      rw [hf, RN_wrap h0 (by omega)]
      refine ih _ _ _ _ (by omega) (by rw [List.length_append]; simp; omega) (by omega) (by omega) (by omega) ?_
      intro z hz
      rcases List.mem_append.1 hz with hz | hz
      · exact hy z hz
      · rw [List.mem_singleton.1 hz]; exact bt_small q
theorem parse_some (l : List ByteArray) (hl : l.length ≤ 5) : ∃ x c r, rights_Parse.f 100 l = some (x, c) ∧ allotmentref16_Parse.f 100 l = some r ∧ ((c = 0 ∧ 0 ≤ r ∧ x = r) ∨ (c = 2 ∧ x = 0 ∧ r < 0)) :=
  parse_loop l hl l.length 100 100 [] 0 (by omega) rfl (by omega) (by omega) (by omega) (by simp)
end Go.Proofs.Ytjbijljcolkioaa.PNames
