/- The pure statement of RightsMore: who has more rights is let do all that who has fewer is, at every three numbers of the kind int. -/
import Derived.Test.YtjbijljcolkioaaPRightsMorex2
namespace Go.Proofs.Ytjbijljcolkioaa.Pure
open Go.RowKit Go.Proofs.Ytjbijljcolkioaa.PRightsMore Go.Proofs.YtjbijljcolkioaaW.PrintWords Go.Proofs.YtjbijljcolkioaaW.PrintLast

theorem RightsMore_lives : allotmentlaw16_lives.f 10 = some true := by decide +kernel
theorem RightsMore_all : rights_All.f 10 = some 15 := by decide +kernel

theorem RightsMore_around (a m : Int) (hm : 0 < m) (hw : (Lit.int .i64 a).wf = true) : ∃ y, allotmentref01_Around.f a m = some y ∧ 0 ≤ y ∧ y < m := by
  have hb : -9223372036854775808 ≤ a ∧ a ≤ 9223372036854775807 := by
    have h := hw
    simp only [Lit.wf, IntKind.min, IntKind.max, IntKind.signed, IntKind.bits, decide_eq_true_eq, Bool.and_eq_true] at h
    simp at h
    exact h
  have hm0 : ¬ m = 0 := by omega
  have key : ∀ b : Int, 0 ≤ b → 0 ≤ Int.tmod b m ∧ Int.tmod b m < m := fun b h => ⟨Int.tmod_nonneg _ h, Int.tmod_lt_of_pos _ hm⟩
  by_cases h : a < 0
  · have e : allotmentref01_Around.f a m = some (Int.tmod (wrap64 (-(wrap64 (a + 1)))) m) := by
      unfold allotmentref01_Around.f
      rw [if_pos h, if_neg hm0]
    exact ⟨_, e, key _ (by unfold wrap64; omega)⟩
  · have e : allotmentref01_Around.f a m = some (Int.tmod a m) := by
      unfold allotmentref01_Around.f
      rw [if_neg h, if_neg hm0]
    exact ⟨_, e, key _ (by omega)⟩

/-- All that is told of two sets that may be, and of an operation's need: closed, by the kernel. -/
def RightsMore_good (x y o : Int) : Bool :=
  match rights_Of.f 10 [x, y] with
  | none => false
  | some s => match rights_Needs.f 10 o with
    | none => false
    | some n => match rights_Has.f s x, rights_Has.f x n.1, rights_Has.f s n.1, rights_Has.f 15 s with
      | some true, some p, some q, some true => !p || q
      | _, _, _, _ => false
theorem RightsMore_row0 : ((List.range 16).all fun x => (List.range 16).all fun y => RightsMore_good (x : Int) (y : Int) 0) = true := by decide +kernel
theorem RightsMore_row1 : ((List.range 16).all fun x => (List.range 16).all fun y => RightsMore_good (x : Int) (y : Int) 1) = true := by decide +kernel
theorem RightsMore_row2 : ((List.range 16).all fun x => (List.range 16).all fun y => RightsMore_good (x : Int) (y : Int) 2) = true := by decide +kernel
theorem RightsMore_row3 : ((List.range 16).all fun x => (List.range 16).all fun y => RightsMore_good (x : Int) (y : Int) 3) = true := by decide +kernel
theorem RightsMore_row4 : ((List.range 16).all fun x => (List.range 16).all fun y => RightsMore_good (x : Int) (y : Int) 4) = true := by decide +kernel
theorem RightsMore_row5 : ((List.range 16).all fun x => (List.range 16).all fun y => RightsMore_good (x : Int) (y : Int) 5) = true := by decide +kernel
theorem RightsMore_row6 : ((List.range 16).all fun x => (List.range 16).all fun y => RightsMore_good (x : Int) (y : Int) 6) = true := by decide +kernel
theorem RightsMore_row7 : ((List.range 16).all fun x => (List.range 16).all fun y => RightsMore_good (x : Int) (y : Int) 7) = true := by decide +kernel
theorem RightsMore_row8 : ((List.range 16).all fun x => (List.range 16).all fun y => RightsMore_good (x : Int) (y : Int) 8) = true := by decide +kernel
theorem RightsMore_table (x y o : Nat) (hx : x < 16) (hy : y < 16) (ho : o < 9) : RightsMore_good (x : Int) (y : Int) (o : Int) = true := by
  have key : ∀ {p : Int}, ((List.range 16).all fun x => (List.range 16).all fun y => RightsMore_good (x : Int) (y : Int) p) = true → RightsMore_good (x : Int) (y : Int) p = true := fun h =>
    List.all_eq_true.1 (List.all_eq_true.1 h x (List.mem_range.2 hx)) y (List.mem_range.2 hy)
  have : o = 0 ∨ o = 1 ∨ o = 2 ∨ o = 3 ∨ o = 4 ∨ o = 5 ∨ o = 6 ∨ o = 7 ∨ o = 8 := by omega
  rcases this with rfl | rfl | rfl | rfl | rfl | rfl | rfl | rfl | rfl
  · exact key RightsMore_row0
  · exact key RightsMore_row1
  · exact key RightsMore_row2
  · exact key RightsMore_row3
  · exact key RightsMore_row4
  · exact key RightsMore_row5
  · exact key RightsMore_row6
  · exact key RightsMore_row7
  · exact key RightsMore_row8

theorem RightsMore_told (x y o : Int) (h : RightsMore_good x y o = true) : ∃ s n p q, rights_Of.f 10 [x, y] = some s ∧ rights_Needs.f 10 o = some n ∧ rights_Has.f s x = some true ∧
    rights_Has.f x n.1 = some p ∧ rights_Has.f s n.1 = some q ∧ rights_Has.f 15 s = some true ∧ (!p || q) = true := by
  unfold RightsMore_good at h
  generalize hs : rights_Of.f 10 [x, y] = s at h
  generalize hn : rights_Needs.f 10 o = n at h
  rcases s with _ | s
  · simp at h
  rcases n with _ | n
  · simp at h
  dsimp only at h
  generalize h1 : rights_Has.f s x = p1 at h
  generalize h2 : rights_Has.f x n.1 = p2 at h
  generalize h3 : rights_Has.f s n.1 = p3 at h
  generalize h4 : rights_Has.f 15 s = p4 at h
  rcases p1 with _ | _ | _ <;> rcases p2 with _ | p <;> rcases p3 with _ | q <;> rcases p4 with _ | _ | _ <;> first | (simp at h; done) | exact ⟨s, n, p, q, rfl, rfl, h1, h2, h3, h4, h⟩

theorem RightsMore_at (x y o : Int) (x0 : 0 ≤ x) (x1 : x < 16) (y0 : 0 ≤ y) (y1 : y < 16) (o0 : 0 ≤ o) (o1 : o < 9) : RightsMore_good x y o = true := by
  obtain ⟨x, rfl⟩ := Int.eq_ofNat_of_zero_le x0
  obtain ⟨y, rfl⟩ := Int.eq_ofNat_of_zero_le y0
  obtain ⟨o, rfl⟩ := Int.eq_ofNat_of_zero_le o0
  exact RightsMore_table x y o (by omega) (by omega) (by omega)

theorem RightsMore_law (k : Nat) (a b c x y o s : Int) (n : Int × Bool) (p q : Bool) (hx : allotmentref01_Around.f a 16 = some x) (hy : allotmentref01_Around.f b 16 = some y) (ho : allotmentref01_Around.f c 9 = some o)
    (hs : rights_Of.f k [x, y] = some s) (hn : rights_Needs.f k o = some n) (h1 : rights_Has.f s x = some true) (h2 : rights_Has.f x n.1 = some p) (h3 : rights_Has.f s n.1 = some q) (h4 : rights_Has.f 15 s = some true) (hpq : (!p || q) = true) (h5 : rights_All.f k = some 15) (h6 : allotmentlaw16_lives.f k = some true) :
    allotmentlaw16_RightsMore.f k a b c = some true := by
  unfold allotmentlaw16_RightsMore.f
  rw [hx]; simp only [Option.bind_some]
  rw [hy]; simp only [Option.bind_some]
  rw [hs]; simp only [Option.bind_some]
  rw [ho]; simp only [Option.bind_some]
  rw [hn]; simp only [Option.bind_some]
  rw [h1]; simp only [Option.bind_some, if_true]
  rw [h2]; simp only [Option.bind_some]
  rw [h5, h6]
  simp only [Option.bind_some]
  rw [h3, h4]
  simp only [Option.bind_some, if_true]
  cases p <;> cases q <;> first | (simp; done) | (simp at hpq; done)

theorem RightsMore : allotmentlaw16_RightsMore.Pure := by
  intro a b c ha hb hc
  refine ⟨10, ?_⟩
  obtain ⟨x, hx, x0, x1⟩ := RightsMore_around a 16 (by omega) ha
  obtain ⟨y, hy, y0, y1⟩ := RightsMore_around b 16 (by omega) hb
  obtain ⟨o, ho, o0, o1⟩ := RightsMore_around c 9 (by omega) hc
  have ht : RightsMore_good x y o = true := RightsMore_at x y o x0 x1 y0 y1 o0 o1
  obtain ⟨s, n, p, q, hs, hn, h1, h2, h3, h4, hpq⟩ := RightsMore_told x y o ht
  exact RightsMore_law 10 a b c x y o s n p q hx hy ho hs hn h1 h2 h3 h4 hpq RightsMore_all RightsMore_lives

end Go.Proofs.Ytjbijljcolkioaa.Pure
