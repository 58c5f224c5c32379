/- The document's queue of numbers (allotmentref10), and fifo.Queue[int].Clear. -/
import Derived.Test.YtjhecdmgblicoaaLawRow
namespace Go.Proofs.Ytjhecdmgblicoaa
open Go.RowKit
set_option linter.unusedVariables false

/-- A []int whose cells lie in a block from B on. -/
def InB (W : World) (B : Nat) (v : Value) (l : List Int) : Prop :=
  ∃ A c, v = .slice A l.length c ∧ l.length ≤ c ∧ c ≤ 9223372036854775807 ∧ (0 < c → ∃ b o, A = some ⟨b, o, none⟩ ∧ B ≤ b) ∧ ∀ b o, A = some ⟨b, o, none⟩ → ∀ j, j < l.length → W.cell? ⟨b, o + j, none⟩ = some (.int .i64 (l.getD j 0))
theorem InB.nil (W : World) (B : Nat) : InB W B (.slice none 0 0) [] := ⟨none, 0, rfl, by simp, by simp, by simp, by simp⟩
theorem InB.reads {W : World} {B : Nat} {v : Value} {l : List Int} (h : InB W B v l) : IntsAt W v l := by
  obtain ⟨A, c, rfl, h1, h2, h3, h4⟩ := h
  refine ⟨A, c, rfl, by omega, fun h0 => ?_⟩
  obtain ⟨b, o, rfl, _⟩ := h3 (by omega)
  exact ⟨b, o, rfl, h4 b o rfl⟩
theorem InB.keep {W W' : World} {B : Nat} {v : Value} {l : List Int} (h : InB W B v l) (hk : ∀ b, B ≤ b → b < W.heap.size → W'.heap[b]? = W.heap[b]?) : InB W' B v l := by
  obtain ⟨A, c, rfl, h1, h2, h3, h4⟩ := h
  refine ⟨A, c, rfl, h1, h2, h3, fun b o hA j hj => ?_⟩
  obtain ⟨b', o', hA', hb⟩ := h3 (by omega)
  rw [hA] at hA'
  injection hA' with hA'
  injection hA' with e1 e2
  subst e1
  have hc := h4 b o hA j hj
  exact (World.cell?_of_block (a := ⟨b, o + j, none⟩) (hk b hb (cell_lt hc))).trans hc
theorem InB.below {W W' : World} {B : Nat} {v : Value} {l : List Int} (h : InB W B v l) (hb : Below W.heap.size W W') : InB W' B v l := h.keep fun b _ hlt => hb.block b hlt
theorem InB.mono {W : World} {B B' : Nat} {v : Value} {l : List Int} (h : InB W B v l) (hb : B' ≤ B) : InB W B' v l := by
  obtain ⟨A, c, rfl, h1, h2, h3, h4⟩ := h
  exact ⟨A, c, rfl, h1, h2, fun h0 => by obtain ⟨b, o, e, hb'⟩ := h3 h0; exact ⟨b, o, e, by omega⟩, h4⟩
theorem own_inB {w : World} {base n : Nat} {v : Value} {xs : List Int} (h : w.ownsRow base 3 1 v n (ints xs)) : InB w base v xs := by
  have hl : xs.length = n := by have := h.1; simp [ints] at this; exact this
  subst hl
  have hcell := fun g hg => h.cells (g := g) hg
  rcases h.2 with ⟨rfl, h1⟩ | ⟨g, cap, cur, rfl, hg, hc, h1, h2, _⟩
  · exact ⟨none, 0, by rw [h1], by omega, by omega, fun hp => absurd hp (by omega), by simp⟩
  · refine ⟨_, cap, rfl, h1, by simp only [maxLen] at h2; omega, fun _ => ⟨g, 0, rfl, hg⟩, fun b o e j hj => ?_⟩
    injection e with e
    injection e with e1 e2
    subst e1 e2
    have hc := hcell g rfl j (.int .i64 (xs.getD j 0)) (by simp [ints, List.getElem?_eq_getElem hj, List.getD_eq_getElem?_getD])
    rw [add_plain] at hc
    rw [Nat.zero_add]
    exact hc

theorem ref_take_none (m : Int) (v : Value) (B : Nat) (w : World) (H : InB w B v []) :
    Calls Try.prog 22 #[.agg #[.int .i64 m, v]] w fun e w' => e = .returned (.tuple #[.agg #[.int .i64 m, v], .int .i64 0, .bool false]) ∧ Below w.heap.size w w' := by
  obtain ⟨A, c, rfl, _⟩ := H
  have HB := Lib.hid (((Below.refl w.heap.size w).alloc (Nat.le_refl _) (.cells #[.int .i64 m, .slice A 0 c] 49)).alloc (by simp) (.cells #[.int .i64 0, .slice none 0 0] 49))
  go_enter Try.func22, Try.ntmps22
  go_wp2
  refine bodyPost_ret (v := .tuple #[.agg #[.int .i64 m, .slice A 0 c], .int .i64 0, .bool false]) (by simp [results, Try.results22, go_sem]) rfl ⟨rfl, ?_⟩
  exact ((Below.refl w.heap.size w).alloc (Nat.le_refl _) _).alloc (by simp) _

theorem ref_take_one (m y : Int) (b o : Nat) (w : World) (d0 : w.cell? ⟨b, o, none⟩ = some (.int .i64 y)) :
    Calls Try.prog 22 #[.agg #[.int .i64 m, .slice (some ⟨b, o, none⟩) 1 1]] w fun e w' => e = .returned (.tuple #[.agg #[.int .i64 m, .slice (some ⟨b, o, none⟩) 0 0], .int .i64 y, .bool true]) ∧ Below w.heap.size w w' := by
  have hlt := cell_lt d0
  obtain ⟨wo, hwo⟩ : ∃ wo : World, wo = (w.alloc (.cells #[.int .i64 m, .slice (some ⟨b, o, none⟩) 1 1] 49)).alloc (.cells #[.int .i64 0, .slice none 0 0] 49) := ⟨_, rfl⟩
  have hsz : wo.heap.size = w.heap.size + 1 + 1 := by rw [hwo]; simp
  have hb2 : Below w.heap.size w wo := by rw [hwo]; exact ((Below.refl w.heap.size w).alloc (Nat.le_refl _) _).alloc (by simp) _
  have HB := Lib.hid hb2
  have c0 : wo.cell? ⟨w.heap.size, 0, none⟩ = some (.int .i64 m) := by rw [hwo]; go_simp
  have c1 : wo.cell? ⟨w.heap.size, 1, none⟩ = some (.slice (some ⟨b, o, none⟩) 1 1) := by rw [hwo]; go_simp
  have c2 : wo.cell? ⟨w.heap.size + 1, 0, none⟩ = some (.int .i64 0) := by rw [hwo]; go_simp
  have c3 : wo.cell? ⟨w.heap.size + 1, 1, none⟩ = some (.slice none 0 0) := by rw [hwo]; go_simp
  have f2 : wo.frozen? ⟨w.heap.size + 1, 0, none⟩ = false := by rw [hwo]; go_simp
  have f3 : wo.frozen? ⟨w.heap.size + 1, 1, none⟩ = false := by rw [hwo]; go_simp
  have HD := Lib.hid d0
  have d1 : wo.cell? ⟨b, o, none⟩ = some (.int .i64 y) := cell_below hb2 d0
  have HWO := Lib.hid hwo
  clear d0 hb2 hwo
  have n0 : w.heap.size ≠ w.heap.size + 1 := by omega
  have n1 : b ≠ w.heap.size + 1 := by omega
  go_enter Try.func22, Try.ntmps22
  go_upto_region 3 with (fail)
  rw [← HWO.out]
  go_cut [3, 4] (fun a a2 wx => a = .int .i64 y ∧ a2 = .bool true ∧ wx.cell? ⟨w.heap.size + 1, 0, none⟩ = some (.int .i64 m) ∧ wx.cell? ⟨w.heap.size + 1, 1, none⟩ = some (.slice (some ⟨b, o, none⟩) 0 0) ∧ Below w.heap.size w wx ∧ w.heap.size + 1 < wx.heap.size)
  case first =>
    go_region_held3 (fun w' => w'.cell? ⟨w.heap.size, 0, none⟩ = some (Value.int .i64 m) ∧ w'.cell? ⟨w.heap.size, 1, none⟩ = some (.slice (some ⟨b, o, none⟩) 1 1) ∧ w'.cell? ⟨b, o, none⟩ = some (.int .i64 y) ∧ (∃ u, w'.cell? ⟨w.heap.size + 1, 0, none⟩ = some u) ∧ (∃ u, w'.cell? ⟨w.heap.size + 1, 1, none⟩ = some u) ∧ w'.frozen? ⟨w.heap.size + 1, 0, none⟩ = false ∧ w'.frozen? ⟨w.heap.size + 1, 1, none⟩ = false) (first | (go_keep; done) | (refine ⟨?_, ?_, ?_, ?_, ?_, ?_, ?_⟩ <;> (go_simp; done))) (fail)
    all_goals (go_wp2_with fail; go_meet; exact ⟨rfl, rfl, by go_simp, by go_simp, (by repeat (first | exact HB.out | apply below_drew | refine Below.setCell ?_ (show w.heap.size ≤ w.heap.size + 1 by omega) _)), by simp; omega⟩)
  case rest =>
    obtain ⟨rfl, rfl, g0, g1, hbw, hsw⟩ := hcut
    have HBW := Lib.hid hbw
    clear hbw
    go_wp2
    refine bodyPost_ret (v := .tuple #[.agg #[.int .i64 m, .slice (some ⟨b, o, none⟩) 0 0], .int .i64 y, .bool true]) (by simp [results, Try.results22, go_sem, g0, g1]) rfl ⟨rfl, HBW.out⟩

theorem ref_take_more (m y : Int) (b o n c : Nat) (w : World) (d0 : w.cell? ⟨b, o, none⟩ = some (.int .i64 y)) (hn2 : 1 ≤ n) (h1 : n ≤ c) (h2 : c ≤ 9223372036854775807) (hc1 : ¬ c = 1) :
    Calls Try.prog 22 #[.agg #[.int .i64 m, .slice (some ⟨b, o, none⟩) n c]] w fun e w' => e = .returned (.tuple #[.agg #[.int .i64 m, .slice (some ⟨b, o + 1, none⟩) (n - 1) (c - 1)], .int .i64 y, .bool true]) ∧ Below w.heap.size w w' := by
  have hlt := cell_lt d0
  have hn0 : ((n : Nat) : Int) ≠ 0 := by omega
  have hn1 : (1 : Int) ≤ (n : Int) := by omega
  have hn4 : 0 < n := by omega
  have hn5 : ¬ n = 0 := by omega
  have hn3 : (0 : Int) < (n : Int) := by omega
  have hni : (n : Int) ≤ (c : Int) := by omega
  have hne : ((n : Int) == 0) = false := by simp; omega
  have hcc : (1 : Int) ≤ (c : Int) := by omega
  have hc2 : ¬ c - 1 = 0 := by omega
  obtain ⟨wo, hwo⟩ : ∃ wo : World, wo = (w.alloc (.cells #[.int .i64 m, .slice (some ⟨b, o, none⟩) n c] 49)).alloc (.cells #[.int .i64 0, .slice none 0 0] 49) := ⟨_, rfl⟩
  have hsz : wo.heap.size = w.heap.size + 1 + 1 := by rw [hwo]; simp
  have hb2 : Below w.heap.size w wo := by rw [hwo]; exact ((Below.refl w.heap.size w).alloc (Nat.le_refl _) _).alloc (by simp) _
  have HB := Lib.hid hb2
  have c0 : wo.cell? ⟨w.heap.size, 0, none⟩ = some (.int .i64 m) := by rw [hwo]; go_simp
  have c1 : wo.cell? ⟨w.heap.size, 1, none⟩ = some (.slice (some ⟨b, o, none⟩) n c) := by rw [hwo]; go_simp
  have c2 : wo.cell? ⟨w.heap.size + 1, 0, none⟩ = some (.int .i64 0) := by rw [hwo]; go_simp
  have c3 : wo.cell? ⟨w.heap.size + 1, 1, none⟩ = some (.slice none 0 0) := by rw [hwo]; go_simp
  have f2 : wo.frozen? ⟨w.heap.size + 1, 0, none⟩ = false := by rw [hwo]; go_simp
  have f3 : wo.frozen? ⟨w.heap.size + 1, 1, none⟩ = false := by rw [hwo]; go_simp
  have HD := Lib.hid d0
  have d1 : wo.cell? ⟨b, o, none⟩ = some (.int .i64 y) := cell_below hb2 d0
  have HWO := Lib.hid hwo
  clear d0 hb2 hwo
  have n0 : w.heap.size ≠ w.heap.size + 1 := by omega
  have n1 : b ≠ w.heap.size + 1 := by omega
  go_enter Try.func22, Try.ntmps22
  go_upto_region 3 with (fail)
  rw [← HWO.out]
  go_cut [3, 4] (fun a a2 wx => a = .int .i64 y ∧ a2 = .bool true ∧ wx.cell? ⟨w.heap.size + 1, 0, none⟩ = some (.int .i64 m) ∧ wx.cell? ⟨w.heap.size + 1, 1, none⟩ = some (.slice (some ⟨b, o + 1, none⟩) (n - 1) (c - 1)) ∧ Below w.heap.size w wx ∧ w.heap.size + 1 < wx.heap.size)
  case first =>
    go_region_held3 (fun w' => w'.cell? ⟨w.heap.size, 0, none⟩ = some (Value.int .i64 m) ∧ w'.cell? ⟨w.heap.size, 1, none⟩ = some (.slice (some ⟨b, o, none⟩) n c) ∧ w'.cell? ⟨b, o, none⟩ = some (.int .i64 y) ∧ (∃ u, w'.cell? ⟨w.heap.size + 1, 0, none⟩ = some u) ∧ (∃ u, w'.cell? ⟨w.heap.size + 1, 1, none⟩ = some u) ∧ w'.frozen? ⟨w.heap.size + 1, 0, none⟩ = false ∧ w'.frozen? ⟨w.heap.size + 1, 1, none⟩ = false) (first | (go_keep; done) | (refine ⟨?_, ?_, ?_, ?_, ?_, ?_, ?_⟩ <;> (go_simp; done))) (fail)
    all_goals (go_wp2_with fail; go_meet; exact ⟨rfl, rfl, by go_simp, by go_simp, (by repeat (first | exact HB.out | apply below_drew | refine Below.setCell ?_ (show w.heap.size ≤ w.heap.size + 1 by omega) _)), by simp; omega⟩)
  case rest =>
    obtain ⟨rfl, rfl, g0, g1, hbw, hsw⟩ := hcut
    have HBW := Lib.hid hbw
    clear hbw
    go_wp2
    refine bodyPost_ret (v := .tuple #[.agg #[.int .i64 m, .slice (some ⟨b, o + 1, none⟩) (n - 1) (c - 1)], .int .i64 y, .bool true]) (by simp [results, Try.results22, go_sem, g0, g1]) rfl ⟨rfl, HBW.out⟩

theorem ref_take_some (m : Int) (v : Value) (B : Nat) (y : Int) (ys : List Int) (w : World) (H : InB w B v (y :: ys)) :
    Calls Try.prog 22 #[.agg #[.int .i64 m, v]] w fun e w' => (∃ v', e = .returned (.tuple #[.agg #[.int .i64 m, v'], .int .i64 y, .bool true]) ∧ InB w B v' ys) ∧ Below w.heap.size w w' := by
  obtain ⟨A, c, rfl, h1, h2, h3, h4⟩ := H
  obtain ⟨b, o, rfl, hb⟩ := h3 (by simp at h1; omega)
  have hc := h4 b o rfl
  have d0 := hc 0 (by simp)
  simp only [List.getD_cons_zero, Nat.add_zero] at d0
  simp only [List.length_cons] at h1 hc ⊢
  by_cases hc1 : c = 1
  · subst hc1
    obtain rfl : ys = [] := List.eq_nil_of_length_eq_zero (by omega)
    refine (ref_take_one m y b o w d0).mono ?_
    rintro e w' ⟨rfl, hb'⟩
    exact ⟨⟨_, rfl, some ⟨b, o, none⟩, 0, rfl, by simp, by simp, by simp, by simp⟩, hb'⟩
  · refine (ref_take_more m y b o (ys.length + 1) c w d0 (by omega) h1 h2 hc1).mono ?_
    rintro e w' ⟨rfl, hb'⟩
    refine ⟨⟨_, rfl, some ⟨b, o + 1, none⟩, c - 1, rfl, by omega, by omega, fun _ => ⟨b, o + 1, rfl, hb⟩, ?_⟩, hb'⟩
    intro b' o' e j hj
    injection e with e
    injection e with e1 e2
    subst e1 e2
    have := hc (j + 1) (by omega)
    rw [show o + (j + 1) = o + 1 + j by omega] at this
    simpa using this

theorem setCells_ints (b : Nat) : ∀ (n o : Nat) (w : World) (cs : Array Value), w.heap[b]? = some (.cells cs 3 (0, 0)) → (∀ i, i < cs.size → ∃ x, cs[i]? = some (.int .i64 x)) →
    (∃ cs' : Array Value, (w.setCells b o (List.replicate n (.int .i64 0))).heap[b]? = some (.cells cs' 3 (0, 0)) ∧ cs'.size = cs.size ∧ ∀ i, i < cs.size → ∃ x, cs'[i]? = some (.int .i64 x)) ∧ Only b b w (w.setCells b o (List.replicate n (.int .i64 0)))
  | 0, o, w, cs, h, hi => ⟨⟨cs, h, rfl, hi⟩, ⟨rfl, rfl, rfl, rfl, fun _ _ _ => rfl⟩⟩
  | n + 1, o, w, cs, h, hi => by
    have h1 := Go.heap_setCell_same w b o cs 3 (.int .i64 0) h
    obtain ⟨⟨cs', g1, g2, g3⟩, g4⟩ := setCells_ints b n (o + 1) (w.setCell ⟨b, o, none⟩ (.int .i64 0)) _ h1 (by
      intro i hlt
      rw [Array.size_setIfInBounds] at hlt
      rw [Array.getElem?_setIfInBounds]
      split
      · exact ⟨0, by rw [if_pos (by omega)]⟩
      · exact hi i hlt)
    rw [Array.size_setIfInBounds] at g2 g3
    refine ⟨⟨cs', g1, g2, g3⟩, ⟨g4.os, g4.tape, g4.output, ?_, fun i hb _ => ?_⟩⟩
    · have := g4.size
      simp at this ⊢
      exact this
    · exact (g4.far i hb hb).trans (Go.heap_setCell_other _ _ _ _ (by exact hb))

theorem clear_any (b r m a : Nat) (L : List Int) (w : World) (H : QAt w b r m a L) :
    Calls Try.prog 23 #[.pointer (some ⟨b, 0, none⟩)] w fun e w' => e = .returned (.tuple #[]) ∧ QAt w' b r m 0 [] ∧ Only b r w w' := by
  obtain ⟨cs, hr, hs, hL, hi⟩ := H.hr
  have c0 := cell_of_row w b 0 _ _ _ H.hb
  have m0 := H.m0
  have m1 := H.m1
  have nbr := H.ne
  have nrb := Ne.symm nbr
  subst hs
  obtain ⟨⟨cs', g1, g2, g3⟩, g4⟩ := setCells_ints r cs.size 0 w cs hr hi
  have hclr : Sem.run Try.prog (Builtin.clear_ #[23] 0 #[.slice (some ⟨r, 0, none⟩) cs.size cs.size]) w = .ok (.tuple #[]) (w.setCells r 0 (List.replicate cs.size (.int .i64 0))) :=
    Lib.run_clear_slice (P := Try.prog) w 23 3 0 (.int .i64 0) rfl (fun _ => rfl) rfl rfl r 0 cs.size cs.size (by omega) (fun j hj => by obtain ⟨x, hx⟩ := hi j hj; rw [Nat.zero_add, cell_of_row w r j _ _ _ hr, hx]; rfl) (fun j hj => frozen_of_row w r _ _ _ hr)
  generalize w.setCells r 0 (List.replicate cs.size (.int .i64 0)) = w1 at *
  have gb := (g4.far b nbr nbr).trans H.hb
  have d1 := cell_of_row w1 b 1 _ _ _ gb
  have d2 := cell_of_row w1 b 2 _ _ _ gb
  have e1 := frozen_of_row w1 b 1 _ _ gb
  have e2 := frozen_of_row w1 b 2 _ _ gb
  have HO := Lib.hid (show QAt ((w1.setCell ⟨b, 1, none⟩ (.int .i64 0)).setCell ⟨b, 2, none⟩ (.int .i64 0)) b r cs.size 0 [] ∧ Only b r w ((w1.setCell ⟨b, 1, none⟩ (.int .i64 0)).setCell ⟨b, 2, none⟩ (.int .i64 0)) by
    have k1 := Go.heap_setCell_same w1 b 1 _ 58 (.int .i64 0) gb
    have k2 := Go.heap_setCell_same _ b 2 _ 58 (.int .i64 0) k1
    refine ⟨⟨nbr, m0, m1, by omega, by simp, by rw [k2]; simp, ⟨cs', ?_, g2, by simp, g3⟩⟩, ⟨g4.os, g4.tape, g4.output, ?_, fun i h1 h2 => ?_⟩⟩
    · rw [Go.heap_setCell_other _ _ _ _ nrb, Go.heap_setCell_other _ _ _ _ nrb]
      exact g1
    · have := g4.size
      simpa using this
    · rw [Go.heap_setCell_other _ _ _ _ (by exact h1), Go.heap_setCell_other _ _ _ _ (by exact h1)]
      exact g4.far i h2 h2)
  simp at c0 d1 d2
  clear H hL hi hr g1 g2 g3 g4 gb
  go_enter Try.func23, Try.ntmps23
  go_wp2
  exact ⟨rfl, .tuple #[], by simp [results, Try.results23, go_sem], rfl, HO.out⟩

section
variable {ops : Array Oper} {rest : List Oper} {o : Oper} {a : Act} {Q : Exit → Act → World → Prop}
theorem app_inB {W : World} {base B n : Nat} {v y : Value} {xs : List Value} {ys : List Int} (HO : W.ownsRow base 3 1 v n xs) (HY : InB W B y ys) {s x : Operand} (hgd : o.guard = none)
    (ho : o.op = .call { callee := .builtin .append, args := #[s, x], argTypes := #[23, 23] })
    (hs : a.eval s = v) (hx : a.eval x = y) (hbase : base ≤ W.heap.size) (hl : (n + ys.length) * 8 ≤ 140737488355328)
    (h : ∀ v1 w1, w1.ownsRow base 3 1 v1 (n + ys.length) (xs ++ ints ys) → W.grownBy w1 v.ownBlock → wpList Try.prog ops Q rest (a.put o.dst v1) w1) :
    wpList Try.prog ops Q (o :: rest) a W := by
  obtain ⟨i3, hi3, hzz⟩ := Option.map_eq_some_iff.1 info3'
  simp only [Prod.mk.injEq] at hzz
  obtain ⟨hz0, hz1, hz2⟩ := hzz
  obtain ⟨A, c, rfl, h1, h2, h3, h4⟩ := HY
  rcases Nat.eq_zero_or_pos c with rfl | hc
  · obtain rfl : ys = [] := List.eq_nil_of_length_eq_zero (by omega)
    cases A with
    | none =>
      refine app_none HO hgd ho Try.underlying23 hi3 hz1 hs hx (h _ _ (by simpa [ints] using HO) ⟨rfl, rfl, rfl, Nat.le_refl _, fun _ _ _ => rfl⟩)
    | some ad =>
      refine wpList_append_own W hgd _ _ 23 ho base 3 i3 (.int .i64 0) 1 8 Try.underlying23 hi3 hz0 hz1 hz2 rfl (by decide) v n xs hs HO ad 0 0 [] hx (by simp) (by simp) (by simp) (by simp at hl; simp only [maxLen]; omega) (by simpa using hl) hbase ?_
      intro v' w' k1 k2 _
      exact h v' w' (by simpa [ints] using k1) k2
  · obtain ⟨b, o', rfl, _⟩ := h3 hc
    refine wpList_append_own W hgd _ _ 23 ho base 3 i3 (.int .i64 0) 1 8 Try.underlying23 hi3 hz0 hz1 hz2 rfl (by decide) v n xs hs HO ⟨b, o', none⟩ ys.length c (ints ys) hx (by simp [ints]) ?_ (ints_one ys) (by simp only [maxLen]; omega) hl hbase ?_
    · intro j u hj
      simp only [ints, List.getElem?_map, Option.map_eq_some_iff] at hj
      obtain ⟨q, hq, rfl⟩ := hj
      obtain ⟨hlt, rfl⟩ := List.getElem?_eq_some_iff.1 hq
      have := h4 b o' rfl j hlt
      rw [show (⟨b, o', none⟩ : Addr).add j = ⟨b, o' + j, none⟩ by unfold Addr.add; split <;> simp_all]
      rw [this]
      simp [List.getD_eq_getElem?_getD, hlt]
    · intro v' w' k1 k2 _
      exact h v' w' k1 k2
end

theorem ref_put_full (m : Nat) (v : Value) (B : Nat) (L : List Int) (x : Int) (w : World) (H : InB w B v L) (hm : m ≤ L.length) :
    Calls Try.prog 24 #[.agg #[.int .i64 m, v], .int .i64 x] w fun e w' => e = .returned (.tuple #[.agg #[.int .i64 m, v], .int .i64 8]) ∧ Below w.heap.size w w' := by
  obtain ⟨A, c, rfl, h1, h2, h3, h4⟩ := H
  have hi : (m : Int) ≤ (L.length : Int) := by omega
  clear h3 h4
  go_enter Try.func24, Try.ntmps24
  go_wp2
  refine bodyPost_ret (v := .tuple #[.agg #[.int .i64 m, .slice A L.length c], .int .i64 8]) (by simp [results, Try.results24, go_sem]) rfl ⟨rfl, ?_⟩
  exact ((Below.refl w.heap.size w).alloc (Nat.le_refl _) _).alloc (by simp) _

set_option maxHeartbeats 1000000 in
theorem ref_put_more (m : Nat) (v : Value) (B : Nat) (L : List Int) (x : Int) (w : World) (H : InB w B v L) (hm : L.length < m) (hsm : L.length ≤ 1000) :
    Calls Try.prog 24 #[.agg #[.int .i64 m, v], .int .i64 x] w fun e w' => (∃ v', e = .returned (.tuple #[.agg #[.int .i64 m, v'], .int .i64 0]) ∧ w'.ownsRow w.heap.size 3 1 v' (L.length + 1) (ints (L ++ [x]))) ∧ Below w.heap.size w w' := by
  have HH := Lib.hid H
  obtain ⟨A, c, rfl, h1, h2, h3, h4⟩ := H
  have hi : ¬ (m : Int) ≤ (L.length : Int) := by omega
  have hsb : (L.length + 1) * 8 ≤ 140737488355328 := by omega
  clear h3 h4
  obtain ⟨i3, hi3, hzz⟩ := Option.map_eq_some_iff.1 info3'
  simp only [Prod.mk.injEq] at hzz
  obtain ⟨hz0, hz1, hz2⟩ := hzz
  go_enter Try.func24, Try.ntmps24
  obtain ⟨W0, hW0⟩ : ∃ W0 : World, W0 = (w.alloc (.cells #[.int .i64 m, .slice A L.length c] 49)).alloc (.cells #[.int .i64 0, .slice none 0 0] 49) := ⟨_, rfl⟩
  have HW0 := Lib.hid hW0
  have hs0 : W0.heap.size = w.heap.size + 2 := by rw [hW0]; simp
  have hB0 : Below w.heap.size w W0 := by rw [hW0]; exact ((Below.refl w.heap.size w).alloc (Nat.le_refl _) _).alloc (by simp) _
  have c0 : W0.cell? ⟨w.heap.size, 0, none⟩ = some (.int .i64 m) := by rw [hW0]; go_simp
  have c1 : W0.cell? ⟨w.heap.size, 1, none⟩ = some (.slice A L.length c) := by rw [hW0]; go_simp
  have c2 : W0.cell? ⟨w.heap.size + 1, 0, none⟩ = some (.int .i64 0) := by rw [hW0]; go_simp
  have c3 : W0.cell? ⟨w.heap.size + 1, 1, none⟩ = some (.slice none 0 0) := by rw [hW0]; go_simp
  have f2 : W0.frozen? ⟨w.heap.size + 1, 0, none⟩ = false := by rw [hW0]; go_simp
  have f3 : W0.frozen? ⟨w.heap.size + 1, 1, none⟩ = false := by rw [hW0]; go_simp
  have HB0 := Lib.hid hB0
  clear hB0 hW0
  go_upto_region 5 with (at_builtin; rw [← HW0.out]; refine app_inB (own_nil _ (w.heap.size + 2) 3 1) (HH.out.below HB0.out) rfl rfl rfl rfl (by omega) (by omega) ?_; intro v1 w1 hown hgr)
  rw [Nat.zero_add, List.nil_append] at hown
  have hb1 : Below (w.heap.size + 2) W0 w1 := (Below.refl _ _).grown hgr (by omega) (by simp [Value.ownBlock])
  have hs1 := hb1.size
  have hlt1 : w.heap.size < w1.heap.size := by omega
  have hlt2 : w.heap.size + 1 < w1.heap.size := by omega
  have hne1 : w.heap.size ≠ w1.heap.size := by omega
  have hne2 : w.heap.size + 1 ≠ w1.heap.size := by omega
  have HB1 := Lib.hid (HB0.out.trans (hb1.mono (by omega)))
  have HOW := Lib.hid hown
  replace c0 := (hb1.cell (p := ⟨w.heap.size, 0, none⟩) (by simp)).trans c0
  replace c2 := (hb1.cell (p := ⟨w.heap.size + 1, 0, none⟩) (by simp)).trans c2
  replace c3 := (hb1.cell (p := ⟨w.heap.size + 1, 1, none⟩) (by simp)).trans c3
  replace f2 := (hb1.frozen (p := ⟨w.heap.size + 1, 0, none⟩) (by simp)).trans f2
  replace f3 := (hb1.frozen (p := ⟨w.heap.size + 1, 1, none⟩) (by simp)).trans f3
  obtain ⟨A1, c1', rfl⟩ := own_slice hown
  clear c1 hown hgr hb1 HB0 HW0
  go_region_law (refine step_append_lies _ (by rfl) _ _ 23 rfl (w.heap.size + 2) 3 i3 (.int .i64 0) 1 8 Try.underlying23 hi3 hz0 hz1 hz2 rfl (by decide) _ L.length (ints L) rfl (own_below HOW.out (by (repeat (first | exact Below.refl _ _ | refine Below.alloc ?_ (by first | omega | (simp; omega) | simp) _ | apply below_drew)))) ⟨w1.heap.size, 0, none⟩ 1 1 [.int .i64 x] rfl rfl (by intro j u hj; rcases j with _ | j <;> simp at hj; subst hj; go_simp) (one_int _) (by omega) (by simp only [maxLen]; omega) hsb (by first | omega | (simp; omega)) _ rfl ?_; intro g cap w' hown1 hgr hge hglt; have hb2 := Below.grown (B := w.heap.size + 2) (a := w1) (by (repeat (first | exact Below.refl _ _ | refine Below.alloc ?_ (by first | omega | (simp; omega) | simp) _ | apply below_drew))) hgr (by first | omega | (simp; omega)) (own_base HOW.out); have k0 := (hb2.cell (p := ⟨w.heap.size, 0, none⟩) (by simp)).trans c0; have k2 := (hb2.cell (p := ⟨w.heap.size + 1, 0, none⟩) (by simp)).trans c2; have k3 := (hb2.cell (p := ⟨w.heap.size + 1, 1, none⟩) (by simp)).trans c3; have l2 := (hb2.frozen (p := ⟨w.heap.size + 1, 0, none⟩) (by simp)).trans f2; have l3 := (hb2.frozen (p := ⟨w.heap.size + 1, 1, none⟩) (by simp)).trans f3; have HOO := Lib.hid hown1; have HB2 := Lib.hid hb2; clear hown1 hgr hge hb2)
  all_goals
    go_wp2
    have hsz2 : w.heap.size + 1 < w'.heap.size := by have := HB2.out.size; omega
    refine bodyPost_ret (v := .tuple #[.agg #[.int .i64 m, .slice (some ⟨g, 0, none⟩) (L.length + 1) cap], .int .i64 0]) (by simp [results, Try.results24, go_sem, k2, k3]) rfl ⟨⟨_, rfl, ?_⟩, ?_⟩
    · have h0 := HOO.out
      rw [show ints L ++ [Value.int IntKind.i64 x] = ints (L ++ [x]) by simp [ints]] at h0
      exact own_mono (ownsRow_setCell_below (ownsRow_setCell_below h0 (show w.heap.size + 1 < w.heap.size + 2 by omega) _) (show w.heap.size + 1 < w.heap.size + 2 by omega) _) (by omega)
    · exact ((HB1.out.trans (HB2.out.mono (by omega))).setCell (show w.heap.size ≤ w.heap.size + 1 by omega) _).setCell (show w.heap.size ≤ w.heap.size + 1 by omega) _
end Go.Proofs.Ytjhecdmgblicoaa
