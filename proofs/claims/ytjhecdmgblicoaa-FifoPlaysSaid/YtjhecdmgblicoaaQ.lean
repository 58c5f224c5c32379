/- fifo.Queue[int]: what each method comes to, at a queue whose ring and whose struct lie in blocks r and b. -/
import Derived.Test.YtjhecdmgblicoaaBase
import Derived.Lib.SliceRun
import Derived.Deep.OwnRows
import Derived.StillTailTactics
namespace Go.Proofs.Ytjhecdmgblicoaa
open Go.RowKit
set_option linter.unusedVariables false

/-- A queue of numbers: at most m, the first at a, the numbers L. -/
structure QAt (W : World) (b r : Nat) (m a : Nat) (L : List Int) : Prop where
  ne : b ≠ r
  m0 : 1 ≤ m
  m1 : m ≤ 1000
  al : a < m
  ll : L.length ≤ m
  hb : W.heap[b]? = some (.cells #[.slice (some ⟨r, 0, none⟩) m m, .int .i64 a, .int .i64 L.length] 58 (0, 0))
  hr : ∃ cs : Array Value, W.heap[r]? = some (.cells cs 3 (0, 0)) ∧ cs.size = m ∧ (∀ j, j < L.length → cs[(a + j) % m]? = some (.int .i64 (L.getD j 0))) ∧ ∀ i, i < m → ∃ x, cs[i]? = some (.int .i64 x)

theorem newi_bad (n : Int) (w : World) (h : n < 1 ∨ 1000 < n) :
    Calls Try.prog 15 #[.int .i64 n] w fun e w' => e = .returned (.tuple #[.pointer none, .int .i64 1]) ∧ w = w' := by
  rcases h with h | h
  · go_enter Try.func15, Try.ntmps15
    go_wp2
    go_ret2
    exact ⟨rfl, rfl⟩
  · have h' : ¬ n < 1 := by omega
    go_enter Try.func15, Try.ntmps15
    go_wp2
    go_ret2
    exact ⟨rfl, rfl⟩

theorem news_bad (n : Int) (w : World) (h : n < 1 ∨ 1000 < n) :
    Calls Try.prog 10 #[.int .i64 n] w fun e w' => e = .returned (.tuple #[.pointer none, .int .i64 1]) ∧ w = w' := by
  rcases h with h | h
  · go_enter Try.func10, Try.ntmps10
    go_wp2
    go_ret2
    exact ⟨rfl, rfl⟩
  · have h' : ¬ n < 1 := by omega
    go_enter Try.func10, Try.ntmps10
    go_wp2
    go_ret2
    exact ⟨rfl, rfl⟩

theorem newi_good (n : Int) (w : World) (h1 : 1 ≤ n) (h2 : n ≤ 1000) :
    Calls Try.prog 15 #[.int .i64 n] w fun e w' => e = .returned (.tuple #[.pointer (some ⟨w.heap.size + 1, 0, none⟩), .int .i64 0]) ∧ QAt w' (w.heap.size + 1) w.heap.size n.toNat 0 [] ∧ Below w.heap.size w w' := by
  obtain ⟨N, rfl⟩ : ∃ N : Nat, n = (N : Int) := ⟨n.toNat, by omega⟩
  have hmk : ∀ w : World, Sem.run Try.prog (Instr.makeSlice 23 (.int .i64 (N : Int)) (.int .i64 (N : Int))) w = .ok (.slice (some ⟨w.heap.size, 0, none⟩) N N) (w.alloc (.cells (madeCells #[.int .i64 0] N) 3)) := fun w => run_make_row' 23 3 (.int .i64 0) 8 rfl (by kernel_rfl) rfl .i64 .i64 N (by omega) (by omega) w
  have HB := Lib.hid (((Below.refl w.heap.size w).alloc (Nat.le_refl _) (.cells (madeCells #[.int .i64 0] N) 3)).alloc (by simp) (.cells #[.slice (some ⟨w.heap.size, 0, none⟩) N N, .int .i64 0, .int .i64 0] 58))
  go_enter Try.func15, Try.ntmps15
  go_wp2
  go_ret2
  refine ⟨rfl, ⟨by omega, by omega, by omega, by omega, by simp, ?_, ⟨madeCells #[.int .i64 0] N, ?_, ?_, by simp, ?_⟩⟩, HB.out⟩
  · rw [Int.toNat_natCast]
    have := heap_alloc_new (w.alloc (.cells (madeCells #[.int .i64 0] N) 3)) (.cells #[.slice (some ⟨w.heap.size, 0, none⟩) N N, .int .i64 0, .int .i64 0] 58)
    simpa using this
  · rw [heap_alloc_old _ _ (by simp)]
    exact heap_alloc_new _ _
  · simp [size_madeCells]
  · intro i hi
    refine ⟨0, ?_⟩
    rw [Int.toNat_natCast] at hi
    simp [madeCells, hi, Nat.mod_one]

theorem full_any (b r m a : Nat) (L : List Int) (w : World) (H : QAt w b r m a L) :
    Calls Try.prog 18 #[.pointer (some ⟨b, 0, none⟩)] w fun e w' => e = .returned (.bool (decide (L.length = m))) ∧ ∃ k, w' = w.drewN k := by
  have c0 := cell_of_row w b 0 _ _ _ H.hb
  have c1 := cell_of_row w b 1 _ _ _ H.hb
  have c2 := cell_of_row w b 2 _ _ _ H.hb
  have m1 := H.m1
  have ll := H.ll
  simp at c0 c1 c2
  have HE : ((L.length : Int) == (m : Int)) = decide (L.length = m) := by
    rw [Bool.eq_iff_iff]
    simp
    omega
  clear H
  go_enter Try.func18, Try.ntmps18
  go_wp2
  go_quiet (fail)
  go_wp2
  go_ret
  exact ⟨rfl, _, rfl⟩

theorem modc {a j m : Nat} (ha : a < m) (hj : j ≤ m) : (a + j) % m = if a + j < m then a + j else a + j - m := by
  split
  · next h => exact Nat.mod_eq_of_lt h
  · next h =>
    rw [Nat.mod_eq_sub_mod (by omega)]
    exact Nat.mod_eq_of_lt (by omega)

/-- Two blocks alone are changed. -/
structure Only (b r : Nat) (w w' : World) : Prop where
  os : w'.os = w.os
  tape : w'.tape = w.tape
  output : w'.output = w.output
  size : w'.heap.size = w.heap.size
  far : ∀ i, i ≠ b → i ≠ r → w'.heap[i]? = w.heap[i]?

theorem Only.below {b r B : Nat} {w w' : World} (h : Only b r w w') (hb : B ≤ b) (hr : B ≤ r) : Below B w w' :=
  ⟨h.os, h.tape, h.output, by rw [h.size]; omega, fun i hi => h.far i (by omega) (by omega)⟩

theorem put_full (b r m a : Nat) (L : List Int) (x : Int) (w : World) (H : QAt w b r m a L) (hf : L.length = m) :
    Calls Try.prog 16 #[.pointer (some ⟨b, 0, none⟩), .int .i64 x] w fun e w' => e = .returned (.int .i64 8) ∧ ∃ k, w' = w.drewN k := by
  have HF := Lib.hid (full_any b r m a L w H)
  rw [show decide (L.length = m) = true by simp [hf]] at HF
  clear H
  go_enter Try.func16, Try.ntmps16
  go_wp2_with (go_at_call 18; refine HF.out.mono ?_; rintro e w' ⟨rfl, k, rfl⟩)
  go_ret
  exact ⟨rfl, _, rfl⟩

theorem put_q (b r m a : Nat) (L : List Int) (x : Int) (w wc : World) (cs : Array Value) (p : Nat) (H : QAt w b r m a L) (hf : L.length < m)
    (hr : w.heap[r]? = some (.cells cs 3 (0, 0))) (hs : cs.size = m) (hL : ∀ j, j < L.length → cs[(a + j) % m]? = some (.int .i64 (L.getD j 0))) (hi : ∀ i, i < m → ∃ x, cs[i]? = some (.int .i64 x))
    (hp : (a + L.length) % m = p) (hO : Only b r (w.setCell ⟨r, p, none⟩ (.int .i64 x)) wc)
    (gb : wc.heap[b]? = some (.cells #[.slice (some ⟨r, 0, none⟩) m m, .int .i64 a, .int .i64 L.length] 58 (0, 0)))
    (gr : wc.heap[r]? = some (.cells (cs.setIfInBounds p (.int .i64 x)) 3 (0, 0))) :
    QAt (wc.setCell ⟨b, 2, none⟩ (.int .i64 (L.length + 1))) b r m a (L ++ [x]) ∧ Only b r w (wc.setCell ⟨b, 2, none⟩ (.int .i64 (L.length + 1))) := by
  have al := H.al
  have m0 := H.m0
  have pm : p < m := by rw [← hp]; exact Nat.mod_lt _ (by omega)
  refine ⟨⟨H.ne, H.m0, H.m1, H.al, ?_, ?_, ⟨cs.setIfInBounds p (.int .i64 x), ?_, ?_, ?_, ?_⟩⟩, ⟨hO.os, hO.tape, hO.output, ?_, ?_⟩⟩
  · rw [List.length_append]
    simp
    omega
  · rw [Go.heap_setCell_same wc b 2 _ 58 _ gb]
    simp
  · rw [Go.heap_setCell_other _ _ _ _ (Ne.symm H.ne)]
    exact gr
  · rw [Array.size_setIfInBounds]
    exact hs
  · intro j hj
    rw [List.length_append] at hj
    simp at hj
    rw [Array.getElem?_setIfInBounds]
    by_cases h : j = L.length
    · subst h
      rw [hp, if_pos rfl, if_pos (by omega)]
      simp
    · have hne : ¬ p = (a + j) % m := by
        rw [← hp, modc al (by omega), modc al (by omega)]
        split <;> split <;> omega
      rw [if_neg hne, hL j (by omega)]
      simp [List.getElem?_append_left (show j < L.length by omega)]
  · intro i hi'
    rw [Array.getElem?_setIfInBounds]
    split
    · next h => exact ⟨x, by rw [if_pos (by omega)]⟩
    · exact hi i hi'
  · have := hO.size
    simp at this ⊢
    exact this
  · intro i h1 h2
    rw [Go.heap_setCell_other _ _ _ _ (by exact h1), hO.far i h1 h2, Go.heap_setCell_other _ _ _ _ (by exact h2)]

theorem put_more (b r m a : Nat) (L : List Int) (x : Int) (w : World) (H : QAt w b r m a L) (hf : L.length < m) :
    Calls Try.prog 16 #[.pointer (some ⟨b, 0, none⟩), .int .i64 x] w fun e w' => e = .returned (.int .i64 0) ∧ QAt w' b r m a (L ++ [x]) ∧ Only b r w w' := by
  have HF := Lib.hid (full_any b r m a L w H)
  rw [show decide (L.length = m) = false by simp; omega] at HF
  have HH := Lib.hid H
  obtain ⟨cs, hr, hs, hL, hi⟩ := H.hr
  have c0 := cell_of_row w b 0 _ _ _ H.hb
  have c1 := cell_of_row w b 1 _ _ _ H.hb
  have c2 := cell_of_row w b 2 _ _ _ H.hb
  have f0 := frozen_of_row w b 0 _ _ H.hb
  have f1 := frozen_of_row w b 1 _ _ H.hb
  have f2 := frozen_of_row w b 2 _ _ H.hb
  have m1 := H.m1
  have ll := H.ll
  have al := H.al
  have nbr := H.ne
  have nrb := Ne.symm nbr
  have pm : (a + L.length) % m < m := Nat.mod_lt _ (by omega)
  obtain ⟨old, hold⟩ := hi _ pm
  have cr := cell_of_row w r ((a + L.length) % m) _ _ _ hr
  have fr := frozen_of_row w r ((a + L.length) % m) _ _ hr
  rw [hold] at cr
  have HL := Lib.hid hL
  have HI := Lib.hid hi
  clear hL hi
  have hrem : Int.tmod ((a : Int) + L.length) m = (((a + L.length) % m : Nat) : Int) := by
    rw [Int.tmod_eq_emod_of_nonneg (by omega)]
    simp
  have hrem' : ((a : Int) + L.length) % m = (((a + L.length) % m : Nat) : Int) := by simp
  have hm0 : ((m : Int) == 0) = false := by simp; omega
  have hm1 : ¬ (m : Int) = 0 := by omega
  have hmn : ¬ m = 0 := by omega
  have hal : (a : Int) < m := by omega
  have hll : (L.length : Int) ≤ m := by omega
  have hm2 : (m : Int) ≤ 1000 := by omega
  have hs0 : (0 : Int) ≤ (a : Int) + L.length := by omega
  have hw : IntKind.i64.wrap ((a : Int) + L.length) = (a : Int) + L.length := by rw [IntKind.wrap_i64]; omega
  have hw1 : IntKind.i64.wrap ((L.length : Int) + 1) = (L.length : Int) + 1 := by rw [IntKind.wrap_i64]; omega
  generalize hp : (a + L.length) % m = p at *
  have hp0 : (0 : Int) ≤ (p : Int) := by omega
  have hp1 : (p : Int) < (m : Int) := by omega
  have hp2 : IntKind.i64.wrap (p : Int) = p := by rw [IntKind.wrap_i64]; omega
  have HP := Lib.hid hp
  clear hp
  simp at c0 c1 c2
  clear H
  go_enter Try.func16, Try.ntmps16
  go_upto_region 3 with (go_at_call 18; refine HF.out.mono ?_; rintro e w' ⟨rfl, k, rfl⟩)
  go_cut [] (fun wx => Only b r (w.setCell ⟨r, p, none⟩ (.int .i64 x)) wx ∧ wx.heap[b]? = (w.setCell ⟨r, p, none⟩ (.int .i64 x)).heap[b]? ∧ wx.heap[r]? = (w.setCell ⟨r, p, none⟩ (.int .i64 x)).heap[r]?)
  case first =>
    go_region_held3 (fun w' => w'.cell? ⟨b, 0, none⟩ = some (Value.slice (some ⟨r, 0, none⟩) m m) ∧ w'.cell? ⟨b, 1, none⟩ = some (.int .i64 a) ∧ w'.cell? ⟨b, 2, none⟩ = some (.int .i64 L.length) ∧ (∃ u, w'.cell? ⟨r, p, none⟩ = some (.int .i64 u)) ∧ w'.frozen? ⟨r, p, none⟩ = false) (first | (go_keep; done) | (refine ⟨(World.cell?_setCell_far _ _ _ _ nrb).trans c0, (World.cell?_setCell_far _ _ _ _ nrb).trans c1, (World.cell?_setCell_far _ _ _ _ nrb).trans c2, ⟨x, Go.World.cell?_setCell_same _ _ _ (u := .int .i64 old) cr⟩, ?_⟩; go_simp; done)) (fail)
    all_goals (go_wp2_with fail; go_meet; exact ⟨⟨rfl, rfl, rfl, rfl, fun _ _ _ => rfl⟩, rfl, rfl⟩)
  case rest =>
    obtain ⟨hO, hxb, hxr⟩ := hcut
    have gb : wc.heap[b]? = some (.cells #[.slice (some ⟨r, 0, none⟩) m m, .int .i64 a, .int .i64 L.length] 58 (0, 0)) := by
      rw [hxb, Go.heap_setCell_other _ _ _ _ nbr]
      exact HH.out.hb
    have gr : wc.heap[r]? = some (.cells (cs.setIfInBounds p (.int .i64 x)) 3 (0, 0)) := by
      rw [hxr]
      exact Go.heap_setCell_same w r p cs 3 _ hr
    have HO := Lib.hid (put_q b r m a L x w wc cs p HH.out hf hr hs HL.out HI.out HP.out hO gb gr)
    have d2 := cell_of_row wc b 2 _ _ _ gb
    have e2 := frozen_of_row wc b 2 _ _ gb
    simp at d2
    clear hxb hxr hO gb gr c0 c1 c2 cr fr hr f0 f1 f2
    go_wp2
    go_ret
    exact ⟨rfl, HO.out⟩

theorem len_any (b r m a : Nat) (L : List Int) (w : World) (H : QAt w b r m a L) :
    Calls Try.prog 17 #[.pointer (some ⟨b, 0, none⟩)] w fun e w' => e = .returned (.int .i64 L.length) ∧ w = w' := by
  have c2 := cell_of_row w b 2 _ _ _ H.hb
  simp at c2
  clear H
  go_enter Try.func17, Try.ntmps17
  go_wp2
  go_ret
  exact ⟨rfl, rfl⟩

theorem first_none (b r m a : Nat) (w : World) (H : QAt w b r m a []) :
    Calls Try.prog 25 #[.pointer (some ⟨b, 0, none⟩)] w fun e w' => e = .returned (.tuple #[.int .i64 0, .bool false]) ∧ w = w' := by
  have c2 := cell_of_row w b 2 _ _ _ H.hb
  simp at c2
  clear H
  go_enter Try.func25, Try.ntmps25
  go_wp2
  go_ret2
  exact ⟨rfl, rfl⟩

theorem first_some (b r m a : Nat) (y : Int) (ys : List Int) (w : World) (H : QAt w b r m a (y :: ys)) :
    Calls Try.prog 25 #[.pointer (some ⟨b, 0, none⟩)] w fun e w' => e = .returned (.tuple #[.int .i64 y, .bool true]) ∧ ∃ k, w' = w.drewN k := by
  obtain ⟨cs, hr, hs, hL, hi⟩ := H.hr
  have c0 := cell_of_row w b 0 _ _ _ H.hb
  have c1 := cell_of_row w b 1 _ _ _ H.hb
  have c2 := cell_of_row w b 2 _ _ _ H.hb
  have m1 := H.m1
  have al := H.al
  have ll := H.ll
  have cr := cell_of_row w r a _ _ _ hr
  have h0 := hL 0 (by simp)
  rw [Nat.add_zero, Nat.mod_eq_of_lt al] at h0
  rw [h0] at cr
  have hl : (((y :: ys).length : Int) == 0) = false := by simp; omega
  have hl' : ¬ ((y :: ys).length : Int) = 0 := by simp; omega
  have hal : (a : Int) < m := by omega
  generalize hn : (y :: ys).length = n at *
  simp at c0 c1 c2 cr
  clear H h0 hi hL
  go_enter Try.func25, Try.ntmps25
  go_wp2
  go_quiet (fail)
  go_wp2
  go_ret2
  exact ⟨rfl, _, rfl⟩

theorem take_none (b r m a : Nat) (w : World) (H : QAt w b r m a []) :
    Calls Try.prog 21 #[.pointer (some ⟨b, 0, none⟩)] w fun e w' => e = .returned (.tuple #[.int .i64 0, .bool false]) ∧ w = w' := by
  have HF := Lib.hid (first_none b r m a w H)
  clear H
  go_enter Try.func21, Try.ntmps21
  go_wp2_with (go_at_call 25; refine HF.out.mono ?_; rintro e w' ⟨rfl, rfl⟩)
  go_ret2
  exact ⟨rfl, rfl⟩

theorem take_q (b r m a : Nat) (y : Int) (ys : List Int) (w wo wc : World) (cs : Array Value) (p : Nat) (H : QAt w b r m a (y :: ys))
    (hr : w.heap[r]? = some (.cells cs 3 (0, 0))) (hs : cs.size = m) (hL : ∀ j, j < (y :: ys).length → cs[(a + j) % m]? = some (.int .i64 ((y :: ys).getD j 0))) (hi : ∀ i, i < m → ∃ x, cs[i]? = some (.int .i64 x))
    (hp : (a + 1) % m = p) (hO : Only b r (w.setCell ⟨r, a, none⟩ (.int .i64 0)) wo) (hO' : Only b r (wo.setCell ⟨b, 1, none⟩ (.int .i64 p)) wc)
    (gb : wc.heap[b]? = some (.cells #[.slice (some ⟨r, 0, none⟩) m m, .int .i64 p, .int .i64 (y :: ys).length] 58 (0, 0)))
    (gr : wc.heap[r]? = some (.cells (cs.setIfInBounds a (.int .i64 0)) 3 (0, 0))) :
    QAt (wc.setCell ⟨b, 2, none⟩ (.int .i64 ys.length)) b r m p ys ∧ Only b r w (wc.setCell ⟨b, 2, none⟩ (.int .i64 ys.length)) := by
  have al := H.al
  have m0 := H.m0
  have ll := H.ll
  simp at ll
  have pm : p < m := by rw [← hp]; exact Nat.mod_lt _ (by omega)
  refine ⟨⟨H.ne, H.m0, H.m1, pm, by omega, ?_, ⟨cs.setIfInBounds a (.int .i64 0), ?_, ?_, ?_, ?_⟩⟩, ⟨?_, ?_, ?_, ?_, ?_⟩⟩
  · rw [Go.heap_setCell_same wc b 2 _ 58 _ gb]
    simp
  · rw [Go.heap_setCell_other _ _ _ _ (Ne.symm H.ne)]
    exact gr
  · rw [Array.size_setIfInBounds]
    exact hs
  · intro j hj
    have h1 := hL (j + 1) (by simp; omega)
    have e : (p + j) % m = (a + (j + 1)) % m := by
      rw [← hp, Nat.mod_add_mod]
      congr 1
      omega
    have hne : ¬ a = (a + (j + 1)) % m := by
      rw [modc al (by omega)]
      split <;> omega
    rw [Array.getElem?_setIfInBounds, e, if_neg hne, h1]
    simp
  · intro i hi'
    rw [Array.getElem?_setIfInBounds]
    split
    · next h => exact ⟨0, by rw [if_pos (by omega)]⟩
    · exact hi i hi'
  · exact hO'.os.trans hO.os
  · exact hO'.tape.trans hO.tape
  · exact hO'.output.trans hO.output
  · have h1 := hO.size
    have h2 := hO'.size
    simp at h1 h2 ⊢
    omega
  · intro i h1 h2
    rw [Go.heap_setCell_other _ _ _ _ (by exact h1), hO'.far i h1 h2, Go.heap_setCell_other _ _ _ _ (by exact h1), hO.far i h1 h2, Go.heap_setCell_other _ _ _ _ (by exact h2)]

theorem take_some (b r m a : Nat) (y : Int) (ys : List Int) (w : World) (H : QAt w b r m a (y :: ys)) :
    Calls Try.prog 21 #[.pointer (some ⟨b, 0, none⟩)] w fun e w' => e = .returned (.tuple #[.int .i64 y, .bool true]) ∧ QAt w' b r m ((a + 1) % m) ys ∧ Only b r w w' := by
  have HF := Lib.hid (first_some b r m a y ys w H)
  have HH := Lib.hid H
  obtain ⟨cs, hr, hs, hL, hi⟩ := H.hr
  have c0 := cell_of_row w b 0 _ _ _ H.hb
  have c1 := cell_of_row w b 1 _ _ _ H.hb
  have c2 := cell_of_row w b 2 _ _ _ H.hb
  have m1 := H.m1
  have al := H.al
  have ll := H.ll
  have nbr := H.ne
  have nrb := Ne.symm nbr
  have cr := cell_of_row w r a _ _ _ hr
  have fr := frozen_of_row w r a _ _ hr
  have h0 := hL 0 (by simp)
  rw [Nat.add_zero, Nat.mod_eq_of_lt al] at h0
  rw [h0] at cr
  simp only [List.getD_cons_zero] at cr
  have hal : (a : Int) < m := by omega
  have hm2 : (m : Int) ≤ 1000 := by omega
  have ha1 : IntKind.i64.wrap ((a : Int) + 1) = (a : Int) + 1 := by rw [IntKind.wrap_i64]; omega
  have ha2 : (a : Int) + 1 ≤ m := by omega
  have ha3 : ((a : Int) + 1).toNat = a + 1 := by omega
  have ha4 : (0 : Int) ≤ (a : Int) := by omega
  have ha5 : (a : Int) ≤ (a : Int) + 1 := by omega
  have ha6 : a + 1 ≤ m := by omega
  have ha7 : a ≤ m := by omega
  have ha8 : (0 : Int) ≤ (a : Int) + 1 := by omega
  have ha9 : (a : Int) ≤ m := by omega
  have HL := Lib.hid hL
  have HI := Lib.hid hi
  have hj1 : ∀ i, i < 1 → (w.cell? ⟨r, a + i, none⟩).isSome = true := by
    intro i hi
    rw [show i = 0 by omega, Nat.add_zero, cr]
    rfl
  have hj2 : ∀ i, i < 1 → w.frozen? ⟨r, a + i, none⟩ = false := by
    intro i hi
    rw [show i = 0 by omega, Nat.add_zero, fr]
  have hclr : ∀ j, Sem.run Try.prog (Builtin.clear_ #[23] 0 #[.slice (some ⟨r, a, none⟩) 1 (m - a)]) (w.drewN j) = .ok (.tuple #[]) ((w.drewN j).setCell ⟨r, a, none⟩ (.int .i64 0)) := fun j =>
    Lib.run_clear_slice (P := Try.prog) (w.drewN j) 23 3 0 (.int .i64 0) rfl (fun _ => rfl) rfl rfl r a 1 (m - a) (by omega) hj1 hj2
  clear hj1 hj2
  simp at c0 c1 c2
  clear H h0 hi hL
  go_enter Try.func21, Try.ntmps21
  go_upto_region 3 with (go_at_call 25; refine HF.out.mono ?_; rintro e w' ⟨rfl, k, rfl⟩)
  go_cut [] (fun wx => Only b r (w.setCell ⟨r, a, none⟩ (.int .i64 0)) wx ∧ wx.heap[b]? = (w.setCell ⟨r, a, none⟩ (.int .i64 0)).heap[b]? ∧ wx.heap[r]? = (w.setCell ⟨r, a, none⟩ (.int .i64 0)).heap[r]?)
  case first =>
    go_region_held3 (fun w' => w'.cell? ⟨b, 0, none⟩ = some (Value.slice (some ⟨r, 0, none⟩) m m) ∧ w'.cell? ⟨b, 1, none⟩ = some (.int .i64 a) ∧ w'.cell? ⟨b, 2, none⟩ = some (.int .i64 (ys.length + 1)) ∧ (∃ u, w'.cell? ⟨r, a, none⟩ = some (.int .i64 u)) ∧ w'.frozen? ⟨r, a, none⟩ = false) (first | (go_keep; done) | (refine ⟨(World.cell?_setCell_far _ _ _ _ nrb).trans c0, (World.cell?_setCell_far _ _ _ _ nrb).trans c1, (World.cell?_setCell_far _ _ _ _ nrb).trans c2, ⟨0, Go.World.cell?_setCell_same _ _ _ (u := .int .i64 y) cr⟩, ?_⟩; go_simp; done)) (fail)
    all_goals (go_wp2_with fail; go_meet; exact ⟨⟨rfl, rfl, rfl, rfl, fun _ _ _ => rfl⟩, rfl, rfl⟩)
  case rest =>
    obtain ⟨hO, hxb, hxr⟩ := hcut
    obtain ⟨wo, rfl⟩ : ∃ wo : World, wo = wc := ⟨_, rfl⟩
    have gb : wo.heap[b]? = some (.cells #[.slice (some ⟨r, 0, none⟩) m m, .int .i64 a, .int .i64 (y :: ys).length] 58 (0, 0)) := by
      rw [hxb, Go.heap_setCell_other _ _ _ _ nbr]
      exact HH.out.hb
    have gr : wo.heap[r]? = some (.cells (cs.setIfInBounds a (.int .i64 0)) 3 (0, 0)) := by
      rw [hxr]
      exact Go.heap_setCell_same w r a cs 3 _ hr
    have HO := Lib.hid hO
    clear hxb hxr hO c0 c1 c2 cr fr hclr HF
    have c0 := cell_of_row wo b 0 _ _ _ gb
    have c1 := cell_of_row wo b 1 _ _ _ gb
    have c2 := cell_of_row wo b 2 _ _ _ gb
    have f1 := frozen_of_row wo b 1 _ _ gb
    have f2 := frozen_of_row wo b 2 _ _ gb
    have hrem : Int.tmod ((a : Int) + 1) m = (((a + 1) % m : Nat) : Int) := by
      rw [Int.tmod_eq_emod_of_nonneg (by omega)]
      simp
    have hrem' : ((a : Int) + 1) % m = (((a + 1) % m : Nat) : Int) := by simp
    have hm0 : ((m : Int) == 0) = false := by simp; omega
    have hm1 : ¬ (m : Int) = 0 := by omega
    have hmn : ¬ m = 0 := by omega
    have pm : (a + 1) % m < m := Nat.mod_lt _ (by omega)
    generalize hp : (a + 1) % m = p at *
    have hp0 : (0 : Int) ≤ (p : Int) := by omega
    have hp1 : (p : Int) < (m : Int) := by omega
    have hp2 : IntKind.i64.wrap (p : Int) = p := by rw [IntKind.wrap_i64]; omega
    have HGB := Lib.hid gb
    have HGR := Lib.hid gr
    clear gb gr
    simp at c0 c1 c2
    have HQ := Lib.hid (fun wc hO gb gr => take_q b r m a y ys w wo wc cs p HH.out hr hs HL.out HI.out hp HO.out hO gb gr)
    have hw1 : IntKind.i64.wrap ((ys.length : Int) + 1 - 1) = (ys.length : Int) := by rw [IntKind.wrap_i64]; simp at ll; omega
    have hyl : (ys.length : Int) ≤ 1000 := by simp at ll; omega
    go_upto_region 4 with (fail)
    go_still_tail 14, (by kernel_rfl)
    change wpList _ _ _ _ _ wo.drew
    have HC : Hid (wo.drew.heap = wo.heap) := rfl
    have HW : Hid (Only b r (wo.setCell ⟨b, 1, none⟩ (.int .i64 p)) (wo.drew.setCell ⟨b, 1, none⟩ (.int .i64 p))) := ⟨rfl, rfl, rfl, rfl, fun _ _ _ => rfl⟩
    replace c0 : wo.drew.cell? ⟨b, 0, none⟩ = _ := c0
    replace c1 : wo.drew.cell? ⟨b, 1, none⟩ = _ := c1
    replace c2 : wo.drew.cell? ⟨b, 2, none⟩ = _ := c2
    replace f1 : wo.drew.frozen? ⟨b, 1, none⟩ = _ := f1
    replace f2 : wo.drew.frozen? ⟨b, 2, none⟩ = _ := f2
    generalize wo.drew = w2 at *
    have gb : (w2.setCell ⟨b, 1, none⟩ (.int .i64 p)).heap[b]? = some (.cells #[.slice (some ⟨r, 0, none⟩) m m, .int .i64 p, .int .i64 (y :: ys).length] 58 (0, 0)) := by
      rw [Go.heap_setCell_same w2 b 1 _ 58 _ (by rw [HC.out]; exact HGB.out)]
      simp
    have gr : (w2.setCell ⟨b, 1, none⟩ (.int .i64 p)).heap[r]? = some (.cells (cs.setIfInBounds a (.int .i64 0)) 3 (0, 0)) := by
      rw [Go.heap_setCell_other _ _ _ _ nrb, HC.out]
      exact HGR.out
    have HQ := Lib.hid (HQ.out _ HW.out gb gr)
    clear gb gr
    go_wp2
    go_ret2
    exact ⟨rfl, by rw [hp]; exact HQ.out⟩

end Go.Proofs.Ytjhecdmgblicoaa
