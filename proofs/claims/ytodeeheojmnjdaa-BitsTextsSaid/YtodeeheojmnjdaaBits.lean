/- bits.Stream: what each method comes to, at a stream whose struct lies in block b. -/
import Derived.Test.YtodeeheojmnjdaaBase
import Derived.Laws.CopyOwn
import Derived.Deep.OwnRows
import Derived.ChangeSlices
import Derived.ChangeShapes
import Derived.Lib.SmallJoins
import Derived.Deep.AppendLies
namespace Go.Proofs.Ytodeeheojmnjdaa
open Go.RowKit
set_option linter.unusedVariables false

def bools (xs : List Bool) : List Value := xs.map .bool
theorem bools_length (xs : List Bool) : (bools xs).length = xs.length := by simp [bools]
theorem bools_append (xs ys : List Bool) : bools (xs ++ ys) = bools xs ++ bools ys := by simp [bools]
theorem bools_one (L : List Bool) : ∀ u ∈ bools L, u.oneCell' = true := by
  intro u hu
  simp only [bools, List.mem_map] at hu
  obtain ⟨x, _, rfl⟩ := hu
  rfl

/-- A []bool whose cells lie in a block from B on. -/
def BB (W : World) (B : Nat) (v : Value) (l : List Bool) : Prop :=
  ∃ A c, v = .slice A l.length c ∧ l.length ≤ c ∧ c ≤ 9223372036854775807 ∧ (0 < c → ∃ b o, A = some ⟨b, o, none⟩ ∧ B ≤ b) ∧ ∀ b o, A = some ⟨b, o, none⟩ → ∀ j, j < l.length → W.cell? ⟨b, o + j, none⟩ = some (.bool (l.getD j false))
theorem BB.nil (W : World) (B : Nat) : BB W B (.slice none 0 0) [] := ⟨none, 0, rfl, by simp, by simp, by simp, by simp⟩
theorem BB.keep {W W' : World} {B : Nat} {v : Value} {l : List Bool} (h : BB W B v l) (hk : ∀ b, B ≤ b → b < W.heap.size → W'.heap[b]? = W.heap[b]?) : BB W' B v l := by
  obtain ⟨A, c, rfl, h1, h2, h3, h4⟩ := h
  refine ⟨A, c, rfl, h1, h2, h3, fun b o hA j hj => ?_⟩
  obtain ⟨b', o', hA', hb⟩ := h3 (by omega)
  rw [hA] at hA'
  injection hA' with hA'
  injection hA' with e1 e2
  subst e1
  have hc := h4 b o hA j hj
  exact (World.cell?_of_block (a := ⟨b, o + j, none⟩) (hk b hb (cell_lt hc))).trans hc
theorem BB.below {W W' : World} {B : Nat} {v : Value} {l : List Bool} (h : BB W B v l) (hb : Below W.heap.size W W') : BB W' B v l := h.keep fun b _ hlt => hb.block b hlt
theorem BB.mono {W : World} {B B' : Nat} {v : Value} {l : List Bool} (h : BB W B v l) (hb : B' ≤ B) : BB W B' v l := by
  obtain ⟨A, c, rfl, h1, h2, h3, h4⟩ := h
  exact ⟨A, c, rfl, h1, h2, fun h0 => by obtain ⟨b, o, e, hb'⟩ := h3 h0; exact ⟨b, o, e, by omega⟩, h4⟩
theorem BB.shape {W : World} {B : Nat} {v : Value} {l : List Bool} (h : BB W B v l) : ∃ A c, v = .slice A l.length c ∧ l.length ≤ c ∧ c ≤ 9223372036854775807 := by
  obtain ⟨A, c, rfl, h1, h2, _⟩ := h
  exact ⟨A, c, rfl, h1, h2⟩
theorem BB.src {W : World} {B n c : Nat} {A : Option Addr} {l : List Bool} (h : BB W B (.slice A n c) l) (h0 : 0 < (bools l).length) : ∃ ad, A = some ad ∧ ∀ j v, (bools l)[j]? = some v → W.cell? (ad.add j) = some v := by
  obtain ⟨A', c', e, h1, h2, h3, h4⟩ := h
  injection e with e1 e2 e3
  subst e1 e2 e3
  rw [bools_length] at h0
  obtain ⟨b, o, rfl, _⟩ := h3 (by omega)
  refine ⟨_, rfl, fun j v hj => ?_⟩
  simp only [bools, List.getElem?_map, Option.map_eq_some_iff] at hj
  obtain ⟨q, hq, rfl⟩ := hj
  obtain ⟨hlt, rfl⟩ := List.getElem?_eq_some_iff.1 hq
  have := h4 b o rfl j hlt
  rw [show (⟨b, o, none⟩ : Addr).add j = ⟨b, o + j, none⟩ by unfold Addr.add; split <;> simp_all]
  rw [this]
  simp [List.getD_eq_getElem?_getD, hlt]
theorem BB.at {W : World} {B n c : Nat} {A : Option Addr} {l : List Bool} (h : BB W B (.slice A n c) l) (h0 : 0 < l.length) : ∃ b o, A = some ⟨b, o, none⟩ ∧ B ≤ b ∧ ∀ j, j < l.length → W.cell? ⟨b, o + j, none⟩ = some (.bool (l.getD j false)) := by
  obtain ⟨A', c', e, h1, h2, h3, h4⟩ := h
  injection e with e1 e2 e3
  subst e1 e2 e3
  obtain ⟨b, o, rfl, hb⟩ := h3 (by omega)
  exact ⟨b, o, rfl, hb, h4 b o rfl⟩
theorem BB.take {W : World} {B n c k : Nat} {A : Option Addr} {l : List Bool} (h : BB W B (.slice A n c) l) (hk : k ≤ l.length) : BB W B (.slice A k c) (l.take k) := by
  obtain ⟨A', c', e, h1, h2, h3, h4⟩ := h
  injection e with e1 e2 e3
  subst e1 e2 e3
  refine ⟨A, c, by simp [Nat.min_eq_left hk], by simp; omega, h2, h3, fun b o hA j hj => ?_⟩
  simp at hj
  rw [h4 b o hA j (by omega)]
  have : j < k := by omega
  simp [List.getD_eq_getElem?_getD, this]
theorem BB.ptr {W : World} {B n c : Nat} {A : Option Addr} {l : List Bool} (h : BB W B (.slice A n c) l) (h0 : 0 < c) : ∃ b o, A = some ⟨b, o, none⟩ ∧ B ≤ b := by
  obtain ⟨A', c', e, h1, h2, h3, h4⟩ := h
  injection e with e1 e2 e3
  subst e1 e2 e3
  exact h3 h0
theorem BB.drop {W : World} {B b o n c k : Nat} {l : List Bool} (h : BB W B (.slice (some ⟨b, o, none⟩) n c) l) (hk : k ≤ l.length) : BB W B (.slice (some ⟨b, o + k, none⟩) (l.length - k) (c - k)) (l.drop k) := by
  obtain ⟨A', c', e, h1, h2, h3, h4⟩ := h
  injection e with e1 e2 e3
  subst e1 e2 e3
  refine ⟨some ⟨b, o + k, none⟩, c - k, by simp, by simp; omega, by omega, fun h0 => ?_, fun b' o' hA j hj => ?_⟩
  · obtain ⟨b', o', e, hb⟩ := h3 (by omega)
    injection e with e
    injection e with e1 e2
    subst e1 e2
    exact ⟨b, _, rfl, hb⟩
  · injection hA with e
    injection e with e1 e2
    subst e1 e2
    simp at hj
    have := h4 b o rfl (k + j) (by omega)
    rw [show o + (k + j) = o + k + j by omega] at this
    rw [this]
    simp [List.getD_eq_getElem?_getD]
theorem own_BB {w : World} {base n : Nat} {v : Value} {xs : List Bool} (h : w.ownsRow base 4 1 v n (bools xs)) : BB w base v xs := by
  have hl : xs.length = n := by have := h.1; simp [bools] at this; exact this
  subst hl
  have hcell := fun g hg => h.cells (g := g) hg
  rcases h.2 with ⟨rfl, h1⟩ | ⟨g, cap, cur, rfl, hg, hc, h1, h2, _⟩
  · exact ⟨none, 0, by rw [h1], by omega, by omega, fun hp => absurd hp (by omega), by simp⟩
  · refine ⟨_, cap, rfl, h1, by simp only [maxLen] at h2; omega, fun _ => ⟨g, 0, rfl, hg⟩, fun b o e j hj => ?_⟩
    injection e with e
    injection e with e1 e2
    subst e1 e2
    have hc := hcell g rfl j (.bool (xs.getD j false)) (by simp [bools, List.getElem?_eq_getElem hj, List.getD_eq_getElem?_getD])
    rw [add_plain] at hc
    rw [Nat.zero_add]
    exact hc
theorem own_whole {w : World} {base g : Nat} {xs : List Bool} (hg : w.heap[g]? = some (.cells (bools xs).toArray 4 (0, 0))) (hb : base ≤ g) (hm : xs.length ≤ 9223372036854775807) : w.ownsRow base 4 1 (.slice (some ⟨g, 0, none⟩) xs.length xs.length) xs.length (bools xs) :=
  ⟨by simp [bools], .inr ⟨g, xs.length, _, rfl, hb, hg, Nat.le_refl _, by simp only [maxLen]; omega, by simp [bools], by simp [bools, List.take_of_length_le]⟩⟩
theorem own_keep {w w' : World} {base : Nat} {e : TypeId} {size n : Nat} {v : Value} {xs : List Value} (h : w.ownsRow base e size v n xs) (hk : ∀ k, base ≤ k → v.ownBlock = some k → w'.heap[k]? = w.heap[k]?) : w'.ownsRow base e size v n xs := by
  obtain ⟨h1, h2⟩ := h
  refine ⟨h1, ?_⟩
  rcases h2 with h2 | ⟨g, cap, cur, hv, hg, hh, r⟩
  · exact .inl h2
  · exact .inr ⟨g, cap, cur, hv, hg, (hk g hg (by rw [hv]; rfl)).trans hh, r⟩
theorem made_false (n : Nat) : madeCells #[.bool false] n = (bools (List.replicate n false)).toArray := by
  apply Array.ext
  · simp [madeCells, bools]
  · intro i h1 h2
    simp [madeCells, bools, Nat.mod_one]
theorem splice_two (X Y : List Bool) : splice (splice (bools (List.replicate (X.length + Y.length) false)) 0 (bools X)) X.length (bools Y) = bools (X ++ Y) := by
  simp [splice, bools]
theorem splice_one (X : List Bool) : splice (bools (List.replicate X.length false)) 0 (bools X) = bools X := by
  simp [splice, bools]

/-- One block alone of those that stood there is changed. -/
structure Only1 (b : Nat) (w w' : World) : Prop where
  os : w'.os = w.os
  tape : w'.tape = w.tape
  output : w'.output = w.output
  size : w.heap.size ≤ w'.heap.size
  far : ∀ i, i < w.heap.size → i ≠ b → w'.heap[i]? = w.heap[i]?
theorem Only1.below {b B : Nat} {w w' : World} (h : Only1 b w w') (hb : B ≤ b) (hB : B ≤ w.heap.size) : Below B w w' := ⟨h.os, h.tape, h.output, h.size, fun i hi => h.far i (by omega) (by omega)⟩

/-- A stream of the bits L, of which a were told. -/
structure SAt (W : World) (b : Nat) (L : List Bool) (a : Nat) : Prop where
  s : ∃ v, W.heap[b]? = some (.cells #[v, .int .i64 a] 50 (0, 0)) ∧ BB W (b + 1) v L
  al : a ≤ L.length
  ll : L.length ≤ 1000
theorem SAt.blt {W : World} {b a : Nat} {L : List Bool} (h : SAt W b L a) : b < W.heap.size := by
  obtain ⟨v, hv, _⟩ := h.s
  rcases Nat.lt_or_ge b W.heap.size with h | h
  · exact h
  · rw [Array.getElem?_eq_none h] at hv; cases hv
theorem SAt.keep {W W' : World} {b a : Nat} {L : List Bool} (h : SAt W b L a) (hk : ∀ i, b ≤ i → i < W.heap.size → W'.heap[i]? = W.heap[i]?) : SAt W' b L a := by
  obtain ⟨v, hv, hb⟩ := h.s
  exact ⟨⟨v, (hk b (Nat.le_refl _) h.blt).trans hv, hb.keep fun i hi hlt => hk i (by omega) hlt⟩, h.al, h.ll⟩
theorem SAt.below {W W' : World} {b a : Nat} {L : List Bool} (h : SAt W b L a) (hb : Below W.heap.size W W') : SAt W' b L a := h.keep fun i _ hi => hb.block i hi

theorem info4' : (Try.prog.info? 4).map (fun i => (i.zero, i.size, i.bytes)) = some (some (.bool false), 1, 1) := by kernel_rfl
theorem size4 : (Try.prog.info? 4).map (·.size) = some 1 := by kernel_rfl

theorem at_any (b a : Nat) (L : List Bool) (w : World) (H : SAt w b L a) :
    Calls Try.prog 13 #[.pointer (some ⟨b, 0, none⟩)] w fun e w' => e = .returned (.int .i64 a) ∧ w = w' := by
  obtain ⟨v, hv, _⟩ := H.s
  have c1 := cell_of_row w b 1 _ _ _ hv
  simp at c1
  clear H hv
  go_enter Try.func13, Try.ntmps13
  go_wp2
  go_ret
  exact ⟨rfl, rfl⟩

theorem few_any (v : Value) (l : List Bool) (B k : Nat) (w : World) (H : BB w B v l) (hk : k ≤ 1000) :
    Calls Try.prog 9 #[v, .int .i64 k] w fun e w' => ∃ v', e = .returned v' ∧ BB w B v' (l.take k) ∧ w = w' := by
  obtain ⟨A, c, rfl, h1, h2⟩ := H.shape
  obtain ⟨n, hn, hmin⟩ : ∃ n : Nat, n = min l.length k ∧ (if k < l.length then (k : Int) else (l.length : Int)) = (n : Int) := by
    by_cases h : k < l.length
    · exact ⟨k, by omega, by rw [if_pos h]⟩
    · exact ⟨l.length, by omega, by rw [if_neg h]⟩
  have hn0 : (0 : Int) ≤ (n : Int) := by omega
  have hn2 : (n : Int) ≤ (c : Int) := by omega
  have hn3 : n ≤ c := by omega
  have HT : BB w B (.slice A n c) (l.take k) := by
    rw [show l.take k = l.take n by rw [List.take_eq_take_iff]; omega]
    exact H.take (by omega)
  have HTT := Lib.hid HT
  clear HT H hn
  go_enter Try.func9, Try.ntmps9
  go_wp2
  go_ret
  exact ⟨_, rfl, HTT.out, rfl⟩

theorem next_none (b : Nat) (L : List Bool) (w : World) (H : SAt w b L L.length) :
    Calls Try.prog 12 #[.pointer (some ⟨b, 0, none⟩)] w fun e w' => e = .returned (.bool false) ∧ ∃ k, w' = w.drewN k := by
  obtain ⟨v, hv, hb⟩ := H.s
  obtain ⟨A, c, rfl, h1, h2⟩ := hb.shape
  have c0 := cell_of_row w b 0 _ _ _ hv
  have c1 := cell_of_row w b 1 _ _ _ hv
  simp at c0 c1
  have hl0 : (0 : Int) ≤ (L.length : Int) := by omega
  clear H hv hb
  go_enter Try.func12, Try.ntmps12
  go_wp2
  go_quiet (fail)
  go_wp2
  go_ret
  exact ⟨rfl, _, rfl⟩

theorem next_some (b a : Nat) (L : List Bool) (w : World) (H : SAt w b L a) (ha : a < L.length) :
    Calls Try.prog 12 #[.pointer (some ⟨b, 0, none⟩)] w fun e w' => e = .returned (.bool (L.getD a false)) ∧ SAt w' b L (a + 1) ∧ Only1 b w w' := by
  have ll := H.ll
  obtain ⟨v, hv, hb⟩ := H.s
  obtain ⟨A, c, rfl, h1, h2⟩ := hb.shape
  obtain ⟨ab, ao, rfl, hab, hcell⟩ := hb.at (by omega)
  have d0 := hcell a ha
  have c0 := cell_of_row w b 0 _ _ _ hv
  have c1 := cell_of_row w b 1 _ _ _ hv
  have f1 := frozen_of_row w b 1 _ _ hv
  simp at c0 c1
  have hai : ¬ (L.length : Int) ≤ (a : Int) := by omega
  have hai2 : (a : Int) < (L.length : Int) := by omega
  have hll : (L.length : Int) ≤ 1000 := by omega
  have hw1 : IntKind.i64.wrap ((a : Int) + 1) = (a : Int) + 1 := by rw [IntKind.wrap_i64]; omega
  have hw2 : IntKind.i64.wrap ((a : Int) + 1 - 1) = (a : Int) := by rw [IntKind.wrap_i64]; omega
  have hw3 : (a : Int) + 1 - 1 = (a : Int) := by omega
  have hnb : ab ≠ b := by omega
  have HS := Lib.hid (show SAt (w.setCell ⟨b, 1, none⟩ (.int .i64 ((a : Int) + 1))) b L (a + 1) ∧ Only1 b w (w.setCell ⟨b, 1, none⟩ (.int .i64 ((a : Int) + 1))) by
    have k1 := Go.heap_setCell_same w b 1 _ 50 (.int .i64 ((a : Int) + 1)) hv
    refine ⟨⟨⟨_, by rw [k1]; simp, hb.keep fun i hi _ => Go.heap_setCell_other _ _ _ _ (by show i ≠ b; omega)⟩, by omega, ll⟩, ⟨rfl, rfl, rfl, by simp, fun i _ hi => Go.heap_setCell_other _ _ _ _ (by exact hi)⟩⟩)
  clear H hv hb hcell
  generalize L.getD a false = x at *
  go_enter Try.func12, Try.ntmps12
  go_wp2
  go_quiet (fail)
  go_wp2
  go_quiet (fail)
  go_wp2
  go_ret
  exact ⟨rfl, HS.out.1.keep fun _ _ _ => rfl, ⟨rfl, rfl, rfl, by simp, fun i h1 h2 => HS.out.2.far i h1 h2⟩⟩

theorem left_more (b a c : Nat) (ab ao : Nat) (L : List Bool) (w : World) (hv : w.heap[b]? = some (.cells #[.slice (some ⟨ab, ao, none⟩) L.length c, .int .i64 a] 50 (0, 0))) (hb : BB w (b + 1) (.slice (some ⟨ab, ao, none⟩) L.length c) L) (al : a ≤ L.length) (ll : L.length ≤ 1000) (hca : a < c) :
    Calls Try.prog 17 #[.pointer (some ⟨b, 0, none⟩)] w fun e w' => ∃ v, e = .returned v ∧ w'.ownsRow w.heap.size 4 1 v (L.length - a) (bools (L.drop a)) ∧ Below w.heap.size w w' := by
  have hbl : b < w.heap.size := (Array.getElem?_eq_some_iff.1 hv).1
  have hbn : b ≠ w.heap.size := by omega
  obtain ⟨_, _, _, hlc, hcm⟩ := hb.shape
  rename_i hc0 _ he
  injection he with e1 _ e2
  subst e1 e2
  have hca1 : ¬ c - a = 0 := by omega
  have hca2 : ¬ c = a := by omega
  have HV := Lib.hid hv
  have HBB := Lib.hid hb
  have c0 := cell_of_row w b 0 _ _ _ hv
  have c1 := cell_of_row w b 1 _ _ _ hv
  simp at c0 c1
  have hal : (a : Int) ≤ (L.length : Int) := by omega
  have hal2 : (a : Int) ≤ (c : Int) := by omega
  have ha0 : (0 : Int) ≤ (a : Int) := by omega
  have hll : (L.length : Int) ≤ 1000 := by omega
  obtain ⟨n, hn⟩ : ∃ n : Nat, n = L.length - a := ⟨_, rfl⟩
  have hni : IntKind.i64.wrap ((L.length : Int) - (a : Int)) = (n : Int) := by rw [IntKind.wrap_i64]; omega
  have hni2 : (L.length : Int) - (a : Int) = (n : Int) := by omega
  have hnw : IntKind.i64.wrap (n : Int) = (n : Int) := by rw [IntKind.wrap_i64]; omega
  have hmk : ∀ w : World, Sem.run Try.prog (Instr.makeSlice 22 (.int .i64 (n : Int)) (.int .i64 (n : Int))) w = .ok (.slice (some ⟨w.heap.size, 0, none⟩) n n) (w.alloc (.cells (madeCells #[.bool false] n) 4)) := fun w => run_make_row' 22 4 (.bool false) 1 rfl (by kernel_rfl) rfl .i64 .i64 n (by omega) (by omega) w
  have HN := Lib.hid hn
  clear hv hb hn
  go_enter Try.func17, Try.ntmps17
  go_upto_region 1 with (fail)
  go_still_tail 10, (by kernel_rfl)
  change wpList _ _ _ _ _ w.drew
  go_upto_region 2 with (fail)
  obtain ⟨w1, hw1⟩ : ∃ w1 : World, w1 = (w.alloc (.cells (madeCells #[.bool false] n) 4)).drew := ⟨_, rfl⟩
  have hg1 : w1.heap[w.heap.size]? = some (.cells (bools (List.replicate n false)).toArray 4 (0, 0)) := by
    rw [hw1, ← made_false]
    exact heap_alloc_new w _
  have hb1 : Below w.heap.size w w1 := by rw [hw1]; exact ((Below.refl _ _).alloc (Nat.le_refl _) _).drew
  have hsz1 : w1.heap.size = w.heap.size + 1 := by rw [hw1]; simp
  replace c0 := cell_below hb1 c0
  replace c1 := cell_below hb1 c1
  have HG := Lib.hid hg1
  have HB := Lib.hid hb1
  have HSRC := Lib.hid (HBB.out.below hb1)
  rw [← hw1]
  clear hw1 hg1 hb1
  have HXL := Lib.hid (show (bools (L.drop a)).length = n by simp [bools]; have := HN.out; omega)
  generalize hX : bools (L.drop a) = X at *
  have HX := Lib.hid hX
  clear hX
  have HP := Lib.hid (fun h0 => (HSRC.out.drop al).src (by rw [HX.out]; exact h0))
  rw [HX.out] at HP
  go_region_law (refine step_copy_splice rfl (.tmp 15) (.tmp 24) 22 22 rfl 4 Try.underlying22 size4 _ _ _ _ _ _ rfl rfl w.heap.size 0 (bools (List.replicate n false)) 4 HG.out X (by rw [HXL.out, HN.out]; exact (Nat.min_self _).symm) (fun h0 => ⟨rfl, by obtain ⟨ad, e, h⟩ := HP.out h0; exact ⟨ad, e, h⟩⟩) (by rw [bools_length]; simp; have := HXL.out; omega) (by rw [← HX.out]; exact bools_one _) w.heap.size w (by repeat (first | exact HB.out | apply below_drew)) (Nat.le_refl _) ?_; intro w4 hg4 hb4)
  all_goals
    have HB4 := Lib.hid hb4
    clear hb4
    go_wp2
    refine bodyPost_ret (v := .slice (some ⟨w.heap.size, 0, none⟩) n n) (by simp [results, Try.results17, go_sem]) rfl ⟨_, rfl, ?_, HB4.out⟩
    have h := hg4.out
    have hn : n = (L.drop a).length := by simp; have := HN.out; omega
    rw [← HX.out, hn, splice_one] at h
    have h2 := own_whole (base := w.heap.size) h (Nat.le_refl _) (by simp; omega)
    rw [← hn, HN.out] at h2
    rw [HN.out]
    exact h2

theorem left_end (b a : Nat) (A : Option Addr) (L : List Bool) (w : World) (hv : w.heap[b]? = some (.cells #[.slice A L.length a, .int .i64 a] 50 (0, 0))) (hb : BB w (b + 1) (.slice A L.length a) L) (al : a ≤ L.length) (ll : L.length ≤ 1000) (hca : a = L.length) :
    Calls Try.prog 17 #[.pointer (some ⟨b, 0, none⟩)] w fun e w' => ∃ v, e = .returned v ∧ w'.ownsRow w.heap.size 4 1 v (L.length - a) (bools (L.drop a)) ∧ Below w.heap.size w w' := by
  have hbl : b < w.heap.size := (Array.getElem?_eq_some_iff.1 hv).1
  have hbn : b ≠ w.heap.size := by omega
  obtain ⟨_, _, _, hlc, hcm⟩ := hb.shape
  rename_i hc0 _ he
  injection he with e1 _ e2
  subst e1 e2
  have hca1 : a - a = 0 := by omega
  have HCA := Lib.hid hca
  clear hca
  have HV := Lib.hid hv
  have HBB := Lib.hid hb
  have c0 := cell_of_row w b 0 _ _ _ hv
  have c1 := cell_of_row w b 1 _ _ _ hv
  simp at c0 c1
  have hal : (a : Int) ≤ (L.length : Int) := by omega
  have ha0 : (0 : Int) ≤ (a : Int) := by omega
  have hll : (L.length : Int) ≤ 1000 := by omega
  obtain ⟨n, hn⟩ : ∃ n : Nat, n = L.length - a := ⟨_, rfl⟩
  have hni : IntKind.i64.wrap ((L.length : Int) - (a : Int)) = (n : Int) := by rw [IntKind.wrap_i64]; omega
  have hni2 : (L.length : Int) - (a : Int) = (n : Int) := by omega
  have hnw : IntKind.i64.wrap (n : Int) = (n : Int) := by rw [IntKind.wrap_i64]; omega
  have hmk : ∀ w : World, Sem.run Try.prog (Instr.makeSlice 22 (.int .i64 (n : Int)) (.int .i64 (n : Int))) w = .ok (.slice (some ⟨w.heap.size, 0, none⟩) n n) (w.alloc (.cells (madeCells #[.bool false] n) 4)) := fun w => run_make_row' 22 4 (.bool false) 1 rfl (by kernel_rfl) rfl .i64 .i64 n (by omega) (by omega) w
  have HN := Lib.hid hn
  clear hv hb hn
  go_enter Try.func17, Try.ntmps17
  go_upto_region 1 with (fail)
  go_still_tail 10, (by kernel_rfl)
  change wpList _ _ _ _ _ w.drew
  go_upto_region 2 with (fail)
  obtain ⟨w1, hw1⟩ : ∃ w1 : World, w1 = (w.alloc (.cells (madeCells #[.bool false] n) 4)).drew := ⟨_, rfl⟩
  have hg1 : w1.heap[w.heap.size]? = some (.cells (bools (List.replicate n false)).toArray 4 (0, 0)) := by
    rw [hw1, ← made_false]
    exact heap_alloc_new w _
  have hb1 : Below w.heap.size w w1 := by rw [hw1]; exact ((Below.refl _ _).alloc (Nat.le_refl _) _).drew
  have hsz1 : w1.heap.size = w.heap.size + 1 := by rw [hw1]; simp
  replace c0 := cell_below hb1 c0
  replace c1 := cell_below hb1 c1
  have HG := Lib.hid hg1
  have HB := Lib.hid hb1
  have HSRC := Lib.hid (HBB.out.below hb1)
  rw [← hw1]
  clear hw1 hg1 hb1
  have HXL := Lib.hid (show (bools (L.drop a)).length = n by simp [bools]; have := HN.out; omega)
  generalize hX : bools (L.drop a) = X at *
  have HX := Lib.hid hX
  clear hX
  have HX0 := Lib.hid (show X.length = 0 by rw [HXL.out, HN.out]; have := HCA.out; omega)
  go_region_law (refine step_copy_splice rfl (.tmp 15) (.tmp 24) 22 22 rfl 4 Try.underlying22 size4 _ _ _ _ _ _ rfl rfl w.heap.size 0 (bools (List.replicate n false)) 4 HG.out X (by first | (rw [HX0.out]; exact (Nat.min_zero _).symm) | (rw [HX0.out]; exact (Nat.zero_min _).symm) | (rw [HX0.out, show n = 0 by (have := HN.out; have := HCA.out; omega)]; exact (Nat.min_zero _).symm)) (fun h0 => absurd HX0.out (by omega)) (by rw [bools_length]; simp; have := HXL.out; omega) (by rw [← HX.out]; exact bools_one _) w.heap.size w (by repeat (first | exact HB.out | apply below_drew)) (Nat.le_refl _) ?_; intro w4 hg4 hb4)
  all_goals
    have HB4 := Lib.hid hb4
    clear hb4
    go_wp2
    refine bodyPost_ret (v := .slice (some ⟨w.heap.size, 0, none⟩) n n) (by simp [results, Try.results17, go_sem]) rfl ⟨_, rfl, ?_, HB4.out⟩
    have h := hg4.out
    have hn : n = (L.drop a).length := by simp; have := HN.out; omega
    rw [← HX.out, hn, splice_one] at h
    have h2 := own_whole (base := w.heap.size) h (Nat.le_refl _) (by simp; omega)
    rw [← hn, HN.out] at h2
    rw [HN.out]
    have e0 : L.length - a = 0 := by have := HCA.out; omega
    rw [e0] at h2
    first | exact h2 | (rw [e0]; exact h2)

theorem left_any (b a : Nat) (L : List Bool) (w : World) (H : SAt w b L a) :
    Calls Try.prog 17 #[.pointer (some ⟨b, 0, none⟩)] w fun e w' => ∃ v, e = .returned v ∧ w'.ownsRow w.heap.size 4 1 v (L.length - a) (bools (L.drop a)) ∧ Below w.heap.size w w' := by
  obtain ⟨v, hv, hb⟩ := H.s
  obtain ⟨A, c, rfl, h1, h2⟩ := hb.shape
  have al := H.al
  rcases Nat.lt_or_ge a c with h | h
  · obtain ⟨ab, ao, rfl, _⟩ := hb.ptr (by omega)
    exact left_more b a c ab ao L w hv hb al H.ll h
  · obtain rfl : c = a := by omega
    exact left_end b c A L w hv hb al H.ll (by omega)

theorem add_more (b a : Nat) (L M : List Bool) (bv : Value) (w : World) (H : SAt w b L a) (HM : BB w 0 bv M) (hlm : L.length + M.length ≤ 1000) (hm : 0 < M.length) :
    Calls Try.prog 15 #[.pointer (some ⟨b, 0, none⟩), bv] w fun e w' => e = .returned (.tuple #[]) ∧ SAt w' b (L ++ M) a ∧ Only1 b w w' := by
  have ll := H.ll
  have al := H.al
  have hbl := H.blt
  have hbn : b ≠ w.heap.size := by omega
  obtain ⟨v, hv, hb⟩ := H.s
  obtain ⟨A, c, rfl, h1, h2⟩ := hb.shape
  obtain ⟨A2, c2, rfl, h12, h22⟩ := HM.shape
  have HV := Lib.hid hv
  have HBB := Lib.hid hb
  have HMM := Lib.hid HM
  have c0 := cell_of_row w b 0 _ _ _ hv
  have f0 := frozen_of_row w b 0 _ _ hv
  simp at c0
  have hll : (L.length : Int) ≤ 1000 := by omega
  have hmm : (M.length : Int) ≤ 1000 := by omega
  obtain ⟨n, hn⟩ : ∃ n : Nat, n = L.length + M.length := ⟨_, rfl⟩
  have hni : IntKind.i64.wrap ((L.length : Int) + (M.length : Int)) = (n : Int) := by rw [IntKind.wrap_i64]; omega
  have hni2 : (L.length : Int) + (M.length : Int) = (n : Int) := by omega
  have hnw : IntKind.i64.wrap (n : Int) = (n : Int) := by rw [IntKind.wrap_i64]; omega
  have hln : (L.length : Int) ≤ (n : Int) := by omega
  have hln2 : L.length ≤ n := by omega
  have hl0 : (0 : Int) ≤ (L.length : Int) := by omega
  have hmk : ∀ w : World, Sem.run Try.prog (Instr.makeSlice 22 (.int .i64 (n : Int)) (.int .i64 (n : Int))) w = .ok (.slice (some ⟨w.heap.size, 0, none⟩) n n) (w.alloc (.cells (madeCells #[.bool false] n) 4)) := fun w => run_make_row' 22 4 (.bool false) 1 rfl (by kernel_rfl) rfl .i64 .i64 n (by omega) (by omega) w
  have HN := Lib.hid hn
  have hne1 : ¬ n = L.length := by omega
  have hne2 : ¬ n - L.length = 0 := by omega
  have hm0 : ¬ M.length = 0 := by omega
  obtain ⟨X, hX⟩ : ∃ X, X = bools L := ⟨_, rfl⟩
  obtain ⟨Y, hY⟩ : ∃ Y, Y = bools M := ⟨_, rfl⟩
  have HX := Lib.hid hX
  have HY := Lib.hid hY
  clear H hv hb hn HM hX hY
  go_enter Try.func15, Try.ntmps15
  go_upto_region 1 with (fail)
  obtain ⟨w1, hw1⟩ : ∃ w1 : World, w1 = (w.alloc (.cells (madeCells #[.bool false] n) 4)) := ⟨_, rfl⟩
  have hg1 : w1.heap[w.heap.size]? = some (.cells (bools (List.replicate n false)).toArray 4 (0, 0)) := by
    rw [hw1, ← made_false]
    exact heap_alloc_new w _
  have hb1 : Below w.heap.size w w1 := by rw [hw1]; exact ((Below.refl _ _).alloc (Nat.le_refl _) _)
  have hsz1 : w1.heap.size = w.heap.size + 1 := by rw [hw1]; simp
  replace c0 := cell_below hb1 c0
  replace f0 := (hb1.frozen (p := ⟨b, 0, none⟩) hbl).trans f0
  have HG := Lib.hid hg1
  have HB := Lib.hid hb1
  have HS1 := Lib.hid (fun h0 => (HBB.out.below hb1).src (by rw [← HX.out]; exact h0))
  rw [← HX.out] at HS1
  rw [← hw1]
  clear hw1 hg1 hb1
  go_upto_region 2 with (refine wpList_copy_splice rfl _ _ 22 22 rfl 4 Try.underlying22 size4 _ _ _ _ _ _ rfl rfl w.heap.size 0 (bools (List.replicate n false)) 4 HG.out X (by rw [HX.out, bools_length]; exact (Nat.min_eq_left hln2).symm) (fun h0 => ⟨rfl, HS1.out h0⟩) (by rw [bools_length, HX.out, bools_length]; first | (simp; done) | (simp; exact hln2)) (by rw [HX.out]; exact bools_one _) w.heap.size w HB.out (Nat.le_refl _) ?_; intro w2 hg2 hb2)
  have k0 := cell_of_row w b 0 _ _ _ HV.out
  simp at k0
  have c0 := cell_below hb2 k0
  have f0 := (hb2.frozen (p := ⟨b, 0, none⟩) hbl).trans (frozen_of_row w b 0 _ _ HV.out)
  have HS2 := Lib.hid (fun h0 => (HMM.out.below hb2).src (by rw [← HY.out]; exact h0))
  rw [← HY.out] at HS2
  have HYL := Lib.hid (show Y.length = M.length by rw [HY.out, bools_length])
  have HXL := Lib.hid (show X.length = L.length by rw [HX.out, bools_length])
  have HB2 := Lib.hid hb2
  have hsz2 := hb2.size
  clear k0 hb2 HB HS1 HG
  go_upto_region 3 with (refine wpList_copy_splice rfl _ _ 22 22 rfl 4 Try.underlying22 size4 _ _ _ _ _ _ rfl rfl w.heap.size L.length (splice (bools (List.replicate n false)) 0 X) 4 hg2.out Y (by rw [HYL.out, HN.out, Nat.add_sub_cancel_left]; exact (Nat.min_self _).symm) (fun h0 => by first | exact ⟨rfl, HS2.out h0⟩ | (exfalso; have := HYL.out; have := HN.out; omega)) (by rw [length_splice _ _ _ (by rw [bools_length, HXL.out]; first | (simp; done) | (simp; exact hln2)), bools_length, HYL.out]; simp; have := HN.out; omega) (by rw [HY.out]; exact bools_one _) w.heap.size w HB2.out (Nat.le_refl _) ?_; intro w3 hg3 hb3)
  all_goals
    have HB3 := Lib.hid hb3
    have hsz3 := hb3.size
    have k0 := cell_of_row w b 0 _ _ _ HV.out
    simp at k0
    have c0 := cell_below hb3 k0
    have f0 := (hb3.frozen (p := ⟨b, 0, none⟩) hbl).trans (frozen_of_row w b 0 _ _ HV.out)
    have HG3 := Lib.hid hg3
    clear k0 hb3
    go_wp2
    refine ⟨rfl, .tuple #[], by simp [results, Try.results15, go_sem], rfl, ?_, ?_⟩
    · have hg := HG3.out.out
      rw [HX.out, HY.out, HN.out, splice_two] at hg
      have hv3 := (HB3.out.block b hbl).trans HV.out
      have k1 := Go.heap_setCell_same w3 b 0 _ 50 (.slice (some ⟨w.heap.size, 0, none⟩) n n) hv3
      refine ⟨⟨.slice (some ⟨w.heap.size, 0, none⟩) n n, by rw [k1]; simp, ?_⟩, by simp; omega, by simp; omega⟩
      have hw := own_whole (base := b + 1) (w := w3.setCell ⟨b, 0, none⟩ (.slice (some ⟨w.heap.size, 0, none⟩) n n)) (g := w.heap.size) (xs := L ++ M) ((Go.heap_setCell_other _ _ _ _ (by show w.heap.size ≠ b; omega)).trans hg) (by omega) (by simp; omega)
      have hw2 := own_BB hw
      rw [show (L ++ M).length = n by simp; have := HN.out; omega] at hw2
      exact hw2
    · exact ⟨HB3.out.os, HB3.out.tape, HB3.out.output, by simpa using HB3.out.size, fun i hi hne => (Go.heap_setCell_other _ _ _ _ (by exact hne)).trans (HB3.out.block i hi)⟩

theorem add_none (b a : Nat) (L : List Bool) (bv : Value) (w : World) (H : SAt w b L a) (HM : BB w 0 bv []) :
    Calls Try.prog 15 #[.pointer (some ⟨b, 0, none⟩), bv] w fun e w' => e = .returned (.tuple #[]) ∧ SAt w' b (L) a ∧ Only1 b w w' := by
  have ll := H.ll
  have al := H.al
  have hbl := H.blt
  have hbn : b ≠ w.heap.size := by omega
  obtain ⟨v, hv, hb⟩ := H.s
  obtain ⟨A, c, rfl, h1, h2⟩ := hb.shape
  obtain ⟨A2, c2, rfl, h12, h22⟩ := HM.shape
  have HV := Lib.hid hv
  have HBB := Lib.hid hb
  have HMM := Lib.hid HM
  have c0 := cell_of_row w b 0 _ _ _ hv
  have f0 := frozen_of_row w b 0 _ _ hv
  simp at c0
  have hll : (L.length : Int) ≤ 1000 := by omega
  have hni : IntKind.i64.wrap (L.length : Int) = (L.length : Int) := by rw [IntKind.wrap_i64]; omega
  have hnw : IntKind.i64.wrap (L.length : Int) = (L.length : Int) := by rw [IntKind.wrap_i64]; omega
  have hln : (L.length : Int) ≤ (L.length : Int) := by omega
  have hln2 : L.length ≤ L.length := by omega
  have hl0 : (0 : Int) ≤ (L.length : Int) := by omega
  have hmk : ∀ w : World, Sem.run Try.prog (Instr.makeSlice 22 (.int .i64 (L.length : Int)) (.int .i64 (L.length : Int))) w = .ok (.slice (some ⟨w.heap.size, 0, none⟩) L.length L.length) (w.alloc (.cells (madeCells #[.bool false] L.length) 4)) := fun w => run_make_row' 22 4 (.bool false) 1 rfl (by kernel_rfl) rfl .i64 .i64 L.length (by omega) (by omega) w
  obtain ⟨X, hX⟩ : ∃ X, X = bools L := ⟨_, rfl⟩
  obtain ⟨Y, hY⟩ : ∃ Y, Y = bools [] := ⟨_, rfl⟩
  have HX := Lib.hid hX
  have HY := Lib.hid hY
  clear H hv hb HM hX hY
  go_enter Try.func15, Try.ntmps15
  go_upto_region 1 with (fail)
  obtain ⟨w1, hw1⟩ : ∃ w1 : World, w1 = (w.alloc (.cells (madeCells #[.bool false] L.length) 4)) := ⟨_, rfl⟩
  have hg1 : w1.heap[w.heap.size]? = some (.cells (bools (List.replicate L.length false)).toArray 4 (0, 0)) := by
    rw [hw1, ← made_false]
    exact heap_alloc_new w _
  have hb1 : Below w.heap.size w w1 := by rw [hw1]; exact ((Below.refl _ _).alloc (Nat.le_refl _) _)
  have hsz1 : w1.heap.size = w.heap.size + 1 := by rw [hw1]; simp
  replace c0 := cell_below hb1 c0
  replace f0 := (hb1.frozen (p := ⟨b, 0, none⟩) hbl).trans f0
  have HG := Lib.hid hg1
  have HB := Lib.hid hb1
  have HS1 := Lib.hid (fun h0 => (HBB.out.below hb1).src (by rw [← HX.out]; exact h0))
  rw [← HX.out] at HS1
  rw [← hw1]
  clear hw1 hg1 hb1
  go_upto_region 2 with (refine wpList_copy_splice rfl _ _ 22 22 rfl 4 Try.underlying22 size4 _ _ _ _ _ _ rfl rfl w.heap.size 0 (bools (List.replicate L.length false)) 4 HG.out X (by rw [HX.out, bools_length]; exact (Nat.min_eq_left hln2).symm) (fun h0 => ⟨rfl, HS1.out h0⟩) (by rw [bools_length, HX.out, bools_length]; first | (simp; done) | (simp; exact hln2)) (by rw [HX.out]; exact bools_one _) w.heap.size w HB.out (Nat.le_refl _) ?_; intro w2 hg2 hb2)
  have k0 := cell_of_row w b 0 _ _ _ HV.out
  simp at k0
  have c0 := cell_below hb2 k0
  have f0 := (hb2.frozen (p := ⟨b, 0, none⟩) hbl).trans (frozen_of_row w b 0 _ _ HV.out)
  have HS2 := Lib.hid (fun h0 => (HMM.out.below hb2).src (by rw [← HY.out]; exact h0))
  rw [← HY.out] at HS2
  have HYL := Lib.hid (show Y.length = 0 by rw [HY.out, bools_length]; rfl)
  have HXL := Lib.hid (show X.length = L.length by rw [HX.out, bools_length])
  have HB2 := Lib.hid hb2
  have hsz2 := hb2.size
  clear k0 hb2 HB HS1 HG
  go_upto_region 3 with (refine wpList_copy_splice rfl _ _ 22 22 rfl 4 Try.underlying22 size4 _ _ _ _ _ _ rfl rfl w.heap.size L.length (splice (bools (List.replicate L.length false)) 0 X) 4 hg2.out Y (by rw [HYL.out]; exact (Nat.zero_min _).symm) (fun h0 => by exfalso; have := HYL.out; omega) (by rw [length_splice _ _ _ (by rw [bools_length, HXL.out]; first | (simp; done) | (simp; exact hln2)), bools_length, HYL.out]; simp) (by rw [HY.out]; exact bools_one _) w.heap.size w HB2.out (Nat.le_refl _) ?_; intro w3 hg3 hb3)
  all_goals
    have HB3 := Lib.hid hb3
    have hsz3 := hb3.size
    have k0 := cell_of_row w b 0 _ _ _ HV.out
    simp at k0
    have c0 := cell_below hb3 k0
    have f0 := (hb3.frozen (p := ⟨b, 0, none⟩) hbl).trans (frozen_of_row w b 0 _ _ HV.out)
    have HG3 := Lib.hid hg3
    clear k0 hb3
    go_wp2
    refine ⟨rfl, .tuple #[], by simp [results, Try.results15, go_sem], rfl, ?_, ?_⟩
    · have hg := HG3.out.out
      rw [HX.out, HY.out] at hg
      have hg : w3.heap[w.heap.size]? = some (.cells (bools L).toArray 4 (0, 0)) := by rw [hg]; have := splice_two L []; simp only [List.length_nil, Nat.add_zero, List.append_nil] at this; rw [this]
      have hv3 := (HB3.out.block b hbl).trans HV.out
      have k1 := Go.heap_setCell_same w3 b 0 _ 50 (.slice (some ⟨w.heap.size, 0, none⟩) L.length L.length) hv3
      refine ⟨⟨.slice (some ⟨w.heap.size, 0, none⟩) L.length L.length, by rw [k1]; simp, ?_⟩, al, ll⟩
      have hw := own_whole (base := b + 1) (w := w3.setCell ⟨b, 0, none⟩ (.slice (some ⟨w.heap.size, 0, none⟩) L.length L.length)) (g := w.heap.size) (xs := L) ((Go.heap_setCell_other _ _ _ _ (by show w.heap.size ≠ b; omega)).trans hg) (by omega) (by omega)
      have hw2 := own_BB hw
      exact hw2
    · exact ⟨HB3.out.os, HB3.out.tape, HB3.out.output, by simpa using HB3.out.size, fun i hi hne => (Go.heap_setCell_other _ _ _ _ (by exact hne)).trans (HB3.out.block i hi)⟩

theorem add_any (b a : Nat) (L M : List Bool) (bv : Value) (w : World) (H : SAt w b L a) (HM : BB w 0 bv M) (hlm : L.length + M.length ≤ 1000) :
    Calls Try.prog 15 #[.pointer (some ⟨b, 0, none⟩), bv] w fun e w' => e = .returned (.tuple #[]) ∧ SAt w' b (L ++ M) a ∧ Only1 b w w' := by
  rcases Nat.eq_zero_or_pos M.length with h | h
  · obtain rfl : M = [] := List.eq_nil_of_length_eq_zero h
    rw [List.append_nil]
    exact add_none b a L bv w H HM
  · exact add_more b a L M bv w H HM hlm h
end Go.Proofs.Ytodeeheojmnjdaa
