/- What fifo.Queue[int] and the document's queue do side by side. -/
import Derived.Test.YtjhecdmgblicoaaRef
namespace Go.Proofs.Ytjhecdmgblicoaa
open Go.RowKit
set_option linter.unusedVariables false

/-- A queue that holds L, and the document's (a struct in block sb) that holds M. -/
structure PS (w wr : World) (sb m : Nat) (L M : List Int) : Prop where
  q : ∃ a, QAt wr (w.heap.size + 1) w.heap.size m a L
  s : ∃ v, wr.heap[sb]? = some (.cells #[.int .i64 m, v] 49 (0, 0)) ∧ InB wr (sb + 1) v M
  bel : Below w.heap.size w wr
  lo : w.heap.size + 2 ≤ sb
  size : sb + 1 ≤ wr.heap.size
theorem PS.below {w wr w' : World} {sb m : Nat} {L M : List Int} (h : PS w wr sb m L M) (hb : Below wr.heap.size wr w') : PS w w' sb m L M := by
  obtain ⟨⟨a, hq⟩, ⟨v, hs, hv⟩, h1, lo, h2⟩ := h
  exact ⟨⟨a, hq.below hb⟩, ⟨v, (hb.block _ (by omega)).trans hs, hv.below hb⟩, h1.trans (hb.mono h1.size), lo, Nat.le_trans h2 hb.size⟩
theorem PS.only {w wr w' : World} {sb m a' : Nat} {L M L' : List Int} (h : PS w wr sb m L M) (hq : QAt w' (w.heap.size + 1) w.heap.size m a' L') (ho : Only (w.heap.size + 1) w.heap.size wr w') : PS w w' sb m L' M := by
  obtain ⟨_, ⟨v, hs, hv⟩, h1, lo, h2⟩ := h
  exact ⟨⟨a', hq⟩, ⟨v, (ho.far _ (by omega) (by omega)).trans hs, hv.keep fun b hb _ => ho.far b (by omega) (by omega)⟩, h1.trans (ho.below (by omega) (by omega)), lo, by rw [ho.size]; exact h2⟩
theorem PS.store {w wr : World} {sb m : Nat} {L M M' : List Int} {v' : Value} (h : PS w wr sb m L M) (hv' : InB wr (sb + 1) v' M') : PS w ((wr.setCell ⟨sb, 0, none⟩ (.int .i64 m)).setCell ⟨sb, 1, none⟩ v') sb m L M' := by
  obtain ⟨⟨a, hq⟩, ⟨v, hs, hv⟩, h1, lo, h2⟩ := h
  have k1 := Go.heap_setCell_same wr (sb) 0 _ 49 (.int .i64 m) hs
  have k2 := Go.heap_setCell_same _ (sb) 1 _ 49 v' k1
  have far : ∀ i, i ≠ sb → ((wr.setCell ⟨sb, 0, none⟩ (.int .i64 m)).setCell ⟨sb, 1, none⟩ v').heap[i]? = wr.heap[i]? := fun i hi => by
    rw [Go.heap_setCell_other _ _ _ _ (by exact hi), Go.heap_setCell_other _ _ _ _ (by exact hi)]
  refine ⟨⟨a, hq.keep (far _ (by omega)) (far _ (by omega))⟩, ⟨v', by rw [k2]; simp, hv'.keep fun b hb _ => far b (by omega)⟩, (h1.setCell (show w.heap.size ≤ sb by omega) _).setCell (show w.heap.size ≤ sb by omega) _, lo, by simpa using h2⟩
theorem PS.store1 {w wr : World} {sb m : Nat} {L M M' : List Int} {v' : Value} (h : PS w wr sb m L M) (hv' : InB wr (sb + 1) v' M') : PS w (wr.setCell ⟨sb, 1, none⟩ v') sb m L M' := by
  obtain ⟨⟨a, hq⟩, ⟨v, hs, hv⟩, h1, lo, h2⟩ := h
  have k2 := Go.heap_setCell_same _ (sb) 1 _ 49 v' hs
  have far : ∀ i, i ≠ sb → (wr.setCell ⟨sb, 1, none⟩ v').heap[i]? = wr.heap[i]? := fun i hi => by
    rw [Go.heap_setCell_other _ _ _ _ (by exact hi)]
  refine ⟨⟨a, hq.keep (far _ (by omega)) (far _ (by omega))⟩, ⟨v', by rw [k2]; simp, hv'.keep fun b hb _ => far b (by omega)⟩, h1.setCell (show w.heap.size ≤ sb by omega) _, lo, by simpa using h2⟩

theorem InB.shape {W : World} {B : Nat} {v : Value} {l : List Int} (h : InB W B v l) : ∃ A n c, v = .slice A n c ∧ n = l.length := by
  obtain ⟨A, c, rfl, _⟩ := h
  exact ⟨A, _, c, rfl, rfl⟩

def putL (m : Nat) (L : List Int) (x : Int) : List Int := if L.length < m then L ++ [x] else L
def putE (m : Nat) (L : List Int) : Int := if L.length < m then 0 else 8

theorem PS.take {w W : World} {sb m : Nat} {L M : List Int} (h : PS w W sb m L M) :
    Calls Try.prog 21 #[.pointer (some ⟨w.heap.size + 1, 0, none⟩)] W fun e w' => e = .returned (.tuple #[.int .i64 (L.headD 0), .bool (!L.isEmpty)]) ∧ PS w w' sb m L.tail M := by
  obtain ⟨a, hq⟩ := h.q
  cases L with
  | nil =>
    refine (take_none _ _ _ _ W hq).mono ?_
    rintro e w' ⟨rfl, rfl⟩
    exact ⟨rfl, h⟩
  | cons y ys =>
    refine (take_some _ _ _ _ y ys W hq).mono ?_
    rintro e w' ⟨rfl, hq', ho⟩
    exact ⟨rfl, h.only hq' ho⟩
theorem PS.put {w W : World} {sb m : Nat} {L M : List Int} (x : Int) (h : PS w W sb m L M) :
    Calls Try.prog 16 #[.pointer (some ⟨w.heap.size + 1, 0, none⟩), .int .i64 x] W fun e w' => e = .returned (.int .i64 (putE m L)) ∧ PS w w' sb m (putL m L x) M := by
  obtain ⟨a, hq⟩ := h.q
  unfold putE putL
  by_cases hf : L.length < m
  · rw [if_pos hf, if_pos hf]
    refine (put_more _ _ _ _ _ x W hq hf).mono ?_
    rintro e w' ⟨rfl, hq', ho⟩
    exact ⟨rfl, h.only hq' ho⟩
  · rw [if_neg hf, if_neg hf]
    have := hq.ll
    refine (put_full _ _ _ _ _ x W hq (by omega)).mono ?_
    rintro e w' ⟨rfl, k, rfl⟩
    exact ⟨rfl, h.below (below_drewN (Below.refl _ _) k)⟩
theorem PS.clr {w W : World} {sb m : Nat} {L M : List Int} (h : PS w W sb m L M) :
    Calls Try.prog 23 #[.pointer (some ⟨w.heap.size + 1, 0, none⟩)] W fun e w' => e = .returned (.tuple #[]) ∧ PS w w' sb m [] M := by
  obtain ⟨a, hq⟩ := h.q
  refine (clear_any _ _ _ _ _ W hq).mono ?_
  rintro e w' ⟨rfl, hq', ho⟩
  exact ⟨rfl, h.only hq' ho⟩
theorem PS.first {w W : World} {sb m : Nat} {L M : List Int} (h : PS w W sb m L M) :
    Calls Try.prog 25 #[.pointer (some ⟨w.heap.size + 1, 0, none⟩)] W fun e w' => e = .returned (.tuple #[.int .i64 (L.headD 0), .bool (!L.isEmpty)]) ∧ PS w w' sb m L M := by
  obtain ⟨a, hq⟩ := h.q
  cases L with
  | nil =>
    refine (first_none _ _ _ _ W hq).mono ?_
    rintro e w' ⟨rfl, rfl⟩
    exact ⟨rfl, h⟩
  | cons y ys =>
    refine (first_some _ _ _ _ y ys W hq).mono ?_
    rintro e w' ⟨rfl, k, rfl⟩
    exact ⟨rfl, h.below (below_drewN (Below.refl _ _) k)⟩
theorem ref_take_any (m : Int) (v : Value) (B : Nat) (L : List Int) (w : World) (H : InB w B v L) :
    Calls Try.prog 22 #[.agg #[.int .i64 m, v]] w fun e w' => ∃ v', e = .returned (.tuple #[.agg #[.int .i64 m, v'], .int .i64 (L.headD 0), .bool (!L.isEmpty)]) ∧ InB w' B v' L.tail ∧ Below w.heap.size w w' := by
  cases L with
  | nil =>
    refine (ref_take_none m v B w H).mono ?_
    rintro e w' ⟨rfl, hb⟩
    exact ⟨v, rfl, H.below hb, hb⟩
  | cons y ys =>
    refine (ref_take_some m v B y ys w H).mono ?_
    rintro e w' ⟨⟨v', rfl, hv⟩, hb⟩
    exact ⟨v', rfl, hv.below hb, hb⟩
theorem ref_put_any (m : Nat) (v : Value) (B : Nat) (L : List Int) (x : Int) (w : World) (H : InB w B v L) (hsm : L.length ≤ 1000) (hB : B ≤ w.heap.size) :
    Calls Try.prog 24 #[.agg #[.int .i64 m, v], .int .i64 x] w fun e w' => ∃ v', e = .returned (.tuple #[.agg #[.int .i64 m, v'], .int .i64 (putE m L)]) ∧ InB w' B v' (putL m L x) ∧ Below w.heap.size w w' := by
  unfold putE putL
  by_cases hf : L.length < m
  · rw [if_pos hf, if_pos hf]
    refine (ref_put_more m v B L x w H hf hsm).mono ?_
    rintro e w' ⟨⟨v', rfl, hown⟩, hb⟩
    exact ⟨v', rfl, (own_inB hown).mono hB, hb⟩
  · rw [if_neg hf, if_neg hf]
    refine (ref_put_full m v B L x w H (by omega)).mono ?_
    rintro e w' ⟨rfl, hb⟩
    exact ⟨v, rfl, H.below hb, hb⟩
theorem ref_put_two (m : Nat) (v : Value) (B : Nat) (L : List Int) (x : Int) (w0 w : World) (H : InB w0 B v L) (hw : Below w0.heap.size w0 w) (hsm : L.length ≤ 1000) (hB : B ≤ w0.heap.size) :
    Calls Try.prog 24 #[.agg #[.int .i64 m, v], .int .i64 x] w fun e w' => ∃ v', e = .returned (.tuple #[.agg #[.int .i64 m, v'], .int .i64 (putE m L)]) ∧ InB w' B v' (putL m L x) ∧ Below w.heap.size w w' ∧
      (w0.heap.size < w.heap.size → ∀ W', (∀ b, b ≠ w0.heap.size → W'.heap[b]? = w'.heap[b]?) → InB W' B v' (putL m L x)) := by
  have hs := hw.size
  unfold putE putL
  by_cases hf : L.length < m
  · rw [if_pos hf, if_pos hf]
    refine (ref_put_more m v B L x w (H.below hw) hf hsm).mono ?_
    rintro e w' ⟨⟨v', rfl, hown⟩, hb⟩
    exact ⟨v', rfl, (own_inB hown).mono (by omega), hb, fun hlt W' hW => ((own_inB hown).keep fun b hb' _ => hW b (by omega)).mono (by omega)⟩
  · rw [if_neg hf, if_neg hf]
    refine (ref_put_full m v B L x w (H.below hw) (by omega)).mono ?_
    rintro e w' ⟨rfl, hb⟩
    exact ⟨v, rfl, (H.below hw).below hb, hb, fun hlt W' hW => H.keep fun b hb' hlt' => (hW b (by omega)).trans ((hb.block b (by omega)).trans (hw.block b hlt'))⟩
theorem PS.all {w W : World} {sb m : Nat} {L M : List Int} (h : PS w W sb m L M) :
    Calls Try.prog 19 #[.pointer (some ⟨w.heap.size + 1, 0, none⟩)] W fun e w' => ∃ v, e = .returned v ∧ IntsAt w' v L ∧ Below W.heap.size W w' := by
  obtain ⟨a, hq⟩ := h.q
  refine (all_any _ _ _ _ _ W hq).mono ?_
  rintro e w' ⟨v, rfl, hown, hb⟩
  exact ⟨v, rfl, own_reads hown, hb⟩
theorem PS.len {w W : World} {sb m n : Nat} {L M : List Int} (h : PS w W sb m L M) (hn : n = L.length) :
    Calls Try.prog 17 #[.pointer (some ⟨w.heap.size + 1, 0, none⟩)] W fun e w' => e = .returned (.int .i64 n) ∧ Below W.heap.size W w' := by
  obtain ⟨a, hq⟩ := h.q
  subst hn
  refine (len_any _ _ _ _ _ W hq).mono ?_
  rintro e w' ⟨rfl, rfl⟩
  exact ⟨rfl, Below.refl _ _⟩
theorem PS.full {w W : World} {sb m n : Nat} {L M : List Int} (h : PS w W sb m L M) (hn : n = L.length) :
    Calls Try.prog 18 #[.pointer (some ⟨w.heap.size + 1, 0, none⟩)] W fun e w' => e = .returned (.bool (decide (n = m))) ∧ Below W.heap.size W w' := by
  obtain ⟨a, hq⟩ := h.q
  subst hn
  refine (full_any _ _ _ _ _ W hq).mono ?_
  rintro e w' ⟨rfl, k, rfl⟩
  exact ⟨rfl, below_drewN (Below.refl _ _) k⟩
theorem InB.head {W : World} {B n k : Nat} {A : Option Addr} {z : Int} {zs : List Int} (h : InB W B (.slice A n k) (z :: zs)) : ∃ b o, A = some ⟨b, o, none⟩ ∧ W.cell? ⟨b, o, none⟩ = some (.int .i64 z) := by
  obtain ⟨A', c, e, h1, h2, h3, h4⟩ := h
  injection e with e1 e2 e3
  subst e1 e2 e3
  obtain ⟨b, o, rfl, _⟩ := h3 (by simp at h1; omega)
  exact ⟨b, o, rfl, by simpa using h4 b o rfl 0 (by simp)⟩
end Go.Proofs.Ytjhecdmgblicoaa
