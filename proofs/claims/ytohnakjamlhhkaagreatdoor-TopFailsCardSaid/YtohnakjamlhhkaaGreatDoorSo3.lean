/- The abstract heap and the world: the relation, and how it is kept. -/
import Derived.Test.YtohnakjamlhhkaaGreatDoorSo2
import Derived.Laws.CopyRow
namespace Go.Proofs.YtohnakjamlhhkaaGreatDoor
open Go
set_option linter.unusedVariables false
set_option linter.unusedSimpArgs false

/-! ### Rows of the world -/
/-- Block B is a row of the cells c, none of them frozen. -/
def Row (w : World) (B : Nat) (c : Array Value) : Prop := ∃ t fr, w.heap[B]? = some (.cells c t fr) ∧ ∀ i, i < c.size → ¬ (fr.1 ≤ i ∧ i < fr.2)
theorem Row.inj {w : World} {B : Nat} {c c' : Array Value} (h : Row w B c) (h' : Row w B c') : c = c' := by
  obtain ⟨t, fr, h1, _⟩ := h
  obtain ⟨t', fr', h2, _⟩ := h'
  rw [h1] at h2; cases h2; rfl
theorem Row.cell {w : World} {B : Nat} {c : Array Value} (h : Row w B c) (i : Nat) : w.cell? ⟨B, i, none⟩ = c[i]? := by
  obtain ⟨t, fr, h1, _⟩ := h
  simp [World.cell?, h1]
theorem Row.frozen {w : World} {B : Nat} {c : Array Value} (h : Row w B c) {i : Nat} (hi : i < c.size) : w.frozen? ⟨B, i, none⟩ = false := by
  obtain ⟨t, fr, h1, h2⟩ := h
  have := h2 i hi
  obtain ⟨lo, hi'⟩ := fr
  simp only [World.frozen?, h1]
  simp only at this
  by_cases h3 : lo ≤ i <;> by_cases h4 : i < hi' <;> simp_all
theorem Row.congr {w w' : World} {B : Nat} {c : Array Value} (h : Row w B c) (e : w'.heap[B]? = w.heap[B]?) : Row w' B c := by
  obtain ⟨t, fr, h1, h2⟩ := h
  exact ⟨t, fr, by rw [e]; exact h1, h2⟩
theorem Row.lt {w : World} {B : Nat} {c : Array Value} (h : Row w B c) : B < w.heap.size := by
  obtain ⟨t, fr, h1, _⟩ := h
  exact (Array.getElem?_eq_some_iff.1 h1).1
theorem Row.set {w : World} {B : Nat} {c : Array Value} (h : Row w B c) (c' : Array Value) (hs : c'.size = c.size) : Row (w.setRow B c') B c' := by
  obtain ⟨t, fr, h1, h2⟩ := h
  exact ⟨t, fr, setRow_heap w B c c' t fr h1, by rw [hs]; exact h2⟩
theorem size_setRow (w : World) (B : Nat) (c : Array Value) : (w.setRow B c).heap.size = w.heap.size := by simp [World.setRow]

theorem Row.store (P : Program) {w : World} {B : Nat} {c : Array Value} (h : Row w B c) {i : Nat} (hi : i < c.size) {v : Value} (h1 : v.oneCell' = true) :
    (store ⟨B, i, none⟩ v).run P w = .ok () (w.setRow B (c.setIfInBounds i v)) := by
  have hc := h.cell i
  have hf := h.frozen hi
  obtain ⟨t, fr, hg, _⟩ := h
  rw [run_store P w _ v _ h1, hc]
  simp [hf, hi, setCell_eq_setRow w B i c t fr v hg]

theorem Row.storeCells (P : Program) (B o : Nat) : ∀ (vs : List Value) (i : Nat) (c : Array Value) (w : World), Row w B c → o + i + vs.length ≤ c.size → (∀ v ∈ vs, v.oneCell' = true) →
    ∃ c', (Go.storeCells ⟨B, o, none⟩ vs i).run P w = .ok () (w.setRow B c') ∧ c'.size = c.size ∧ ∀ k, c'[k]? = if o + i ≤ k ∧ k < o + i + vs.length then vs[k - (o + i)]? else c[k]?
  | [], i, c, w, h, _, _ => by
    refine ⟨c, ?_, rfl, fun k => ?_⟩
    · obtain ⟨t, fr, hg, _⟩ := h
      rw [setRow_self w B c t fr hg]; rfl
    · rw [if_neg (by simp only [List.length_nil]; omega)]
  | v :: vs, i, c, w, h, hl, h1 => by
    have hi : o + i < c.size := by simp at hl; omega
    have hadd : (⟨B, o, none⟩ : Addr).add i = ⟨B, o + i, none⟩ := by unfold Addr.add; split <;> simp_all
    have hst := h.store P hi (h1 v (by simp))
    have hr := h.set (c.setIfInBounds (o + i) v) (by simp)
    obtain ⟨c', e1, e2, e3⟩ := Row.storeCells P B o vs (i + 1) _ _ hr (by simp at hl ⊢; omega) (fun x hx => h1 x (by simp [hx]))
    refine ⟨c', ?_, by simpa using e2, fun k => ?_⟩
    · simp only [Go.storeCells, Sem.run_bind, hadd, hst, Result.andThen_ok, e1, setRow_setRow]
    · rw [e3 k]
      simp only [List.length_cons]
      by_cases hk : k = o + i
      · subst hk
        rw [if_neg (by omega), if_pos (by omega)]
        simp [hi]
      · by_cases h2 : o + (i + 1) ≤ k ∧ k < o + (i + 1) + vs.length
        · rw [if_pos h2, if_pos (by omega)]
          rw [show k - (o + i) = (k - (o + (i + 1))) + 1 by omega, List.getElem?_cons_succ]
        · rw [if_neg h2, if_neg (by omega)]
          rw [Array.getElem?_setIfInBounds_ne (by omega)]

/-! ### The relation -/
inductive ERel (E : Em) : List (Value × Value) → List MapEntry → Prop where
  | nil : ERel E [] []
  | cons (k v k' v' : Value) (b : Nat) (es : List (Value × Value)) (ents : List MapEntry) (hk : VRel E k k') (hv : VRel E v v') (h : ERel E es ents) :
    ERel E ((k, v) :: es) (⟨k', v', b⟩ :: ents)
theorem ERel.mono {E E' : Em} (h : E.le E') {es : List (Value × Value)} {ents : List MapEntry} (hr : ERel E es ents) : ERel E' es ents := by
  induction hr with
  | nil => exact .nil
  | cons k v k' v' b es ents hk hv _ ih => exact .cons _ _ _ _ _ _ _ (hk.mono h) (hv.mono h) ih

/-- What a map holds, in whatever order. -/
structure MRel (E : Em) (es : List (Value × Value)) (ents : List MapEntry) : Prop where
  perm : ∃ l : List MapEntry, ERel E es l ∧ l.Perm ents
  keys : es.Pairwise fun a b => keyEq a.1 b.1 = some false
theorem MRel.nil {E : Em} : MRel E [] [] := ⟨⟨[], .nil, .refl _⟩, .nil⟩
theorem MRel.mono {E E' : Em} (h : E.le E') {es : List (Value × Value)} {ents : List MapEntry} (hr : MRel E es ents) : MRel E' es ents := by
  obtain ⟨⟨l, h1, h2⟩, h3⟩ := hr
  exact ⟨⟨l, h1.mono h, h2⟩, h3⟩

/-- What a row knows of its block. -/
def CRel (E : Em) (s : Nat) (cs : List Value) (c : Array Value) : Prop := ∀ i v, cs[i]? = some v → oneC v = true ∧ ∃ v', c[i + s]? = some v' ∧ VRel E v v'
theorem CRel.mono {E E' : Em} (h : E.le E') {s : Nat} {cs : List Value} {c : Array Value} (hr : CRel E s cs c) : CRel E' s cs c := fun i v hv => by
  obtain ⟨h0, v', h1, h2⟩ := hr i v hv
  exact ⟨h0, v', h1, h2.mono h⟩
theorem CRel.nil {E : Em} {s : Nat} {c : Array Value} : CRel E s [] c := fun i v hv => by simp at hv

/-- Block of number b has elements of this type; nought: not known. -/
def Typed (E : Em) (w : World) (b : Nat) (e : TypeId) : Prop := e = 0 ∨ ∃ B c fr, E.blk b = some (B, 0) ∧ w.heap[B]? = some (.cells c e fr)
structure Rel (E : Em) (A : AH) (w : World) : Prop where
  fresh : ∀ b, A.next ≤ b → E.blk b = none
  lt : ∀ b B s, E.blk b = some (B, s) → B < w.heap.size
  row : ∀ b e cs m, A.obj b = some (.row e cs m) → ∃ B s c, E.blk b = some (B, s) ∧ Row w B c ∧ c.size = E.room B ∧ CRel E s cs c
  apart : ∀ b b' e e' cs cs' m m' B s s', b ≠ b' → A.obj b = some (.row e cs m) → A.obj b' = some (.row e' cs' m') →
    E.blk b = some (B, s) → E.blk b' = some (B, s') → m = some b'
  map : ∀ b es, A.obj b = some (.map es) → ∃ R ents clock, E.blk b = some (R, 0) ∧ w.heap[R]? = some (.map ents clock) ∧ MRel E es ents.toList
  mapApart : ∀ b b' es es' R, A.obj b = some (.map es) → A.obj b' = some (.map es') → E.blk b = some (R, 0) → E.blk b' = some (R, 0) → b = b'
  iter : ∀ b m, A.obj b = some (.iter m) → ∃ B M since seen last, E.blk b = some (B, 0) ∧ E.blk m = some (M, 0) ∧ w.heap[B]? = some (.mapIter (some M) since seen last)
  typ : ∀ b e cs m, A.obj b = some (.row e cs m) → Typed E w b e

theorem Rel.congr {E : Em} {A : AH} {w w' : World} (h : Rel E A w) (hh : w'.heap = w.heap) : Rel E A w' := by
  refine ⟨h.fresh, ?_, ?_, h.apart, ?_, h.mapApart, by rw [hh]; exact h.iter, by unfold Typed; rw [hh]; exact h.typ⟩
  · rw [hh]; exact h.lt
  · intro b e cs m hb
    obtain ⟨B, s, c, h1, h2, h3, h4⟩ := h.row b e cs m hb
    exact ⟨B, s, c, h1, h2.congr (by rw [hh]), h3, h4⟩
  · rw [hh]; exact h.map
theorem Rel.rowAt {E : Em} {A : AH} {w : World} (h : Rel E A w) {b : Nat} {e : TypeId} {cs : List Value} {m : Option Nat} (hb : A.obj b = some (.row e cs m)) {B s : Nat} (hB : E.blk b = some (B, s)) :
    ∃ c, Row w B c ∧ c.size = E.room B ∧ CRel E s cs c := by
  obtain ⟨B', s', c, h1, h2, h3, h4⟩ := h.row b e cs m hb
  rw [hB] at h1; cases h1
  exact ⟨c, h2, h3, h4⟩

theorem AH.obj_mk (h : HT) (n i : Nat) : (AH.mk h n).obj i = h.get i := rfl
theorem AH.obj_put {A : AH} {i x : Nat} {o o' : AObj} (h : (A.put i o).obj x = some o') : (x = i ∧ o' = o) ∨ (x ≠ i ∧ A.obj x = some o') := by
  cases A with | mk t n => exact HT.get_set o t i x o' h
theorem AH.next_put (A : AH) (i : Nat) (o : AObj) : (A.put i o).next = A.next := by cases A; rfl
theorem force_eq {α : Type} (k : Nat → α) (n : Nat) : force k n = k n := by cases n <;> rfl
theorem AH.new_eq (A : AH) (o : AObj) : A.new o = (A.next, ⟨A.heap.set o A.next, A.next + 1⟩) := by
  cases A with | mk h n =>
    show force (fun n => (n, AH.mk (h.set o n) (Nat.succ n))) n = _
    rw [force_eq]
theorem AH.obj_new {A : AH} {x : Nat} {o o' : AObj} (h : (AH.mk (A.heap.set o A.next) (A.next + 1)).obj x = some o') : (x = A.next ∧ o' = o) ∨ (x ≠ A.next ∧ A.obj x = some o') := by
  cases A with | mk t n => exact HT.get_set o t n x o' h
theorem AH.next_kill (A : AH) (i : Nat) : (A.kill i).next = A.next := AH.next_put A i .dead
theorem AH.next_unmate (A : AH) (m : Option Nat) : (unmate A m).next = A.next := by
  unfold unmate; split
  · exact AH.next_kill _ _
  · rfl
theorem AH.obj_unmate {A : AH} {m : Option Nat} {x : Nat} {o : AObj} (h : (unmate A m).obj x = some o) : (some x = m ∧ o = .dead) ∨ (some x ≠ m ∧ A.obj x = some o) := by
  unfold unmate at h
  split at h
  · rcases AH.obj_put h with ⟨rfl, rfl⟩ | ⟨h1, h2⟩
    · exact .inl ⟨rfl, rfl⟩
    · exact .inr ⟨fun q => h1 (by cases q; rfl), h2⟩
  · exact .inr ⟨fun q => (by cases q), h⟩

/-- One row's block is written; its mate knows nothing any more. -/
theorem Rel.write {E : Em} {A A' : AH} {w w' : World} (h : Rel E A w) {b B s : Nat} {e e' : TypeId} {cs cs' : List Value} {m m' : Option Nat} {c' : Array Value}
    (hb : A.obj b = some (.row e cs m)) (hB : E.blk b = some (B, s)) (hsz : w'.heap.size = w.heap.size)
    (hw : Row w' B c') (hc : c'.size = E.room B) (hoth : ∀ k, k ≠ B → w'.heap[k]? = w.heap[k]?) (hcs : CRel E s cs' c')
    (hn : A'.next = A.next)
    (hA : ∀ x o, A'.obj x = some o → (x = b ∧ o = .row e' cs' m') ∨ (x ≠ b ∧ some x ≠ m ∧ A.obj x = some o) ∨ (x ≠ b ∧ some x = m ∧ o = .dead))
    (hee : e' = e) (ht : ∀ c t fr, w.heap[B]? = some (.cells c t fr) → ∃ c' fr', w'.heap[B]? = some (.cells c' t fr')) :
    Rel E A' w' := by
  have hrow : ∀ x e1 cs1 m1, A'.obj x = some (.row e1 cs1 m1) → (x = b ∧ e1 = e' ∧ cs1 = cs' ∧ m1 = m') ∨ (x ≠ b ∧ some x ≠ m ∧ A.obj x = some (.row e1 cs1 m1)) := fun x e1 cs1 m1 hx => by
    rcases hA x _ hx with ⟨h1, h2⟩ | h1 | ⟨_, _, h2⟩
    · cases h2; exact .inl ⟨h1, rfl, rfl, rfl⟩
    · exact .inr h1
    · cases h2
  have hmap : ∀ x es, A'.obj x = some (.map es) → x ≠ b ∧ A.obj x = some (.map es) := fun x es hx => by
    rcases hA x _ hx with ⟨_, h2⟩ | h1 | ⟨_, _, h2⟩
    · cases h2
    · exact ⟨h1.1, h1.2.2⟩
    · cases h2
  have hnot : ∀ x e1 cs1 m1 s1, x ≠ b → some x ≠ m → A.obj x = some (.row e1 cs1 m1) → E.blk x ≠ some (B, s1) := fun x e1 cs1 m1 s1 hxb hxm hx hX =>
    hxm (h.apart b x _ _ _ _ _ _ _ _ _ (Ne.symm hxb) hb hx hB hX).symm
  have hiter : ∀ x q, A'.obj x = some (.iter q) → A.obj x = some (.iter q) := fun x q hx => by
    rcases hA x _ hx with ⟨_, h2⟩ | h1 | ⟨_, _, h2⟩
    · cases h2
    · exact h1.2.2
    · cases h2
  refine ⟨?_, ?_, ?_, ?_, ?_, ?_, ?_, ?_⟩
  · intro x hx; rw [hn] at hx; exact h.fresh x hx
  · intro x X s' hx; rw [hsz]; exact h.lt x X s' hx
  · intro x e1 cs1 m1 hx
    rcases hrow x e1 cs1 m1 hx with ⟨rfl, rfl, rfl, rfl⟩ | ⟨hxb, hxm, h1⟩
    · exact ⟨B, s, c', hB, hw, hc, hcs⟩
    · obtain ⟨X, s1, c1, hX, hwX, hcX, hr⟩ := h.row x e1 cs1 m1 h1
      have hXB : X ≠ B := fun q => by subst q; exact hnot x _ _ _ s1 hxb hxm h1 hX
      exact ⟨X, s1, c1, hX, hwX.congr (hoth X hXB), hcX, hr⟩
  · intro x y e1 e2 cs1 cs2 m1 m2 X s1 s2 hxy hx hy hX hY
    rcases hrow x _ _ _ hx with ⟨rfl, rfl, rfl, rfl⟩ | ⟨hxb, hxm, h1⟩
    · rcases hrow y _ _ _ hy with ⟨rfl, _⟩ | ⟨hyb, hym, h3⟩
      · exact absurd rfl hxy
      · rw [hB] at hX; cases hX
        exact absurd hY (hnot y _ _ _ _ hyb hym h3)
    · rcases hrow y _ _ _ hy with ⟨rfl, rfl, rfl, rfl⟩ | ⟨hyb, hym, h3⟩
      · rw [hB] at hY; cases hY
        exact absurd hX (hnot x _ _ _ _ hxb hxm h1)
      · exact h.apart x y _ _ _ _ _ _ _ _ _ hxy h1 h3 hX hY
  · intro x es hx
    obtain ⟨hxb, h1⟩ := hmap x es hx
    obtain ⟨R, ents, clock, hR, hwR, hr⟩ := h.map x es h1
    refine ⟨R, ents, clock, hR, ?_, hr⟩
    by_cases hRB : R = B
    · subst hRB
      obtain ⟨c, ⟨t, fr, hwX', _⟩, _⟩ := h.rowAt hb hB
      rw [hwR] at hwX'; cases hwX'
    · rw [hoth R hRB]; exact hwR
  · intro x y es es' R hx hy hX hY
    exact h.mapApart x y _ _ _ (hmap x _ hx).2 (hmap y _ hy).2 hX hY
  · intro x q hx
    obtain ⟨X, M, since, seen, last, hX, hM, hwX⟩ := h.iter x q (hiter x q hx)
    refine ⟨X, M, since, seen, last, hX, hM, ?_⟩
    by_cases hXB : X = B
    · subst hXB
      obtain ⟨c, ⟨t, fr, hwX', _⟩, _⟩ := h.rowAt hb hB
      rw [hwX] at hwX'; cases hwX'
    · rw [hoth X hXB]; exact hwX
  · intro x e1 cs1 m1 hx
    have hold : Typed E w x e1 := by
      rcases hrow x e1 cs1 m1 hx with ⟨rfl, rfl, rfl, rfl⟩ | ⟨_, _, h1⟩
      · rw [hee]; exact h.typ _ _ _ _ hb
      · exact h.typ _ _ _ _ h1
    rcases hold with h0 | ⟨X, c, fr, h1, h2⟩
    · exact .inl h0
    · by_cases hXB : X = B
      · subst hXB
        obtain ⟨c2, fr2, h3⟩ := ht c e1 fr h2
        exact .inr ⟨X, c2, fr2, h1, h3⟩
      · exact .inr ⟨X, c, fr, h1, by rw [hoth X hXB]; exact h2⟩

/-- A new row, or a new map. -/
def NewOK (E : Em) (A : AH) (E' : Em) (w' : World) (B s : Nat) : AObj → Prop
  | .row e cs m => (∃ c, Row w' B c ∧ c.size = E'.room B ∧ CRel E' s cs c) ∧ (e = 0 ∨ s = 0 ∧ ∃ c fr, w'.heap[B]? = some (.cells c e fr)) ∧ ∀ x e' cs' m' s', A.obj x = some (.row e' cs' m') → E.blk x = some (B, s') → m' = some A.next ∧ m = some x
  | .map es => s = 0 ∧ (∃ ents clock, w'.heap[B]? = some (.map ents clock) ∧ MRel E' es ents.toList) ∧ ∀ x es', A.obj x = some (.map es') → E.blk x ≠ some (B, 0)
  | .dead => True
  | .iter q => s = 0 ∧ ∃ M since seen last, E'.blk q = some (M, 0) ∧ w'.heap[B]? = some (.mapIter (some M) since seen last)
theorem Rel.add {E E' : Em} {A A' : AH} {w w' : World} (h : Rel E A w) (hle : E.le E') {B s : Nat} (hE : E'.blk A.next = some (B, s)) (hE' : ∀ x, x ≠ A.next → E'.blk x = E.blk x)
    (hsz : w.heap.size ≤ w'.heap.size) (hB : B < w'.heap.size) (hoth : ∀ k, k < w.heap.size → w'.heap[k]? = w.heap[k]?)
    (hn : A'.next = A.next + 1) {o : AObj} (hA : ∀ x o', A'.obj x = some o' → (x = A.next ∧ o' = o) ∨ (x ≠ A.next ∧ A.obj x = some o')) (ho : NewOK E A E' w' B s o) : Rel E' A' w' := by
  have hlt : ∀ x X s', E'.blk x = some (X, s') → X < w'.heap.size := fun x X s' hx => by
    by_cases hxn : x = A.next
    · subst hxn; rw [hE] at hx; cases hx; exact hB
    · rw [hE' x hxn] at hx; exact Nat.lt_of_lt_of_le (h.lt _ _ _ hx) hsz
  refine ⟨?_, hlt, ?_, ?_, ?_, ?_, ?_, ?_⟩
  · intro x hx
    rw [hn] at hx
    rw [hE' x (by omega)]
    exact h.fresh x (by omega)
  · intro x e1 cs1 m1 hx
    rcases hA x _ hx with ⟨rfl, rfl⟩ | ⟨hxn, h1⟩
    · obtain ⟨⟨c, h2, h3, h4⟩, _⟩ := ho
      exact ⟨B, s, c, hE, h2, h3, h4⟩
    · obtain ⟨X, s1, c1, hX, hwX, hcX, hr⟩ := h.row x e1 cs1 m1 h1
      exact ⟨X, s1, c1, hle.blk _ _ hX, hwX.congr (hoth X (h.lt _ _ _ hX)), by rw [hle.room _ _ _ hX]; exact hcX, hr.mono hle⟩
  · intro x y e1 e2 cs1 cs2 m1 m2 X s1 s2 hxy hx hy hX hY
    rcases hA x _ hx with ⟨rfl, hxo⟩ | ⟨hxn, h1⟩
    · rcases hA y _ hy with ⟨rfl, _⟩ | ⟨hyn, h2⟩
      · exact absurd rfl hxy
      · subst hxo
        rw [hE] at hX; cases hX
        rw [hE' y hyn] at hY
        exact (ho.2.2 y _ _ _ _ h2 hY).2
    · rcases hA y _ hy with ⟨rfl, hyo⟩ | ⟨hyn, h2⟩
      · subst hyo
        rw [hE] at hY; cases hY
        rw [hE' x hxn] at hX
        exact (ho.2.2 x _ _ _ _ h1 hX).1
      · rw [hE' x hxn] at hX; rw [hE' y hyn] at hY
        exact h.apart x y _ _ _ _ _ _ _ _ _ hxy h1 h2 hX hY
  · intro x es hx
    rcases hA x _ hx with ⟨rfl, hxo⟩ | ⟨hxn, h1⟩
    · subst hxo
      obtain ⟨rfl, ⟨ents, clock, h2, h3⟩, _⟩ := ho
      exact ⟨B, ents, clock, hE, h2, h3⟩
    · obtain ⟨R, ents, clock, hR, hwR, hr⟩ := h.map x es h1
      exact ⟨R, ents, clock, hle.blk _ _ hR, by rw [hoth R (h.lt _ _ _ hR)]; exact hwR, hr.mono hle⟩
  · intro x y es es' R hx hy hX hY
    rcases hA x _ hx with ⟨rfl, hxo⟩ | ⟨hxn, h1⟩
    · rcases hA y _ hy with ⟨rfl, _⟩ | ⟨hyn, h2⟩
      · rfl
      · subst hxo
        rw [hE] at hX; cases hX
        rw [hE' y hyn] at hY
        exact absurd hY (ho.2.2 y _ h2)
    · rcases hA y _ hy with ⟨rfl, hyo⟩ | ⟨hyn, h2⟩
      · subst hyo
        rw [hE] at hY; cases hY
        rw [hE' x hxn] at hX
        exact absurd hX (ho.2.2 x _ h1)
      · rw [hE' x hxn] at hX; rw [hE' y hyn] at hY
        exact h.mapApart x y _ _ _ h1 h2 hX hY
  · intro x q hx
    rcases hA x _ hx with ⟨rfl, hxo⟩ | ⟨hxn, h1⟩
    · subst hxo
      obtain ⟨rfl, M, since, seen, last, h2, h3⟩ := ho
      exact ⟨B, M, since, seen, last, hE, h2, h3⟩
    · obtain ⟨X, M, since, seen, last, hX, hM, hwX⟩ := h.iter x q h1
      exact ⟨X, M, since, seen, last, hle.blk _ _ hX, hle.blk _ _ hM, by rw [hoth X (h.lt _ _ _ hX)]; exact hwX⟩
  · intro x e1 cs1 m1 hx
    rcases hA x _ hx with ⟨rfl, rfl⟩ | ⟨hxn, h1⟩
    · rcases ho.2.1 with h0 | ⟨rfl, c, fr, h0⟩
      · exact .inl h0
      · exact .inr ⟨B, c, fr, hE, h0⟩
    · rcases h.typ _ _ _ _ h1 with h0 | ⟨X, c, fr, h2, h3⟩
      · exact .inl h0
      · exact .inr ⟨X, c, fr, hle.blk _ _ h2, by rw [hoth X (h.lt _ _ _ h2)]; exact h3⟩

/-- A map is written. -/
theorem Rel.mapPut {E : Em} {A A' : AH} {w w' : World} (h : Rel E A w) {r R : Nat} {es es' : List (Value × Value)} {ents : Array MapEntry} {clock : Nat}
    (hr : A.obj r = some (.map es)) (hR : E.blk r = some (R, 0)) (hw : w'.heap = w.heap.setIfInBounds R (.map ents clock)) (he : MRel E es' ents.toList)
    (hA : A' = A.put r (.map es')) : Rel E A' w' := by
  subst hA
  have hRlt := h.lt _ _ _ hR
  have hsz : w'.heap.size = w.heap.size := by rw [hw]; simp
  have hoth : ∀ k, k ≠ R → w'.heap[k]? = w.heap[k]? := fun k hk => by rw [hw, Array.getElem?_setIfInBounds_ne (Ne.symm hk)]
  have hown : w'.heap[R]? = some (.map ents clock) := by rw [hw]; simp [hRlt]
  obtain ⟨R', ents0, clock0, hR', hw0, _⟩ := h.map r es hr
  rw [hR] at hR'; cases hR'
  have hrow : ∀ x e cs m, (A.put r (.map es')).obj x = some (.row e cs m) → A.obj x = some (.row e cs m) := fun x e cs m hx => by
    rcases AH.obj_put hx with ⟨_, h2⟩ | ⟨_, h2⟩
    · cases h2
    · exact h2
  refine ⟨?_, ?_, ?_, ?_, ?_, ?_, ?_, ?_⟩
  · intro x hx; rw [AH.next_put] at hx; exact h.fresh x hx
  · intro x X s hx; rw [hsz]; exact h.lt x X s hx
  · intro x e cs m hx
    obtain ⟨X, s1, c1, hX, hwX, hcX, hr'⟩ := h.row x e cs m (hrow x e cs m hx)
    have hXR : X ≠ R := fun q => by
      subst q
      obtain ⟨t, fr, h1, _⟩ := hwX
      rw [hw0] at h1; cases h1
    exact ⟨X, s1, c1, hX, hwX.congr (hoth X hXR), hcX, hr'⟩
  · intro x y e1 e2 cs1 cs2 m1 m2 X s1 s2 hxy hx hy hX hY
    exact h.apart x y _ _ _ _ _ _ _ _ _ hxy (hrow _ _ _ _ hx) (hrow _ _ _ _ hy) hX hY
  · intro x es1 hx
    rcases AH.obj_put hx with ⟨rfl, h2⟩ | ⟨hxr, h2⟩
    · cases h2
      exact ⟨R, ents, clock, hR, hown, he⟩
    · obtain ⟨X, ents1, clock1, hX, hwX, hr'⟩ := h.map x es1 h2
      refine ⟨X, ents1, clock1, hX, ?_, hr'⟩
      by_cases hXR : X = R
      · subst hXR
        exact absurd (h.mapApart x r _ _ _ h2 hr hX hR) hxr
      · rw [hoth X hXR]; exact hwX
  · intro x y es1 es2 X hx hy hX hY
    have hm : ∀ x es1, (A.put r (.map es')).obj x = some (.map es1) → ∃ es2, A.obj x = some (.map es2) := fun x es1 hx => by
      rcases AH.obj_put hx with ⟨rfl, h2⟩ | ⟨_, h2⟩
      · exact ⟨es, hr⟩
      · exact ⟨es1, h2⟩
    obtain ⟨a1, h1⟩ := hm x _ hx
    obtain ⟨a2, h2⟩ := hm y _ hy
    exact h.mapApart x y _ _ _ h1 h2 hX hY
  · intro x q hx
    have hx' : A.obj x = some (.iter q) := by
      rcases AH.obj_put hx with ⟨_, h2⟩ | ⟨_, h2⟩
      · cases h2
      · exact h2
    obtain ⟨X, M, since, seen, last, hX, hM, hwX⟩ := h.iter x q hx'
    refine ⟨X, M, since, seen, last, hX, hM, ?_⟩
    by_cases hXR : X = R
    · subst hXR; rw [hw0] at hwX; cases hwX
    · rw [hoth X hXR]; exact hwX
  · intro x e cs m hx
    rcases h.typ _ _ _ _ (hrow x e cs m hx) with h0 | ⟨X, c, fr, h1, h2⟩
    · exact .inl h0
    · have hXR : X ≠ R := fun q => by subst q; rw [hw0] at h2; cases h2
      exact .inr ⟨X, c, fr, h1, by rw [hoth X hXR]; exact h2⟩

/-! ### A new block -/
/-- Number r stands at cell s of block B, of n cells. -/
def Em.add (E : Em) (r B s n : Nat) : Em where
  blk := fun x => if x = r then some (B, s) else E.blk x
  val := E.val
  one := E.one
  opq := E.opq
  room := fun X => if X = B then n else E.room X
theorem Em.le_add {E : Em} {r B s n : Nat} (hr : E.blk r = none) (hn : (∀ x s', E.blk x ≠ some (B, s')) ∨ n = E.room B) : E.le (E.add r B s n) := by
  refine ⟨?_, rfl, ?_⟩
  · intro b p hb
    have : b ≠ r := fun q => by subst q; rw [hr] at hb; cases hb
    simp [Em.add, this, hb]
  · intro b X s' hb
    simp only [Em.add]
    by_cases hX : X = B
    · subst hX
      rcases hn with h1 | h1
      · exact absurd hb (h1 b s')
      · rw [if_pos rfl]; exact h1
    · rw [if_neg hX]
theorem Em.le_refl (E : Em) : E.le E := ⟨fun _ _ h => h, rfl, fun _ _ _ _ => rfl⟩
theorem Em.le_trans {E1 E2 E3 : Em} (h : E1.le E2) (h' : E2.le E3) : E1.le E3 :=
  ⟨fun b p hb => h'.blk _ _ (h.blk _ _ hb), h'.val.trans h.val, fun b B s hb => (h'.room _ _ _ (h.blk _ _ hb)).trans (h.room _ _ _ hb)⟩
theorem heap_push_old {h : Array Obj} {o : Obj} {k : Nat} (hk : k < h.size) : (h.push o)[k]? = h[k]? := by
  rw [Array.getElem?_push]; rw [if_neg (by omega)]
theorem heap_push_new {h : Array Obj} {o : Obj} : (h.push o)[h.size]? = some o := by simp

/-- A new block of cells, none of them frozen. -/
theorem Rel.newRowF {E : Em} {A : AH} {w w' : World} (h : Rel E A w) {e t : TypeId} {cs : List Value} {m : Option Nat} {c : Array Value} {fr : Nat × Nat}
    (hw : w'.heap = w.heap.push (.cells c t fr)) (hfr : ∀ i, i < c.size → ¬ (fr.1 ≤ i ∧ i < fr.2)) (hc : CRel (E.add A.next w.heap.size 0 c.size) 0 cs c) (het : e = 0 ∨ e = t) :
    Rel (E.add A.next w.heap.size 0 c.size) ⟨A.heap.set (.row e cs m) A.next, A.next + 1⟩ w' := by
  have hno : ∀ x s', E.blk x ≠ some (w.heap.size, s') := fun x s' hx => Nat.lt_irrefl _ (h.lt _ _ _ hx)
  refine h.add (Em.le_add (h.fresh _ (Nat.le_refl _)) (.inl hno)) (B := w.heap.size) (s := 0) (by simp [Em.add]) (fun x hx => by simp [Em.add, hx]) (by rw [hw]; simp) (by rw [hw]; simp) (fun k hk => by rw [hw]; exact heap_push_old hk) rfl (fun x o' hx => AH.obj_new hx) ?_
  refine ⟨⟨c, ⟨t, fr, by rw [hw]; exact heap_push_new, hfr⟩, by simp [Em.add], hc⟩, het.imp id fun q => ⟨rfl, c, fr, by rw [hw, q]; exact heap_push_new⟩, fun x e' cs' m' s' _ hx => absurd hx (hno x s')⟩
theorem Rel.newRow {E : Em} {A : AH} {w w' : World} (h : Rel E A w) {e t : TypeId} {cs : List Value} {m : Option Nat} {c : Array Value}
    (hw : w'.heap = w.heap.push (.cells c t (0, 0))) (hc : CRel (E.add A.next w.heap.size 0 c.size) 0 cs c) (het : e = 0 ∨ e = t) :
    Rel (E.add A.next w.heap.size 0 c.size) ⟨A.heap.set (.row e cs m) A.next, A.next + 1⟩ w' := h.newRowF hw (fun i _ => by simp) hc het
theorem Em.le_new {E : Em} {A : AH} {w : World} (h : Rel E A w) (n : Nat) : E.le (E.add A.next w.heap.size 0 n) :=
  Em.le_add (h.fresh _ (Nat.le_refl _)) (.inl fun x s' hx => Nat.lt_irrefl _ (h.lt _ _ _ hx))
/-- A new map. -/
theorem Rel.newMap {E : Em} {A : AH} {w w' : World} (h : Rel E A w) {clock : Nat}
    (hw : w'.heap = w.heap.push (.map #[] clock)) : Rel (E.add A.next w.heap.size 0 0) ⟨A.heap.set (.map []) A.next, A.next + 1⟩ w' := by
  have hno : ∀ x s', E.blk x ≠ some (w.heap.size, s') := fun x s' hx => Nat.lt_irrefl _ (h.lt _ _ _ hx)
  refine h.add (Em.le_new h 0) (B := w.heap.size) (s := 0) (by simp [Em.add]) (fun x hx => by simp [Em.add, hx]) (by rw [hw]; simp) (by rw [hw]; simp) (fun k hk => by rw [hw]; exact heap_push_old hk) rfl (fun x o' hx => AH.obj_new hx) ?_
  exact ⟨rfl, ⟨#[], clock, by rw [hw]; exact heap_push_new, .nil⟩, fun x es' _ hx => hno _ _ hx⟩
/-- A new iterator. -/
theorem Rel.newIter {E : Em} {A : AH} {w w' : World} (h : Rel E A w) {q M since last : Nat} {seen : Array Nat} (hq : E.blk q = some (M, 0))
    (hw : w'.heap = w.heap.push (.mapIter (some M) since seen last)) : Rel (E.add A.next w.heap.size 0 0) ⟨A.heap.set (.iter q) A.next, A.next + 1⟩ w' := by
  refine h.add (Em.le_new h 0) (B := w.heap.size) (s := 0) (by simp [Em.add]) (fun x hx => by simp [Em.add, hx]) (by rw [hw]; simp) (by rw [hw]; simp) (fun k hk => by rw [hw]; exact heap_push_old hk) rfl (fun x o' hx => AH.obj_new hx) ?_
  exact ⟨rfl, M, since, seen, last, (Em.le_new h 0).blk _ _ hq, by rw [hw]; exact heap_push_new⟩
/-- Knowledge is given up: nothing is known of any row. -/
theorem Rel.forget {E : Em} {A : AH} {w : World} (h : Rel E A w) : Rel E ⟨.leaf, A.next⟩ w := by
  refine ⟨h.fresh, h.lt, ?_, ?_, ?_, ?_, fun b m hb => (by cases hb), fun b e cs m hb => by cases hb⟩
  · intro b e cs m hb; cases hb
  · intro b b' e e' cs cs' m m' B s s' hne hb; cases hb
  · intro b es hb; cases hb
  · intro b b' es es' R hb; cases hb
end Go.Proofs.YtohnakjamlhhkaaGreatDoor
