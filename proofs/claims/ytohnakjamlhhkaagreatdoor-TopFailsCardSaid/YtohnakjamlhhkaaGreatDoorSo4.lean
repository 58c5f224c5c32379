/- Lists, steps of the world, what is read and written. -/
import Derived.Test.YtohnakjamlhhkaaGreatDoorSo3
namespace Go.Proofs.YtohnakjamlhhkaaGreatDoor
open Go
set_option linter.unusedVariables false
set_option linter.unusedSimpArgs false

/-! ### Lists -/
theorem nth_eq {α : Type} : ∀ (l : List α) (n : Nat), nth l n = l[n]?
  | [], n => by cases n <;> rfl
  | x :: l, 0 => rfl
  | x :: l, n + 1 => by
    show nth l n = _
    rw [nth_eq l n, List.getElem?_cons_succ]
theorem nthV_eq : ∀ (l : List Value) (n : Nat), nthV l n = l[n]?
  | [], n => by cases n <;> rfl
  | x :: l, 0 => rfl
  | x :: l, n + 1 => by
    show nthV l n = _
    rw [nthV_eq l n, List.getElem?_cons_succ]
theorem drop_eq {α : Type} : ∀ (n : Nat) (l : List α), drop_ n l = l.drop n
  | 0, l => rfl
  | n + 1, [] => rfl
  | n + 1, x :: l => by
    show drop_ n l = _
    rw [drop_eq n l]; rfl
theorem take_eq {α : Type} : ∀ (n : Nat) (l r : List α), take_ n l = some r → r.length = n ∧ ∀ (i : Nat) v, r[i]? = some v → l[i]? = some v
  | 0, l, r, h => by
    have : r = [] := by cases h; rfl
    subst this; simp
  | n + 1, [], r, h => by cases h
  | n + 1, x :: l, r, h => by
    have h' : Option.rec none (fun r => some (x :: r)) (take_ n l) = some r := h
    cases h2 : take_ n l with
    | none => rw [h2] at h'; cases h'
    | some r' =>
      rw [h2] at h'
      have : r = x :: r' := by cases h'; rfl
      subst this
      have ih := take_eq n l r' h2
      refine ⟨by simp [ih.1], fun i v hv => ?_⟩
      cases i with
      | zero => simpa using hv
      | succ i => simp only [List.getElem?_cons_succ] at hv ⊢; exact ih.2 i v hv
theorem slice_eq {α : Type} {l : List α} {o n : Nat} {r : List α} (h : slice_ l o n = some r) : r.length = n ∧ ∀ (i : Nat) v, r[i]? = some v → l[o + i]? = some v := by
  unfold slice_ at h
  rw [drop_eq] at h
  have := take_eq n _ r h
  refine ⟨this.1, fun i v hv => ?_⟩
  have h2 := this.2 i v hv
  rwa [List.getElem?_drop] at h2
theorem setV_eq (v : Value) : ∀ (l : List Value) (n : Nat) (r : List Value), setV v l n = some r → n < l.length ∧ r = l.set n v
  | [], n, r, h => by cases h
  | x :: l, 0, r, h => by
    have : r = v :: l := by cases h; rfl
    subst this; simp
  | x :: l, n + 1, r, h => by
    have h' : Option.rec none (fun r => some (x :: r)) (setV v l n) = some r := h
    cases h2 : setV v l n with
    | none => rw [h2] at h'; cases h'
    | some r' =>
      rw [h2] at h'
      have : r = x :: r' := by cases h'; rfl
      subst this
      have ih := setV_eq v l n r' h2
      simp [ih.1, ih.2]
theorem write_eq : ∀ (l : List Value) (o : Nat) (vs r : List Value), write_ l o vs = some r →
    r.length = l.length ∧ (vs ≠ [] → o + vs.length ≤ l.length) ∧ ∀ k, r[k]? = if o ≤ k ∧ k < o + vs.length then vs[k - o]? else l[k]?
  | [], 0, [], r, h => by
    have : r = [] := by cases h; rfl
    subst this; simp
  | [], 0, v :: vs, r, h => by cases h
  | [], o + 1, vs, r, h => by cases h
  | x :: l, 0, [], r, h => by
    have : r = x :: l := by cases h; rfl
    subst this
    refine ⟨rfl, fun h => absurd rfl h, fun k => ?_⟩
    rw [if_neg (by simp)]
  | x :: l, 0, v :: vs, r, h => by
    have h' : Option.rec none (fun r => some (v :: r)) (write_ l 0 vs) = some r := h
    cases h2 : write_ l 0 vs with
    | none => rw [h2] at h'; cases h'
    | some r' =>
      rw [h2] at h'
      have : r = v :: r' := by cases h'; rfl
      subst this
      obtain ⟨e1, e2, e3⟩ := write_eq l 0 vs r' h2
      refine ⟨by simp [e1], fun _ => ?_, fun k => ?_⟩
      · cases vs with
        | nil => simp
        | cons y ys => have := e2 (by simp); simp at this ⊢; omega
      · cases k with
        | zero => simp
        | succ k =>
          rw [List.getElem?_cons_succ, e3 k]
          simp only [Nat.zero_add, Nat.zero_le, true_and, List.length_cons, Nat.sub_zero, List.getElem?_cons_succ, Nat.add_lt_add_iff_right]
  | x :: l, o + 1, vs, r, h => by
    have h' : Option.rec none (fun r => some (x :: r)) (write_ l o vs) = some r := h
    cases h2 : write_ l o vs with
    | none => rw [h2] at h'; cases h'
    | some r' =>
      rw [h2] at h'
      have : r = x :: r' := by cases h'; rfl
      subst this
      obtain ⟨e1, e2, e3⟩ := write_eq l o vs r' h2
      refine ⟨by simp [e1], fun hne => by have := e2 hne; simp; omega, fun k => ?_⟩
      cases k with
      | zero => rw [if_neg (by omega)]; simp
      | succ k =>
        rw [List.getElem?_cons_succ, e3 k, List.getElem?_cons_succ]
        by_cases hk : o ≤ k ∧ k < o + vs.length
        · rw [if_pos hk, if_pos (by omega), show k + 1 - (o + 1) = k - o by omega]
        · rw [if_neg hk, if_neg (by omega)]

/-! ### Values that fill one cell -/
theorem oneOf_eq (v : Value) : oneOf v = oneC v := by
  cases v <;> try rfl
  case chan r => cases r <;> rfl
theorem oneC_rel {E : Em} {v v' : Value} (h : oneC v = true) (hr : VRel E v v') : v'.oneCell' = true := by
  cases hr <;> first | rfl | (cases h; done) | exact E.one _

/-! ### A step of the world -/
def Owned (E : Em) (A : AH) (B : Nat) : Prop := ∃ b o s, A.obj b = some o ∧ o ≠ .dead ∧ E.blk b = some (B, s)
/-- The streams are as they were. -/
structure Env (w w' : World) : Prop where
  os : w'.os = w.os
  tape : w'.tape = w.tape
  output : w'.output = w.output
theorem Env.refl (w : World) : Env w w := ⟨rfl, rfl, rfl⟩
theorem Env.trans {w1 w2 w3 : World} (h : Env w1 w2) (h' : Env w2 w3) : Env w1 w3 := ⟨h'.os.trans h.os, h'.tape.trans h.tape, h'.output.trans h.output⟩
structure Stp (E : Em) (A : AH) (w : World) (E' : Em) (A' : AH) (w' : World) : Prop where
  le : E.le E'
  rel : Rel E' A' w'
  size : w.heap.size ≤ w'.heap.size
  next : A.next ≤ A'.next
  keep : ∀ b, b < A.next → E'.blk b = E.blk b
  frame : ∀ B, B < w.heap.size → ¬ Owned E A B → w'.heap[B]? = w.heap[B]? ∧ ¬ Owned E' A' B
  env : Env w w'
theorem Stp.refl {E : Em} {A : AH} {w : World} (h : Rel E A w) : Stp E A w E A w :=
  ⟨E.le_refl, h, Nat.le_refl _, Nat.le_refl _, fun _ _ => rfl, fun B _ hB => ⟨rfl, hB⟩, .refl w⟩
theorem Stp.trans {E1 E2 E3 : Em} {A1 A2 A3 : AH} {w1 w2 w3 : World} (h : Stp E1 A1 w1 E2 A2 w2) (h' : Stp E2 A2 w2 E3 A3 w3) : Stp E1 A1 w1 E3 A3 w3 :=
  ⟨Em.le_trans h.le h'.le, h'.rel, Nat.le_trans h.size h'.size, Nat.le_trans h.next h'.next,
    fun b hb => (h'.keep b (Nat.lt_of_lt_of_le hb h.next)).trans (h.keep b hb),
    fun B hB hn => by
      obtain ⟨e1, n1⟩ := h.frame B hB hn
      obtain ⟨e2, n2⟩ := h'.frame B (Nat.lt_of_lt_of_le hB h.size) n1
      exact ⟨e2.trans e1, n2⟩, h.env.trans h'.env⟩
/-- The world's heap is the same. -/
theorem Stp.congr {E : Em} {A : AH} {w w' : World} (h : Rel E A w) (hh : w'.heap = w.heap) (he : Env w w') : Stp E A w E A w' :=
  ⟨E.le_refl, h.congr hh, by rw [hh]; exact Nat.le_refl _, Nat.le_refl _, fun _ _ => rfl, fun B _ hB => ⟨by rw [hh], hB⟩, he⟩
/-- A new object. -/
theorem Stp.new {E : Em} {A : AH} {w w' : World} (h : Rel E A w) {o : AObj} {ob : Obj} {n : Nat} (hw : w'.heap = w.heap.push ob)
    (hr : Rel (E.add A.next w.heap.size 0 n) ⟨A.heap.set o A.next, A.next + 1⟩ w') (he : Env w w' := by exact ⟨rfl, rfl, rfl⟩) : Stp E A w (E.add A.next w.heap.size 0 n) ⟨A.heap.set o A.next, A.next + 1⟩ w' := by
  refine ⟨Em.le_new h n, hr, by rw [hw]; simp, Nat.le_succ _, fun b hb => by simp [Em.add, Nat.ne_of_lt hb], fun B hB hn => ⟨by rw [hw]; exact heap_push_old hB, ?_⟩, he⟩
  rintro ⟨b, o', s, h1, h2, h3⟩
  rcases AH.obj_new h1 with ⟨rfl, rfl⟩ | ⟨hb, h1⟩
  · simp only [Em.add, if_true] at h3; cases h3; omega
  · simp only [Em.add, if_neg hb] at h3
    exact hn ⟨b, o', s, h1, h2, h3⟩
theorem AH.obj_lt {E : Em} {A : AH} {w : World} (h : Rel E A w) {b : Nat} {p : Nat × Nat} (hb : E.blk b = some p) : b < A.next := by
  rcases Nat.lt_or_ge b A.next with h1 | h1
  · exact h1
  · rw [h.fresh b h1] at hb; cases hb
/-- A step that writes one row, and perhaps forgets others. -/
theorem Stp.wrote {E : Em} {A A' : AH} {w w' : World} (h : Rel E A w) {b B s : Nat} {e e' : TypeId} {cs cs' : List Value} {m m' : Option Nat} {c' : Array Value}
    (hb : A.obj b = some (.row e cs m)) (hB : E.blk b = some (B, s)) (hsz : w'.heap.size = w.heap.size)
    (hw : Row w' B c') (hc : c'.size = E.room B) (hoth : ∀ k, k ≠ B → w'.heap[k]? = w.heap[k]?) (hcs : CRel E s cs' c')
    (hn : A'.next = A.next)
    (hA : ∀ x o, A'.obj x = some o → (x = b ∧ o = .row e' cs' m') ∨ (x ≠ b ∧ some x ≠ m ∧ A.obj x = some o) ∨ (x ≠ b ∧ some x = m ∧ o = .dead))
    (hee : e' = e) (ht : ∀ c t fr, w.heap[B]? = some (.cells c t fr) → ∃ c' fr', w'.heap[B]? = some (.cells c' t fr')) (he : Env w w' := by exact ⟨rfl, rfl, rfl⟩) : Stp E A w E A' w' := by
  refine ⟨E.le_refl, h.write hb hB hsz hw hc hoth hcs hn hA hee ht, by omega, by omega, fun _ _ => rfl, fun X hX hno => ⟨hoth X ?_, ?_⟩, he⟩
  · intro q; subst q; exact hno ⟨b, _, s, hb, by simp, hB⟩
  · rintro ⟨x, o, s', h1, h2, h3⟩
    rcases hA x o h1 with ⟨rfl, _⟩ | ⟨_, _, h4⟩ | ⟨_, _, rfl⟩
    · rw [hB] at h3; cases h3; exact hno ⟨x, _, s, hb, by simp, hB⟩
    · exact hno ⟨x, o, s', h4, h2, h3⟩
    · exact h2 rfl
theorem AH.put_wrote {A : AH} {b : Nat} {o : AObj} {m : Option Nat} {x : Nat} {o' : AObj} (h : ((unmate A m).put b o).obj x = some o') :
    (x = b ∧ o' = o) ∨ (x ≠ b ∧ some x ≠ m ∧ A.obj x = some o') ∨ (x ≠ b ∧ some x = m ∧ o' = .dead) := by
  rcases AH.obj_put h with h1 | ⟨h1, h2⟩
  · exact .inl h1
  · rcases AH.obj_unmate h2 with ⟨h3, h4⟩ | ⟨h3, h4⟩
    · exact .inr (.inr ⟨h1, h3, h4⟩)
    · exact .inr (.inl ⟨h1, h3, h4⟩)
/-- A map is written. -/
theorem Stp.mapPut {E : Em} {A : AH} {w w' : World} (h : Rel E A w) {r R : Nat} {es es' : List (Value × Value)} {ents : Array MapEntry} {clock : Nat}
    (hr : A.obj r = some (.map es)) (hR : E.blk r = some (R, 0)) (hw : w'.heap = w.heap.setIfInBounds R (.map ents clock)) (he : MRel E es' ents.toList) (hv : Env w w' := by exact ⟨rfl, rfl, rfl⟩) : Stp E A w E (A.put r (.map es')) w' := by
  refine ⟨E.le_refl, h.mapPut hr hR hw he rfl, by rw [hw]; simp, by rw [AH.next_put]; exact Nat.le_refl _, fun _ _ => rfl, fun X hX hno => ⟨?_, ?_⟩, hv⟩
  · have : X ≠ R := fun q => by subst q; exact hno ⟨r, _, 0, hr, by simp, hR⟩
    rw [hw, Array.getElem?_setIfInBounds_ne (Ne.symm this)]
  · rintro ⟨x, o, s', h1, h2, h3⟩
    rcases AH.obj_put h1 with ⟨rfl, _⟩ | ⟨_, h4⟩
    · rw [hR] at h3; cases h3; exact hno ⟨x, _, 0, hr, by simp, hR⟩
    · exact hno ⟨x, o, s', h4, h2, h3⟩

/-! ### What is read -/
theorem cellA_some {A : AH} {a : Addr} {v : Value} (h : cellA A a = some v) : ∃ e cs m, A.obj a.block = some (.row e cs m) ∧ cs[a.off]? = some v := by
  obtain ⟨b, o, sp⟩ := a
  have h' : Option.rec none (fun cs => nthV cs o) (cellsOf (A.obj b)) = some v := h
  cases ho : A.obj b with
  | none => rw [ho] at h'; cases h'
  | some x =>
    rw [ho] at h'
    cases x with
    | row e cs m =>
      have h2 : nthV cs o = some v := h'
      rw [nthV_eq] at h2
      exact ⟨e, cs, m, rfl, h2⟩
    | map _ => cases h'
    | dead => cases h'
    | iter _ => cases h'
theorem cellsA_some {A : AH} {n : Nat} {a : Addr} {v : Value} (h : cellsA A n a = some v) : ∃ e cs m r, A.obj a.block = some (.row e cs m) ∧ slice_ cs a.off n = some r ∧ v = .agg r.toArray := by
  obtain ⟨b, o, sp⟩ := a
  have h' : Option.rec none (fun cs => Option.rec none (fun r => some (Value.agg r.toArray)) (slice_ cs o n)) (cellsOf (A.obj b)) = some v := h
  cases ho : A.obj b with
  | none => rw [ho] at h'; cases h'
  | some x =>
    rw [ho] at h'
    cases x with
    | row e cs m =>
      have h2 : Option.rec none (fun r => some (Value.agg r.toArray)) (slice_ cs o n) = some v := h'
      cases h3 : slice_ cs o n with
      | none => rw [h3] at h2; cases h2
      | some r =>
        rw [h3] at h2
        exact ⟨e, cs, m, r, rfl, h3, by cases h2; rfl⟩
    | map _ => cases h'
    | dead => cases h'
    | iter _ => cases h'
/-- Cells that are known lie in the world. -/
theorem Rel.range {E : Em} {A : AH} {w : World} (h : Rel E A w) {b e : Nat} {cs : List Value} {m : Option Nat} (hb : A.obj b = some (.row e cs m)) {B s : Nat} (hB : E.blk b = some (B, s))
    {o n : Nat} {r : List Value} (hr : slice_ cs o n = some r) : ∃ r', VRels E r r' ∧ r'.length = n ∧ (∀ v ∈ r, oneC v = true) ∧ ∀ j v, r'[j]? = some v → w.cell? ⟨B, o + s + j, none⟩ = some v := by
  obtain ⟨c, hc, _, hcs⟩ := h.rowAt hb hB
  obtain ⟨hl, hi⟩ := slice_eq hr
  clear hr
  induction r generalizing o n with
  | nil => exact ⟨[], .nil, by simpa using hl, by simp, by simp⟩
  | cons x r ih =>
    obtain ⟨h1, x', h2, h3⟩ := hcs _ _ (hi 0 x rfl)
    obtain ⟨r', h4, h5, h6, h7⟩ := ih (o := o + 1) (n := n - 1) (by simp at hl ⊢; omega) (fun i v hv => by have := hi (i + 1) v (by simpa using hv); rwa [show o + (i + 1) = o + 1 + i by omega] at this)
    refine ⟨x' :: r', .cons _ _ _ _ h3 h4, by simp at hl ⊢; omega, ?_, ?_⟩
    · intro v hv
      rcases List.mem_cons.1 hv with rfl | hv
      · exact h1
      · exact h6 v hv
    · intro j v hv
      cases j with
      | zero =>
        simp only [List.getElem?_cons_zero, Option.some.injEq] at hv
        subst hv
        rw [hc.cell]; simpa using h2
      | succ j =>
        have := h7 j v (by simpa using hv)
        rwa [show o + s + (j + 1) = o + 1 + s + j by omega]
theorem VRel.ptr_inv {E : Em} {a : Addr} {v' : Value} (h : VRel E (.pointer (some a)) v') : ∃ B s, a.spot = none ∧ E.blk a.block = some (B, s) ∧ v' = .pointer (some ⟨B, a.off + s, none⟩) := by
  cases h with
  | ptr b o B s hb => exact ⟨B, s, rfl, hb, rfl⟩
end Go.Proofs.YtohnakjamlhhkaaGreatDoor
