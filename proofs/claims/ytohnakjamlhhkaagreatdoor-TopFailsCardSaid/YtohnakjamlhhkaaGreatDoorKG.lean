/- Operations in whatever order, by what stays so; a map's entries. -/
import Derived.Test.YtohnakjamlhhkaaGreatDoorKE
namespace Go.Proofs.YtohnakjamlhhkaaGreatDoor
open Go Go.Proofs Go.RowKit
set_option linter.unusedVariables false
set_option linter.unusedSimpArgs false
set_option maxRecDepth 100000

/-! ### The code of lines.commands -/
def sndC : Code → Code
  | .seq _ y => y
  | c => c
def fstC : Code → Code
  | .seq x _ => x
  | c => c
def inC : Code → Code
  | .block _ b => b
  | .loop b => b
  | c => c
def opsOf : Code → Array Oper
  | .region _ o _ => o
  | _ => #[]
noncomputable def code91 : Code := match Tryz.f91.body with
  | some c => c
  | none => .skip
noncomputable def ops0 : Array Oper := opsOf (fstC code91)
noncomputable def ops1 : Array Oper := opsOf (fstC (sndC code91))
noncomputable def ops2 : Array Oper := opsOf (fstC (fstC (sndC (sndC code91))))
noncomputable def loop91 : Code := inC (inC (sndC (fstC (sndC (sndC code91)))))
noncomputable def ops3 : Array Oper := opsOf (fstC loop91)
noncomputable def ops4 : Array Oper := opsOf (fstC (inC (sndC (sndC loop91))))
noncomputable def ops5 : Array Oper := opsOf (sndC (inC (sndC (sndC loop91))))
noncomputable def ops6 : Array Oper := opsOf (fstC (sndC (sndC (sndC code91))))
theorem code91_eq : Tryz.f91.body = some (.seq (.region 0 ops0 false) (.seq (.region 1 ops1 true) (.seq (.seq (.region 2 ops2 false) (.block 0 (.loop (.seq (.region 3 ops3 false) (.seq (.cond (.tmp 51) .skip (.exit 0)) (.block 1 (.seq (.region 4 ops4 false) (.region 5 ops5 true)))))))) (.seq (.region 6 ops6 false) .ret)))) := by kernel_rfl

/-! ### Whatever order -/
theorem count_set : ∀ (l : List Bool) (i : Nat), l[i]? = some false → (l.set i true).countP (! ·) + 1 = l.countP (! ·)
  | [], i, h => by simp at h
  | b :: l, 0, h => by
    simp at h; subst h
    simp [List.countP_cons]
  | b :: l, i + 1, h => by
    have := count_set l i (by simpa using h)
    simp only [List.set_cons_succ, List.countP_cons]
    omega
theorem wpAny_inv {P : Program} {ops : Array Oper} {Q : Exit → Act → World → Prop} {I : Array Bool → Act → World → Prop}
    (hstep : ∀ L a w i, I L a w → i ∈ Region.ready .any ops L → wpOp P ops Q i (I (L.setIfInBounds i true)) a w) (hend : ∀ L a w, I L a w → Region.ready .any ops L = [] → Q .normal a w) :
    ∀ (n : Nat) (L : Array Bool) (a : Act) (w : World), L.toList.countP (! ·) ≤ n → I L a w → wpAny P .any ops Q n L a w := by
  intro n
  induction n with
  | zero =>
    intro L a w hn hI
    have : Region.ready .any ops L = [] := by
      cases hr : Region.ready .any ops L with
      | nil => rfl
      | cons i l =>
        have hi : i ∈ Region.ready .any ops L := by rw [hr]; simp
        obtain ⟨h1, _⟩ := mem_ready.1 hi
        have h2 : L.toList[i]? = some false := by
          rcases Nat.lt_or_ge i L.size with h3 | h3
          · simp [h3] at h1 ⊢; exact h1
          · simp [Array.getElem?_eq_none h3] at h1
        have := count_set _ _ h2
        omega
    exact ⟨this, hend L a w hI this⟩
  | succ n ih =>
    intro L a w hn hI
    refine ⟨hend L a w hI, fun i hi => wpOp_mono (fun a' w' h' => ih _ a' w' ?_ h') (hstep L a w i hI hi)⟩
    obtain ⟨h1, _⟩ := mem_ready.1 hi
    have h2 : L.toList[i]? = some false := by
      rcases Nat.lt_or_ge i L.size with h3 | h3
      · simp [h3] at h1 ⊢; exact h1
      · simp [Array.getElem?_eq_none h3] at h1
    have := count_set _ _ h2
    rw [Array.toList_setIfInBounds]
    omega
def depsB (l : List Oper) (n : Nat) : Bool := match l with
  | [] => true
  | o :: l => o.after.toList.all (fun e => Nat.blt e.on n) && depsB l (n + 1)
theorem depsB_get : ∀ {l : List Oper} {n : Nat}, depsB l n = true → ∀ (i : Nat) o, l[i]? = some o → ∀ e ∈ o.after, e.on < n + i
  | [], n, h, i, o, ho, e, he => by simp at ho
  | o' :: l, n, h, 0, o, ho, e, he => by
    simp only [depsB, Bool.and_eq_true] at h
    simp at ho; subst ho
    have := List.all_eq_true.1 h.1 e (by simpa using he)
    have := Nat.le_of_ble_eq_true this
    omega
  | o' :: l, n, h, i + 1, o, ho, e, he => by
    simp only [depsB, Bool.and_eq_true] at h
    have := depsB_get h.2 i o (by simpa using ho) e he
    omega
theorem all_listed {ops : Array Oper} (hd : depsB ops.toList 0 = true) {L : Array Bool} (hL : Region.ready .any ops L = []) (hsz : L.size = ops.size) : ∀ i, i < ops.size → L.getD i false = true := by
  intro i
  induction i using Nat.strongRecOn with
  | _ i ih =>
    intro hi
    cases hb : L.getD i false with
    | true => rfl
    | false =>
      have hmem : i ∈ Region.ready .any ops L := by
        refine mem_ready.2 ⟨?_, ops[i], Array.getElem?_eq_getElem hi, fun e he _ => ?_⟩
        · simp [hsz, hi] at hb ⊢; exact hb
        · have := depsB_get hd i ops[i] (by simp [hi]) e he
          exact ih _ (by omega) (by omega)
      rw [hL] at hmem
      simp at hmem

/-! ### A map's entries -/
abbrev Specs := List (ByteArray × (Value → Prop))
inductive Ents : Specs → List MapEntry → Prop where
  | nil : Ents [] []
  | cons (k : ByteArray) (p : Value → Prop) (v : Value) (b : Nat) (l : Specs) (es : List MapEntry) (hp : p v) (h : Ents l es) : Ents ((k, p) :: l) (⟨.string k, v, b⟩ :: es)
def MapHas (w : World) (R : Nat) (l : Specs) : Prop := ∃ ents clock l', w.heap[R]? = some (.map ents clock) ∧ Ents l l' ∧ l'.Perm ents.toList
theorem Ents.perm {l m : Specs} (hp : l.Perm m) : ∀ {es : List MapEntry}, Ents l es → ∃ es', Ents m es' ∧ es'.Perm es := by
  induction hp with
  | nil => intro es h; exact ⟨es, h, .refl _⟩
  | cons x _ ih =>
    intro es h
    cases h with
    | cons k p v b l es' hp h =>
      obtain ⟨e2, h1, h2⟩ := ih h
      exact ⟨_, .cons k p v b _ _ hp h1, h2.cons _⟩
  | swap x y l =>
    intro es h
    cases h with
    | cons k p v b _ es' hp h =>
      cases h with
      | cons k2 p2 v2 b2 _ es2 hp2 h => exact ⟨_, .cons _ _ _ _ _ _ hp2 (.cons _ _ _ _ _ _ hp h), .swap _ _ _⟩
  | trans _ _ ih1 ih2 =>
    intro es h
    obtain ⟨e1, h1, h2⟩ := ih1 h
    obtain ⟨e2, h3, h4⟩ := ih2 h1
    exact ⟨e2, h3, h4.trans h2⟩
theorem MapHas.perm {w : World} {R : Nat} {l m : Specs} (hp : l.Perm m) (h : MapHas w R l) : MapHas w R m := by
  obtain ⟨ents, clock, l', h1, h2, h3⟩ := h
  obtain ⟨es, h4, h5⟩ := h2.perm hp
  exact ⟨ents, clock, es, h1, h4, h5.trans h3⟩
theorem MapHas.congr {w w' : World} {R : Nat} {l : Specs} (h : MapHas w R l) (hw : w'.heap[R]? = w.heap[R]?) : MapHas w' R l := by
  obtain ⟨ents, clock, l', h1, h2⟩ := h
  exact ⟨ents, clock, l', by rw [hw]; exact h1, h2⟩
theorem Ents.keys {l : Specs} {es : List MapEntry} (h : Ents l es) {k : ByteArray} (hk : ∀ s ∈ l, s.1 ≠ k) : ∀ e ∈ es, keyEq (.string k) e.key = some false := by
  induction h with
  | nil => simp
  | cons k' p v b l es hp h ih =>
    intro e he
    rcases List.mem_cons.1 he with rfl | he
    · have := hk (k', p) (by simp)
      have h2 : (k == k') = false := by simpa using Ne.symm this
      simp [keyEq, h2]
    · exact ih (fun s hs => hk s (by simp [hs])) e he
/-- An entry of a new key. -/
theorem MapHas.insert {w : World} {R : Nat} {l : Specs} (h : MapHas w R l) {k : ByteArray} (hk : ∀ s ∈ l, s.1 ≠ k) {p : Value → Prop} {x : Value} (hx : p x) :
    ∃ w', (Instr.mapUpdate 178 (.map (some R)) (.string k) x).run Tryz.prog w = .ok () w' ∧ MapHas w' R ((k, p) :: l) ∧ (∀ B, B ≠ R → w'.heap[B]? = w.heap[B]?) ∧ w'.heap.size = w.heap.size ∧ Env w w' := by
  obtain ⟨ents, clock, l', h1, h2, h3⟩ := h
  have hlack : ∀ e ∈ ents.toList, keyEq (.string k) e.key = some false := fun e he => h2.keys hk e (h3.mem_iff.2 he)
  have hkt : keyT Tryz.prog 9 (.string k) = true := by
    unfold keyT
    rw [Tryz.underlying9]
  obtain ⟨d, hd, hs⟩ := sameNow_of hkt hlack
  have hfn := findNow_none ents.toList 0 hs
  have hlt : R < w.heap.size := (Array.getElem?_eq_some_iff.1 h1).1
  refine ⟨{ w with heap := w.heap.setIfInBounds R (.map (ents.push ⟨.string k, x, clock⟩) (clock + 1)) }, ?_, ⟨ents.push ⟨.string k, x, clock⟩, clock + 1, ⟨.string k, x, clock⟩ :: l', by simp [hlt], .cons _ _ _ _ _ _ hx h2, ?_⟩, fun B hB => by simp [Array.getElem?_setIfInBounds_ne (Ne.symm hB)], by simp, ⟨rfl, rfl, rfl⟩⟩
  · simp only [Instr.mapUpdate, Sem.run_bind, run_und Tryz.underlying178, Result.andThen_ok, run_getObj h1 (by simp), checkKey_run hkt, Instr.findKey, run_und hd, hfn, Sem.run_pure, run_setObj h1 (by simp)]
  · simp only [Array.toList_push]
    exact (h3.cons _).trans (List.perm_append_comm (l₁ := [(⟨.string k, x, clock⟩ : MapEntry)]))
inductive VSpecs (E : Em) : Specs → List (Value × Value) → Prop where
  | nil : VSpecs E [] []
  | cons (k : ByteArray) (p : Value → Prop) (u : Value) (l : Specs) (vs : List (Value × Value)) (hp : ∀ v, p v → VRel E u v) (h : VSpecs E l vs) : VSpecs E ((k, p) :: l) ((.string k, u) :: vs)
/-- What is said of a map's entries, as the evaluator has it. -/
theorem Ents.erel {E : Em} {l : Specs} {es : List MapEntry} (h : Ents l es) : ∀ {vs : List (Value × Value)}, VSpecs E l vs → ERel E vs es := by
  induction h with
  | nil => intro vs hv; cases hv; exact .nil
  | cons k p v b l es hp _ ih =>
    intro vs hv
    cases hv with
    | cons _ _ u _ vs hu hv => exact .cons _ _ _ _ _ _ _ (.string _) (hu v hp) (ih hv)
end Go.Proofs.YtohnakjamlhhkaaGreatDoor
