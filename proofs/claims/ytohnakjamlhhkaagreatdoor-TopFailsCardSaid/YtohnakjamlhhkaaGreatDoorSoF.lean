/- A plan's run stands for every order. -/
import Derived.Test.YtohnakjamlhhkaaGreatDoorSoE
namespace Go.Proofs.YtohnakjamlhhkaaGreatDoor
open Go
set_option linter.unusedVariables false
set_option linter.unusedSimpArgs false

def PStep.isEff : PStep → Bool
  | .eff _ _ _ _ => true
  | _ => false
/-- The step of a number. -/
def stepAt (l : List PStep) (i : Nat) : Option PStep := l.find? fun p => Nat.beq p.idx i
theorem stepAt_inv {l : List PStep} {i : Nat} {q : PStep} (h : stepAt l i = some q) : q ∈ l ∧ q.idx = i :=
  by
  unfold stepAt at h
  exact ⟨List.mem_of_find?_eq_some h, Nat.eq_of_beq_eq_true (by simpa using List.find?_some h)⟩
theorem stepAt_mem : ∀ {l : List PStep}, (l.Pairwise fun p q => p.idx ≠ q.idx) → ∀ {q : PStep}, q ∈ l → stepAt l q.idx = some q
  | [], _, q, h => by cases h
  | p :: l, hn, q, h => by
    obtain ⟨h1, h2⟩ := List.pairwise_cons.1 hn
    unfold stepAt
    rw [List.find?_cons]
    rcases List.mem_cons.1 h with rfl | h
    · simp
    · have : Nat.beq p.idx q.idx = false := by
        cases hb : Nat.beq p.idx q.idx with
        | false => rfl
        | true => exact absurd (Nat.eq_of_beq_eq_true hb) (h1 q h)
      rw [this]
      exact stepAt_mem h2 h
section
variable {P : Program} {ops : Array Oper} {C : Con} {r : Nat}
/-- An effect that waits for k came up. -/
def Released (st : Nat → Option PStep) (L : Array Bool) (k : Nat) : Prop := ∃ j o need mats, L.getD j false = true ∧ st j = some (.eff j o need mats) ∧ k ∈ directOn o
/-- All that was read ahead is still so. -/
def SW (st : Nat → Option PStep) (W : List Watch) (L : Array Bool) (A : AH) : Prop := ∀ x ∈ W, Released st L x.idx ∨ x.op.run x.fr A = some (.val x.val A)
theorem Released.set {st : Nat → Option PStep} {L : Array Bool} {k i : Nat} (h : Released st L k) : Released st (L.setIfInBounds i true) k := by
  obtain ⟨j, o, need, mats, h1, h2, h3⟩ := h
  exact ⟨j, o, need, mats, getD_set_true h1, h2, h3⟩
theorem mem_direct {o : Oper} {k : Nat} : k ∈ directOn o ↔ ∃ e ∈ o.after, Region.binds .any e = true ∧ e.on = k := by
  unfold directOn
  rw [List.mem_filterMap]
  constructor
  · rintro ⟨e, he, h⟩
    cases hb : Region.binds .any e with
    | true => rw [hb] at h; cases h; exact ⟨e, by simpa using he, hb, rfl⟩
    | false => rw [hb] at h; cases h
  · rintro ⟨e, he, hb, rfl⟩
    exact ⟨e, by simpa using he, by rw [hb]⟩
/-- What is not listed is not released. -/
theorem not_released {st : Nat → Option PStep} (hst : ∀ j q, st j = some q → ops[j]? = some q.oper) {L : Array Bool} (hc : Closed ops L) {i : Nat} (hi : L.getD i true = false) {p : PStep} (hp : st i = some p) (hne : p.isEff = false) : ¬ Released st (L.setIfInBounds i true) i := by
  rintro ⟨j, o, need, mats, h1, h2, h3⟩
  have hji : j ≠ i := fun q => by subst q; rw [hp] at h2; cases h2; cases hne
  rw [getD_set_ne false (Ne.symm hji)] at h1
  obtain ⟨e, he, hb, rfl⟩ := mem_direct.1 h3
  have := hc j o h1 (hst j _ h2) e he hb
  rw [getD_both hi] at this; cases this
theorem released_less {st : Nat → Option PStep} {L : Array Bool} {i j k : Nat} {p : PStep} (hp : st i = some p) (hne : p.isEff = false) (h : Released st ((L.setIfInBounds i true).setIfInBounds j true) k) : Released st (L.setIfInBounds j true) k := by
  obtain ⟨j', o, need, mats, h1, h2, h3⟩ := h
  refine ⟨j', o, need, mats, ?_, h2, h3⟩
  have hji : j' ≠ i := fun q => by subst q; rw [hp] at h2; cases h2; cases hne
  by_cases hj : j = j'
  · subst hj
    rcases Nat.lt_or_ge j L.size with hs | hs
    · simp [hs]
    · simp [Array.getElem?_eq_none hs] at h1; omega
  · rw [getD_set_ne false hj, getD_set_ne false (Ne.symm hji)] at h1
    rw [getD_set_ne false hj]; exact h1
theorem SW.less {st : Nat → Option PStep} {W : List Watch} {L : Array Bool} {i j : Nat} {A : AH} {p : PStep} (hp : st i = some p) (hne : p.isEff = false) (h : SW st W ((L.setIfInBounds i true).setIfInBounds j true) A) : SW st W (L.setIfInBounds j true) A := fun x hx =>
  (h x hx).imp (released_less hp hne) id
theorem outK_inv {d : Option Tmp} {F : FT} {k : FT → AH → Option ARes} {out : Out} {res : ARes} (h : outK (putC d) C F k out = some res) : ∃ F' A', outS C d F out = some (F', A') ∧ k F' A' = some res := by
  cases out with
  | val v A =>
    simp only [outK] at h
    split at h
    · rename_i F' hF; exact ⟨F', A, by simp only [outS, after, hF], h⟩
    · cases h
  | skip A =>
    simp only [outK] at h
    split at h
    · rename_i F' hF; exact ⟨F', A, by simp only [outS, after, hF], h⟩
    · cases h
  | call f args A =>
    simp only [outK] at h
    split at h
    · rename_i v A2 hc
      split at h
      · rename_i F' hF; exact ⟨F', A2, by simp only [outS, hc, after, hF], h⟩
      · cases h
    · cases h
theorem holds_inv {A : AH} {x : Watch} {o : Oper} (ho : x.op = operC P o) (hq : quietOp P o.op = true) (h : holds A x = true) : x.op.run x.fr A = some (.val x.val A) := by
  unfold holds at h
  split at h
  · rename_i v A2 hr
    rw [ho] at hr
    obtain ⟨v', hv⟩ := quiet_heap hq hr
    cases hv
    rw [ho, hr, veq_eq h]
  · cases h
theorem listed_of {L : Array Bool} {i : Nat} (h : i ∈ Region.ready .any ops L) : (L.setIfInBounds i true).getD i false = true := by
  have h0 := (mem_ready.1 h).1
  have hs : i < L.size := by
    rcases Nat.lt_or_ge i L.size with h1 | h1
    · exact h1
    · simp [Array.getElem?_eq_none h1] at h0
  simp [hs]
theorem planR_all {pl : List PStep} {ends : List (Nat × List Value)} (hnd : pl.Pairwise fun p q => p.idx ≠ q.idx) (hget : ∀ q ∈ pl, ops[q.idx]? = some q.oper) {res : ARes}
    {L : Array Bool} {ws : List Nat} {fs : List (Nat × Nat × List Value)} {nf : Nat} {l : List PStep} {m : List (Nat × List Value)} (h : PlanOK P ops L ws fs nf l m) :
    (∀ q ∈ l, q ∈ pl) → (∀ q ∈ pl, q ∈ l ∨ L.getD q.idx false = true) → ∀ (F : FT) (A : AH) (W : List Watch), (planR P ops ends l).run C F A r W = some res → Closed ops L →
      (∀ x ∈ W, ∃ o, quietOp P o.op = true ∧ x.op = operC P o) → (∀ x ∈ W, x.idx ∈ ws ∨ Released (stepAt pl) L x.idx) → SW (stepAt pl) W L A →
      AllA P ops C r (stepAt pl) (SW (stepAt pl) W) (fun L' F' A' => res = ⟨.normal, F', matsA r ends A'⟩ ∧ ∀ q ∈ pl, L'.getD q.idx false = true) l.length L F A := by
  have hst : ∀ j q, stepAt pl j = some q → ops[j]? = some q.oper := fun j q hq => by
    obtain ⟨h1, h2⟩ := stepAt_inv hq
    rw [← h2]; exact hget q h1
  induction h with
  | nil L ws fs nf hr =>
    intro _ hall F A W hrun _ _ _ _
    have : some (ARes.mk .normal F (matsA r ends A)) = some res := hrun
    exact ⟨hr, (Option.some.inj this).symm, fun q hq => (hall q hq).resolve_left (by simp)⟩
  | quiet L ws fs nf i o l m ho hq hr hf t ih =>
    intro hsub hall F A W hrun hcl hw1 hw2 hw3
    have hmem : PStep.quiet i o (asksHeap o.op) ∈ pl := hsub _ List.mem_cons_self
    have hp : stepAt pl i = some (.quiet i o (asksHeap o.op)) := stepAt_mem hnd hmem
    have hi0 := (mem_ready.1 hr).1
    have hfree := Region.free_spec ho hf
    have hcl' := hcl.set hr
    have listed_self := listed_of hr
    have hall' : ∀ q ∈ pl, q ∈ l ∨ (L.setIfInBounds i true).getD q.idx false = true := fun q hq => by
      rcases hall q hq with h1 | h1
      · rcases List.mem_cons.1 h1 with rfl | h1
        · exact .inr listed_self
        · exact .inl h1
      · exact .inr (getD_set_true h1)
    have hsub' : ∀ q ∈ l, q ∈ pl := fun q hq => hsub q (List.mem_cons_of_mem _ hq)
    have hrun' : (match wantA ops F o with
      | some true => match (operC P o).run F A with
        | some (.val v A') => match (putC o.dst).run v F with
          | some F' => (planR P ops ends l).run C F' A' r (match asksHeap o.op with | true => ⟨i, operC P o, F, v⟩ :: W | false => W)
          | none => none
        | _ => none
      | some false => match (putC o.dst).run undef F with
        | some F' => (planR P ops ends l).run C F' A r W
        | none => none
      | none => none) = some res := hrun
    have hw2' : ∀ x ∈ W, x.idx ∈ (match asksHeap o.op with | true => i :: ws | false => ws) ∨ Released (stepAt pl) (L.setIfInBounds i true) x.idx := fun x hx => by
      rcases hw2 x hx with h1 | h1
      · left; cases asksHeap o.op
        · exact h1
        · exact List.mem_cons_of_mem _ h1
      · exact .inr h1.set
    have hw3' : SW (stepAt pl) W (L.setIfInBounds i true) A := fun x hx => (hw3 x hx).imp Released.set id
    split at hrun'
    · rename_i hwant
      split at hrun'
      · rename_i v A' hop
        split at hrun'
        · rename_i F' hF'
          obtain ⟨v', hv'⟩ := quiet_heap hq hop
          cases hv'
          cases ha : asksHeap o.op with
          | false =>
            rw [ha] at hrun' hp hmem hw2'
            rw [ha] at ih
            have H := ih hsub' hall' F' A W hrun' hcl' hw1 hw2' hw3'
            refine AllA_first (p := .quiet i o false) hst hp (v := v) (Y := fun F1 A1 => Alike o.op.operands.toList F1 F ∧ wantA ops F1 o = some true) ?_ ?_ (fun L j A' h => h.less hp rfl) _ L F A (fun j oj h1 h2 h3 h4 => hfree j oj h1 h2 h3 h4) hcl hr ⟨fun x _ => rfl, hwant⟩ hw3' ⟨F', hF', H⟩
            · intro F1 A1 ⟨h1, h2⟩
              simp only [astep, h2, operC_alike h1, quiet_any ha hop A1]
              rfl
            · intro F1 A1 F2 A2 d u L2 hd ⟨h1, h2⟩ hput _ _ _
              have hal := alike_put (o := o) hput hd
              exact ⟨fun x hx => (hal x hx).trans (h1 x hx), by rw [wantA_put (o := o) hput hd]; exact h2⟩
          | true =>
            rw [ha] at hrun' hp hmem hw2'
            rw [ha] at ih
            have hx1 : ∀ x ∈ (⟨i, operC P o, F, v⟩ :: W : List Watch), ∃ o, quietOp P o.op = true ∧ x.op = operC P o := fun x hx => by
              rcases List.mem_cons.1 hx with rfl | hx
              · exact ⟨o, hq, rfl⟩
              · exact hw1 x hx
            have hx2 : ∀ x ∈ (⟨i, operC P o, F, v⟩ :: W : List Watch), x.idx ∈ i :: ws ∨ Released (stepAt pl) (L.setIfInBounds i true) x.idx := fun x hx => by
              rcases List.mem_cons.1 hx with rfl | hx
              · exact .inl List.mem_cons_self
              · exact hw2' x hx
            have hx3 : SW (stepAt pl) (⟨i, operC P o, F, v⟩ :: W) (L.setIfInBounds i true) A := fun x hx => by
              rcases List.mem_cons.1 hx with rfl | hx
              · exact .inr hop
              · exact hw3' x hx
            have H := ih hsub' hall' F' A _ hrun' hcl' hx1 hx2 hx3
            refine AllA.mono (S := SW (stepAt pl) (⟨i, operC P o, F, v⟩ :: W)) (fun L A h x hx => h x (List.mem_cons_of_mem _ hx)) ?_
            refine AllA_first (p := .quiet i o true) hst hp (v := v) (Y := fun F1 A1 => Alike o.op.operands.toList F1 F ∧ wantA ops F1 o = some true ∧ (operC P o).run F A1 = some (.val v A1)) ?_ ?_ (fun L j A' h => h.less hp rfl) _ L F A (fun j oj h1 h2 h3 h4 => hfree j oj h1 h2 h3 h4) hcl hr ⟨fun x _ => rfl, hwant, hop⟩ hx3 ⟨F', hF', H⟩
            · intro F1 A1 ⟨h1, h2, h3⟩
              simp only [astep, h2, operC_alike h1, h3]
              rfl
            · intro F1 A1 F2 A2 d u L2 hd ⟨h1, h2, h3⟩ hput hc2 hu hs
              have hal := alike_put (o := o) hput hd
              refine ⟨fun x hx => (hal x hx).trans (h1 x hx), by rw [wantA_put (o := o) hput hd]; exact h2, ?_⟩
              exact (hs ⟨i, operC P o, F, v⟩ List.mem_cons_self).resolve_left (not_released hst hc2 hu hp rfl)
        · cases hrun'
      · cases hrun'
    · rename_i hwant
      split at hrun'
      · rename_i F' hF'
        have H := ih hsub' hall' F' A W hrun' hcl' hw1 hw2' hw3'
        refine AllA_first (p := .quiet i o (asksHeap o.op)) hst hp (v := undef) (Y := fun F1 A1 => wantA ops F1 o = some false) ?_ ?_ (fun L j A' h => h.less hp rfl) _ L F A (fun j oj h1 h2 h3 h4 => hfree j oj h1 h2 h3 h4) hcl hr hwant hw3' ⟨F', hF', H⟩
        · intro F1 A1 h2
          simp only [astep, h2]
          rfl
        · intro F1 A1 F2 A2 d u L2 hd h2 hput _ _ _
          rw [wantA_put (o := o) hput hd]; exact h2
      · cases hrun'
    · cases hrun'
  | float L ws fs nf i o l m cs v ho hfl hg hr hf t ih =>
    intro hsub hall F A W hrun hcl hw1 hw2 hw3
    have hmem : PStep.float i o nf v ∈ pl := hsub _ List.mem_cons_self
    have hp : stepAt pl i = some (.float i o nf v) := stepAt_mem hnd hmem
    have hfree := Region.free_spec ho hf
    have hcl' := hcl.set hr
    have listed_self := listed_of hr
    have hall' : ∀ q ∈ pl, q ∈ l ∨ (L.setIfInBounds i true).getD q.idx false = true := fun q hq => by
      rcases hall q hq with h1 | h1
      · rcases List.mem_cons.1 h1 with rfl | h1
        · exact .inr listed_self
        · exact .inl h1
      · exact .inr (getD_set_true h1)
    have hrun' : (match (putC o.dst).run (force v (Nat.add r nf)) F with
      | some F' => (planR P ops ends l).run C F' A r W
      | none => none) = some res := hrun
    rw [force_eq] at hrun'
    have hw3' : SW (stepAt pl) W (L.setIfInBounds i true) A := fun x hx => (hw3 x hx).imp Released.set id
    split at hrun'
    · rename_i F' hF'
      have H := ih (fun q hq => hsub q (List.mem_cons_of_mem _ hq)) hall' F' A W hrun' hcl' hw1 (fun x hx => (hw2 x hx).imp id Released.set) hw3'
      refine AllA_first (p := .float i o nf v) hst hp (v := v (r + nf)) (Y := fun _ _ => True) ?_ ?_ (fun L j A' h => h.less hp rfl) _ L F A (fun j oj h1 h2 h3 h4 => hfree j oj h1 h2 h3 h4) hcl hr trivial hw3' ⟨F', hF', H⟩
      · intro F1 A1 _; rfl
      · intros; trivial
    · cases hrun'
  | eff L ws fs nf i o l m ho hr t ih =>
    intro hsub hall F A W hrun hcl hw1 hw2 hw3
    have hmem := hsub _ List.mem_cons_self
    have hp := stepAt_mem hnd hmem
    have hri : i ∈ Region.ready .any ops L := by rw [hr]; simp
    have hcl' := hcl.set hri
    have listed_self := listed_of hri
    have hall' : ∀ q ∈ pl, q ∈ l ∨ (L.setIfInBounds i true).getD q.idx false = true := fun q hq => by
      rcases hall q hq with h1 | h1
      · rcases List.mem_cons.1 h1 with rfl | h1
        · exact .inr listed_self
        · exact .inl h1
      · exact .inr (getD_set_true h1)
    have hsub' : ∀ q ∈ l, q ∈ pl := fun q hq => hsub q (List.mem_cons_of_mem _ hq)
    have hLi : (L.setIfInBounds i true).getD i false = true := listed_self
    have hrel : ∀ k, k ∈ directOn o → Released (stepAt pl) (L.setIfInBounds i true) k := fun k hk => ⟨i, o, _, _, hLi, hp, hk⟩
    have hw2' : ∀ x ∈ W, x.idx ∈ (ws.filter fun k => !(memN (directOn o) k)) ∨ Released (stepAt pl) (L.setIfInBounds i true) x.idx := fun x hx => by
      rcases hw2 x hx with h1 | h1
      · by_cases hd : x.idx ∈ directOn o
        · exact .inr (hrel _ hd)
        · refine .inl (List.mem_filter.2 ⟨h1, ?_⟩)
          cases hm : memN (directOn o) x.idx with
          | false => rfl
          | true => exact absurd (memN_eq.1 hm) hd
      · exact .inr h1.set
    have hchk : ∀ A', checkW (ws.filter fun k => !(memN (directOn o) k)) A' W = true → SW (stepAt pl) W (L.setIfInBounds i true) A' := fun A' hc x hx => by
      rcases hw2' x hx with h1 | h1
      · right
        have := (List.all_eq_true.1 hc) x hx
        rw [memN_eq.2 h1] at this
        simp only [Bool.not_true, Bool.false_or] at this
        obtain ⟨o', h2, h3⟩ := hw1 x hx
        exact holds_inv h3 h2 this
      · exact .inl h1
    have fin : ∀ F' A', astep P ops C r (.eff i o (ws.filter fun k => !(memN (directOn o) k)) ((fs.filter fun f => memN (directOn o) f.1).map fun f => (f.2.1, f.2.2))) F A = some (F', A') →
        (match checkW (ws.filter fun k => !(memN (directOn o) k)) A' W with | true => (planR P ops ends l).run C F' A' r W | false => none) = some res →
        AllA P ops C r (stepAt pl) (SW (stepAt pl) W) (fun L' F' A' => res = ⟨.normal, F', matsA r ends A'⟩ ∧ ∀ q ∈ pl, L'.getD q.idx false = true) (l.length + 1) L F A := fun F' A' hstep hc => by
      split at hc
      · rename_i hc1
        refine ⟨fun h => (by rw [hr] at h; cases h), fun j hj => ?_⟩
        rw [hr] at hj
        have : j = i := by simpa using hj
        subst this
        exact ⟨_, F', A', hp, hstep, hchk A' hc1, ih hsub' hall' F' A' W hc hcl' hw1 hw2' (hchk A' hc1)⟩
      · cases hc
    have hrun' : (match wantA ops F o with
      | some true => match (operC P o).run F (matsA r ((fs.filter fun f => memN (directOn o) f.1).map fun f => (f.2.1, f.2.2)) A) with
        | some out => outK (putC o.dst) C F (fun F' A' => match checkW (ws.filter fun k => !(memN (directOn o) k)) A' W with
          | true => (planR P ops ends l).run C F' A' r W
          | false => none) out
        | none => none
      | some false => match (putC o.dst).run undef F with
        | some F' => match checkW (ws.filter fun k => !(memN (directOn o) k)) (matsA r ((fs.filter fun f => memN (directOn o) f.1).map fun f => (f.2.1, f.2.2)) A) W with
          | true => (planR P ops ends l).run C F' (matsA r ((fs.filter fun f => memN (directOn o) f.1).map fun f => (f.2.1, f.2.2)) A) r W
          | false => none
        | none => none
      | none => none) = some res := hrun
    split at hrun'
    · rename_i hwant
      split at hrun'
      · rename_i out hop
        obtain ⟨F', A', h1, h2⟩ := outK_inv hrun'
        exact fin F' A' (by simp only [astep, hwant, hop, h1]) h2
      · cases hrun'
    · rename_i hwant
      split at hrun'
      · rename_i F' hF'
        exact fin F' _ (by simp only [astep, hwant, after, hF']) hrun'
      · cases hrun'
    · cases hrun'
end
end Go.Proofs.YtohnakjamlhhkaaGreatDoor
