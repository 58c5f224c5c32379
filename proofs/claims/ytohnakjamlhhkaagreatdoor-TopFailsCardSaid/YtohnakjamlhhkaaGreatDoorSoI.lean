/- Contracts: what is said of calls beside the evaluator. -/
import Derived.Test.YtohnakjamlhhkaaGreatDoorSoH
namespace Go.Proofs.YtohnakjamlhhkaaGreatDoor
open Go
set_option linter.unusedVariables false
set_option linter.unusedSimpArgs false

section
variable {P : Program} {C : Con} {V : Nat → Value} {E : Em} {A : AH} {w w' : World}
/-- Nothing is known. -/
def Em.empty (V : Nat → Value) (h : ∀ k, (V k).oneCell' = true) (ho : Opq V) : Em := ⟨fun _ => none, V, h, ho, fun _ => 0⟩
theorem Rel.empty (V : Nat → Value) (h : ∀ k, (V k).oneCell' = true) (ho : Opq V) (w : World) : Rel (Em.empty V h ho) ⟨.leaf, 0⟩ w :=
  ⟨fun _ _ => rfl, fun b B s hb => (by cases hb), fun b e cs m hb => (by cases hb), fun b b' e e' cs cs' m m' B s s' _ hb => (by cases hb), fun b es hb => (by cases hb), fun b b' es es' R hb => (by cases hb), fun b m hb => (by cases hb), fun b e cs m hb => (by cases hb)⟩
/-- All that stood stands as it stood. -/
structure Grew (w w' : World) : Prop where
  size : w.heap.size ≤ w'.heap.size
  old : ∀ B, B < w.heap.size → w'.heap[B]? = w.heap[B]?
  env : Env w w'
theorem Grew.refl (w : World) : Grew w w := ⟨Nat.le_refl _, fun _ _ => rfl, .refl w⟩
theorem Rel.grew (hR : Rel E A w) (hg : Grew w w') : Rel E A w' := by
  refine ⟨hR.fresh, fun b B s hb => Nat.lt_of_lt_of_le (hR.lt b B s hb) hg.size, ?_, hR.apart, ?_, hR.mapApart, ?_, fun b e cs m hb => ?_⟩
  · intro b e cs m hb
    obtain ⟨B, s, c, h1, h2, h3, h4⟩ := hR.row b e cs m hb
    exact ⟨B, s, c, h1, h2.congr (hg.old B (hR.lt _ _ _ h1)), h3, h4⟩
  · intro b es hb
    obtain ⟨R, ents, clock, h1, h2, h3⟩ := hR.map b es hb
    exact ⟨R, ents, clock, h1, by rw [hg.old R (hR.lt _ _ _ h1)]; exact h2, h3⟩
  · intro b m hb
    obtain ⟨B, M, since, seen, last, h1, h2, h3⟩ := hR.iter b m hb
    exact ⟨B, M, since, seen, last, h1, h2, by rw [hg.old B (hR.lt _ _ _ h1)]; exact h3⟩
  · rcases hR.typ b e cs m hb with h0 | ⟨B, c, fr, h1, h2⟩
    · exact .inl h0
    · exact .inr ⟨B, c, fr, h1, by rw [hg.old B (hR.lt _ _ _ h1)]; exact h2⟩
theorem Stp.grew (hR : Rel E A w) (hg : Grew w w') : Stp E A w E A w' :=
  ⟨E.le_refl, hR.grew hg, hg.size, Nat.le_refl _, fun _ _ => rfl, fun B hB hn => ⟨hg.old B hB, hn⟩, hg.env⟩
theorem grew_of_stp {V : Nat → Value} {h : ∀ k, (V k).oneCell' = true} {ho : Opq V} {E' : Em} {A' : AH} (hs : Stp (Em.empty V h ho) ⟨.leaf, 0⟩ w E' A' w') : Grew w w' :=
  ⟨hs.size, fun B hB => (hs.frame B hB (by rintro ⟨b, o, s, h1, _⟩; cases h1)).1, hs.env⟩
theorem Does.mono {f : FuncId} {args : Array Value} {R R' : Value → World → Prop} (h : Does P f args w R) (hr : ∀ v w', R v w' → R' v w') : Does P f args w R' :=
  fun o a next Q hk => h o a next Q fun v w' hv => hk v w' (hr v w' hv)
/-- A call that is evaluated from nothing: it comes to the same from everywhere. -/
theorem pure_does (hV : ∀ k, (V k).oneCell' = true) (ho : Opq V) (hC : ConOK P V C) {f : FuncId} {args args' : List Value} {v : Value} {A' : AH} (h : C f args ⟨.leaf, 0⟩ = some (v, A')) (ha : VRels (Em.empty V hV ho) args args') (hv : flat v = true) (w : World) :
    Does P f args'.toArray w fun v' w' => v' = v ∧ Grew w w' := by
  refine (hC f args _ v A' h (Em.empty V hV ho) w args' rfl ha (Rel.empty V hV ho w)).mono ?_
  rintro v' w' ⟨E', hs, hr⟩
  exact ⟨flat_eq hv hr, grew_of_stp hs⟩
/-- One fact more. -/
def addC (f : FuncId) (test : List Value → Bool) (v : Value) (C : Con) : Con := fun g args A => match Nat.beq g f && test args with
  | true => some (v, A)
  | false => C g args A
theorem addC_ok (hC : ConOK P V C) {f : FuncId} {test : List Value → Bool} {v : Value} (hv : flat v = true)
    (h : ∀ (E : Em) args args' w, E.val = V → test args = true → VRels E args args' → Does P f args'.toArray w fun v' w' => v' = v ∧ Grew w w') : ConOK P V (addC f test v C) := by
  intro g args A u A' hu E w args' hV ha hR
  unfold addC at hu
  split at hu
  · rename_i hb
    simp only [Bool.and_eq_true] at hb
    have := Nat.eq_of_beq_eq_true hb.1
    subst this
    cases hu
    refine (h E args args' w hV hb.2 ha).mono ?_
    rintro v' w' ⟨rfl, hg⟩
    exact ⟨E, .grew hR hg, flat_refl hv⟩
  · exact hC g args A u A' hu E w args' hV ha hR
def noC : Con := fun _ _ _ => none
theorem noC_ok : ConOK P V noC := fun f args A v A' h => by cases h
/-- No arguments. -/
def isNil : List Value → Bool
  | [] => true
  | _ => false
end
end Go.Proofs.YtohnakjamlhhkaaGreatDoor
