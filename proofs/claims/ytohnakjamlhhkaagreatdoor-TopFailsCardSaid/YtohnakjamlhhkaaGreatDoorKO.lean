/- lines.commands, as the evaluator has it. -/
import Derived.Test.YtohnakjamlhhkaaGreatDoorKN
namespace Go.Proofs.YtohnakjamlhhkaaGreatDoor
open Go Go.Proofs Go.RowKit
set_option maxRecDepth 100000
set_option linter.unusedVariables false
set_option linter.unusedSimpArgs false

noncomputable def addRow (A : AH) (cs : List Value) : AH := (A.new (.row 0 cs none)).2
noncomputable def addAll (l : List (List Value)) : AH → AH := List.rec (fun A => A) (fun cs _ ih A => ih (addRow A cs)) l
theorem addRow_eq (A : AH) (cs : List Value) : addRow A cs = ⟨A.heap.set (.row 0 cs none) A.next, A.next + 1⟩ := by
  unfold addRow
  rw [AH.new_eq]
theorem addAll_cons (cs : List Value) (l : List (List Value)) (A : AH) : addAll (cs :: l) A = addAll l (addRow A cs) := rfl
section
variable {E0 E : Em} {A0 A : AH} {w0 w : World}
/-- One more row is known. -/
theorem Stp.addRow (hs : Stp E0 A0 w0 E A w) {B : Nat} {cs cs' : List Value} (hB : w0.heap.size ≤ B) (hrow : Row w B cs'.toArray) (hv : VRels E cs cs') (h1 : cs.all oneC = true) (hno : ∀ x s', E.blk x ≠ some (B, s')) :
    Stp E0 A0 w0 (E.add A.next B 0 cs'.length) (addRow A cs) w ∧ E.le (E.add A.next B 0 cs'.length) := by
  have hle : E.le (E.add A.next B 0 cs'.length) := Em.le_add (hs.rel.fresh _ (Nat.le_refl _)) (.inl hno)
  rw [addRow_eq]
  refine ⟨⟨Em.le_trans hs.le hle, ?_, hs.size, Nat.le_trans hs.next (Nat.le_succ _), fun b hb => ?_, fun X hX hn => ?_, hs.env⟩, hle⟩
  · refine hs.rel.add hle (B := B) (s := 0) (by simp [Em.add]) (fun x hx => by simp [Em.add, hx]) (Nat.le_refl _) hrow.lt (fun _ _ => rfl) rfl (fun x o' hx => AH.obj_new hx) ?_
    exact ⟨⟨cs'.toArray, hrow, by simp [Em.add], crel_of' (VRels.mono hle hv) h1⟩, .inl rfl, fun x e' cs2 m' s' _ hx => absurd hx (hno x s')⟩
  · have : b ≠ A.next := by have := hs.next; omega
    simp only [Em.add, if_neg this]
    exact hs.keep b hb
  · obtain ⟨q1, q2⟩ := hs.frame X hX hn
    refine ⟨q1, ?_⟩
    rintro ⟨b, o', s, h1, h2, h3⟩
    rcases AH.obj_new h1 with ⟨rfl, rfl⟩ | ⟨hb, h1⟩
    · simp only [Em.add, if_true] at h3; cases h3; omega
    · simp only [Em.add, if_neg hb] at h3
      exact q2 ⟨b, o', s, h1, h2, h3⟩
structure NewRow (E0 : Em) (w0 w : World) (r : List Value × List Value × Nat) : Prop where
  vals : VRels E0 r.1 r.2.1
  one : r.1.all oneC = true
  row : Row w r.2.2 r.2.1.toArray
  new : w0.heap.size ≤ r.2.2
theorem addRows (hw : w0.heap.size ≤ w.heap.size) : ∀ (l : List (List Value × List Value × Nat)) (E : Em) (A : AH), Stp E0 A0 w0 E A w → (∀ r ∈ l, NewRow E0 w0 w r) → (l.Pairwise fun r q => r.2.2 ≠ q.2.2) → (∀ r ∈ l, ∀ x s', E.blk x ≠ some (r.2.2, s')) →
    ∃ E', Stp E0 A0 w0 E' (addAll (l.map (·.1)) A) w ∧ E.le E' ∧ (addAll (l.map (·.1)) A).next = A.next + l.length ∧ (∀ i r, l[i]? = some r → E'.blk (A.next + i) = some (r.2.2, 0)) ∧ ∀ x B s, E'.blk x = some (B, s) → (∃ r ∈ l, r.2.2 = B) ∨ E.blk x = some (B, s)
  | [], E, A, hs, _, _, _ => ⟨E, hs, E.le_refl, rfl, fun i r h => by simp at h, fun x B s h => .inr h⟩
  | r :: l, E, A, hs, hr, hp, hno => by
    obtain ⟨hp1, hp2⟩ := List.pairwise_cons.1 hp
    have h0 := hr r (by simp)
    obtain ⟨h1, h2⟩ := hs.addRow h0.new h0.row (VRels.mono hs.le h0.vals) h0.one (hno r (by simp))
    obtain ⟨E', g1, g2, g3, g4, g5⟩ := addRows hw l _ _ h1 (fun q hq => hr q (by simp [hq])) hp2 (fun q hq x s' hx => by
      by_cases hxn : x = A.next
      · simp only [Em.add, if_pos hxn] at hx
        exact hp1 q hq (congrArg Prod.fst (Option.some.inj hx))
      · simp only [Em.add, if_neg hxn] at hx
        exact hno q (by simp [hq]) x s' hx)
    have hnx : (addRow A r.1).next = A.next + 1 := by rw [addRow_eq]
    refine ⟨E', g1, Em.le_trans h2 g2, ?_, fun i q hq => ?_, fun x B s hx => ?_⟩
    · show (addAll (l.map (·.1)) (addRow A r.1)).next = _
      rw [g3, hnx]; simp; omega
    · cases i with
      | zero =>
        simp at hq; subst hq
        exact g2.blk _ _ (by simp [Em.add])
      | succ i =>
        have := g4 i q (by simpa using hq)
        rw [hnx] at this
        rw [show A.next + (i + 1) = A.next + 1 + i by omega]
        exact this
    · rcases g5 x B s hx with ⟨q, hq, he⟩ | hx
      · exact .inl ⟨q, by simp [hq], he⟩
      · by_cases hxn : x = A.next
        · simp only [Em.add, if_pos hxn] at hx
          cases hx
          exact .inl ⟨r, by simp, rfl⟩
        · simp only [Em.add, if_neg hxn] at hx
          exact .inr hx
/-- One more map is known. -/
theorem Stp.addMap (hs : Stp E0 A0 w0 E A w) {R : Nat} {es : List (Value × Value)} {ents : Array MapEntry} {clock : Nat} (hR : w0.heap.size ≤ R) (hh : w.heap[R]? = some (.map ents clock)) (hm : MRel E es ents.toList) (hno : ∀ x s', E.blk x ≠ some (R, s')) :
    Stp E0 A0 w0 (E.add A.next R 0 0) (A.new (.map es)).2 w ∧ E.le (E.add A.next R 0 0) ∧ (E.add A.next R 0 0).blk A.next = some (R, 0) := by
  have hle : E.le (E.add A.next R 0 0) := Em.le_add (hs.rel.fresh _ (Nat.le_refl _)) (.inl hno)
  rw [AH.new_eq]
  refine ⟨⟨Em.le_trans hs.le hle, ?_, hs.size, Nat.le_trans hs.next (Nat.le_succ _), fun b hb => ?_, fun X hX hn => ?_, hs.env⟩, hle, by simp [Em.add]⟩
  · refine hs.rel.add hle (B := R) (s := 0) (by simp [Em.add]) (fun x hx => by simp [Em.add, hx]) (Nat.le_refl _) (Array.getElem?_eq_some_iff.1 hh).1 (fun _ _ => rfl) rfl (fun x o' hx => AH.obj_new hx) ?_
    exact ⟨rfl, ⟨ents, clock, hh, hm.mono hle⟩, fun x es' _ hx => hno x 0 hx⟩
  · have : b ≠ A.next := by have := hs.next; omega
    simp only [Em.add, if_neg this]
    exact hs.keep b hb
  · obtain ⟨q1, q2⟩ := hs.frame X hX hn
    refine ⟨q1, ?_⟩
    rintro ⟨b, o', s, h1, h2, h3⟩
    rcases AH.obj_new h1 with ⟨rfl, rfl⟩ | ⟨hb, h1⟩
    · simp only [Em.add, if_true] at h3; cases h3; omega
    · simp only [Em.add, if_neg hb] at h3
      exact q2 ⟨b, o', s, h1, h2, h3⟩
end
theorem uniq_of {l : Done} (h : l.Pairwise fun a b => b.2 + 4 ≤ a.2 ∧ a.1 ≠ b.1) : ∀ {x y : Nat × Nat}, x ∈ l → y ∈ l → x.1 = y.1 → x = y := by
  induction l with
  | nil => intro x y hx; simp at hx
  | cons z l ih =>
    obtain ⟨h1, h2⟩ := List.pairwise_cons.1 h
    intro x y hx hy he
    rcases List.mem_cons.1 hx with rfl | hx'
    · rcases List.mem_cons.1 hy with rfl | hy'
      · rfl
      · exact absurd he (h1 y hy').2
    · rcases List.mem_cons.1 hy with rfl | hy'
      · exact absurd he.symm (h1 x hx').2
      · exact ih h2 hx' hy' he
theorem apart_of {l : Done} (h : l.Pairwise fun a b => b.2 + 4 ≤ a.2 ∧ a.1 ≠ b.1) : ∀ {x y : Nat × Nat}, x ∈ l → y ∈ l → x.1 ≠ y.1 → x.2 + 4 ≤ y.2 ∨ y.2 + 4 ≤ x.2 := by
  induction l with
  | nil => intro x y hx; simp at hx
  | cons z l ih =>
    obtain ⟨h1, h2⟩ := List.pairwise_cons.1 h
    intro x y hx hy he
    rcases List.mem_cons.1 hx with rfl | hx'
    · rcases List.mem_cons.1 hy with rfl | hy'
      · exact absurd rfl he
      · exact .inr (h1 y hy').1
    · rcases List.mem_cons.1 hy with rfl | hy'
      · exact .inl (h1 x hx').1
      · exact ih h2 hx' hy' he
theorem nodup_of {l : Done} (h : l.Pairwise fun a b => b.2 + 4 ≤ a.2 ∧ a.1 ≠ b.1) : l.Nodup := h.imp fun {a b} hab q => hab.2 (by rw [q])
theorem done_perm {l : Done} (h : l.Pairwise fun a b => b.2 + 4 ≤ a.2 ∧ a.1 ≠ b.1) (hr : ∀ d ∈ l, 1 ≤ d.1 ∧ d.1 ≤ 8) {n1 n2 n3 n4 n5 n6 n7 n8 : Nat} (h1 : (1, n1) ∈ l) (h2 : (2, n2) ∈ l) (h3 : (3, n3) ∈ l) (h4 : (4, n4) ∈ l) (h5 : (5, n5) ∈ l) (h6 : (6, n6) ∈ l) (h7 : (7, n7) ∈ l) (h8 : (8, n8) ∈ l) :
    l.Perm [(1, n1), (2, n2), (3, n3), (4, n4), (5, n5), (6, n6), (7, n7), (8, n8)] := by
  refine (List.perm_ext_iff_of_nodup (nodup_of h) (by simp)).2 fun x => ⟨fun hx => ?_, fun hx => ?_⟩
  · obtain ⟨k, n⟩ := x
    have := hr _ hx
    simp only at this
    have hk : k = 1 ∨ k = 2 ∨ k = 3 ∨ k = 4 ∨ k = 5 ∨ k = 6 ∨ k = 7 ∨ k = 8 := by omega
    rcases hk with rfl | rfl | rfl | rfl | rfl | rfl | rfl | rfl
    · rw [uniq_of h hx h1 rfl]; simp
    · rw [uniq_of h hx h2 rfl]; simp
    · rw [uniq_of h hx h3 rfl]; simp
    · rw [uniq_of h hx h4 rfl]; simp
    · rw [uniq_of h hx h5 rfl]; simp
    · rw [uniq_of h hx h6 rfl]; simp
    · rw [uniq_of h hx h7 rfl]; simp
    · rw [uniq_of h hx h8 rfl]; simp
  · simp only [List.mem_cons, List.not_mem_nil, or_false] at hx
    rcases hx with rfl | rfl | rfl | rfl | rfl | rfl | rfl | rfl <;> assumption
end Go.Proofs.YtohnakjamlhhkaaGreatDoor
