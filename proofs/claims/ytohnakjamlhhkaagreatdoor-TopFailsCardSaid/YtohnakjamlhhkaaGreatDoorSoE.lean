/- Regions that come up in whatever order: the plan. -/
import Derived.Test.YtohnakjamlhhkaaGreatDoorSoD
namespace Go.Proofs.YtohnakjamlhhkaaGreatDoor
open Go
set_option linter.unusedVariables false
set_option linter.unusedSimpArgs false

/-! ### Values that are surely the same -/
theorem kindNo_eq {j k : IntKind} (h : Nat.beq (kindNo j) (kindNo k) = true) : j = k := sameK_eq h
theorem bytesEq_eq : ∀ {l m : List UInt8}, bytesEq l m = true → l = m
  | [], [], _ => rfl
  | [], _ :: _, h => by cases h
  | _ :: _, [], h => by cases h
  | a :: l, b :: m, h => by
    simp only [bytesEq, Bool.and_eq_true] at h
    rw [bytesEq_eq h.2, UInt8.toNat_inj.1 (Nat.eq_of_beq_eq_true h.1)]
theorem optEq_eq {a b : Option Nat} (h : optEq a b = true) : a = b := by
  cases a <;> cases b <;> first | rfl | (cases h; done) | skip
  rw [Nat.eq_of_beq_eq_true h]
theorem listEq_eq {f : Value → Value → Bool} (hf : ∀ v w, f v w = true → v = w) : ∀ {l m : List Value}, listEq f l m = true → l = m
  | [], [], _ => rfl
  | [], _ :: _, h => by cases h
  | _ :: _, [], h => by cases h
  | a :: l, b :: m, h => by
    simp only [listEq, Bool.and_eq_true] at h
    rw [hf _ _ h.1, listEq_eq hf h.2]
theorem arr_eq {a b : Array Value} (h : a.toList = b.toList) : a = b := Array.ext' h
theorem addr_eq {a b : Addr} (h1 : a.block = b.block) (h2 : a.off = b.off) (h3 : a.spot = b.spot) : a = b := by
  cases a; cases b; simp_all
theorem veqN_eq : ∀ (n : Nat) (v w : Value), veqN n v w = true → v = w
  | 0, v, w, h => by cases h
  | n + 1, v, w, h => by
    unfold veqN at h
    split at h
    · rw [eq_of_beq h]
    · simp only [Bool.and_eq_true] at h
      rw [kindNo_eq h.1, Nat.eq_of_beq_eq_true h.2]
    · rename_i a b
      have := bytesEq_eq h
      cases a with | mk a => cases b with | mk b =>
      have h2 : a = b := Array.ext' this
      rw [h2]
    · rfl
    · rfl
    · rfl
    · rfl
    · simp only [Bool.and_eq_true] at h
      rw [addr_eq (Nat.eq_of_beq_eq_true h.1.1) (Nat.eq_of_beq_eq_true h.1.2) (optEq_eq h.2)]
    · rfl
    · simp only [Bool.and_eq_true] at h
      rw [addr_eq (Nat.eq_of_beq_eq_true h.1.1.1.1) (Nat.eq_of_beq_eq_true h.1.1.1.2) (optEq_eq h.1.1.2), Nat.eq_of_beq_eq_true h.1.2, Nat.eq_of_beq_eq_true h.2]
    · rw [Nat.eq_of_beq_eq_true h]
    · rw [Nat.eq_of_beq_eq_true h]
    · simp only [Bool.and_eq_true] at h
      rw [Nat.eq_of_beq_eq_true h.1.1, arr_eq (listEq_eq (veqN_eq n) h.1.2), arr_eq (listEq_eq (veqN_eq n) h.2)]
    · rw [arr_eq (listEq_eq (veqN_eq n) h)]
    · rw [arr_eq (listEq_eq (veqN_eq n) h)]
    · cases h
theorem veq_eq {v w : Value} (h : veq v w = true) : v = w := veqN_eq 6 v w h
theorem memN_eq {l : List Nat} {n : Nat} : memN l n = true ↔ n ∈ l := by
  induction l with
  | nil => simp [show memN [] n = false from rfl]
  | cons x l ih =>
    show (Bool.rec (memN l n) true (Nat.beq x n) : Bool) = true ↔ _
    cases hx : Nat.beq x n with
    | true => simp [Nat.eq_of_beq_eq_true hx]
    | false =>
      have hne : x ≠ n := fun q => by subst q; simp at hx
      simp only [List.mem_cons]
      constructor
      · intro h; exact .inr (ih.1 h)
      · rintro (h | h)
        · exact absurd h.symm hne
        · exact ih.2 h

section
variable {P : Program} {ops : Array Oper} {C : Con} {r : Nat}
/-! ### Quiet operations -/
theorem flatR_heap {A : AH} {q : Option Value} {out : Out} (h : flatR A q = some out) : ∃ v, out = .val v A := by
  unfold flatR at h
  split at h
  · split at h
    · cases h; exact ⟨_, rfl⟩
    · cases h
  · cases h
theorem valO_heap {A : AH} {q : Option Value} {out : Out} (h : valO A q = some out) : ∃ v, out = .val v A := by
  cases q with
  | none => cases h
  | some v => cases h; exact ⟨v, rfl⟩
/-- It changes nothing. -/
theorem quiet_heap {o : Oper} (hq : quietOp P o.op = true) {F : FT} {A : AH} {out : Out} (h : (operC P o).run F A = some out) : ∃ v, out = .val v A := by
  cases hop : o.op <;> simp only [hop, quietOp] at hq <;> first | (cases hq; done) | skip
  all_goals simp only [operC, hop] at h
  case move x => exact valO_heap h
  case assign x => exact valO_heap h
  case pick c x y =>
    unfold opPick at h
    split at h
    · split at h
      · cases h; exact ⟨_, rfl⟩
      · cases h
    · cases h
  case build t ps =>
    unfold opBuild at h
    split at h
    · split at h
      · split at h
        · split at h
          · cases h; exact ⟨_, rfl⟩
          · cases h
        · cases h
      · cases h
    · cases h
  case load t x =>
    unfold opLoad at h
    split at h
    · split at h
      · exact valO_heap h
      · cases h
    · exact valO_heap h
    · cases h
  case nilCheck x =>
    unfold opNilCheck at h
    split at h
    · cases h; exact ⟨_, rfl⟩
    · cases h; exact ⟨_, rfl⟩
    · cases h
  case binOp op t x y u =>
    have h' : Option.rec none (fun u => Option.rec none (fun v => (binC P op t x y).run u v F A) ((evC y).run F)) ((evC x).run F) = some out := h
    cases h1 : (evC x).run F with
    | none => rw [h1] at h'; cases h'
    | some u =>
      rw [h1] at h'
      cases h2 : (evC y).run F with
      | none => simp only [h2] at h'; cases h'
      | some v =>
        simp only [h2] at h'
        have h3 : Option.rec (binSlow P F A op t x y u v) (fun v => some (Out.val v A)) (opFast op u v) = some out := h'
        cases h4 : opFast op u v with
        | some q => rw [h4] at h3; cases h3; exact ⟨_, rfl⟩
        | none =>
          rw [h4] at h3
          have h5 : binSlow P F A op t x y u v = some out := h3
          unfold binSlow at h5
          split at h5
          · exact flatR_heap h5
          · split at h5
            · split at h5
              · cases h5; exact ⟨_, rfl⟩
              · cases h5
            · split at h5
              · cases h5; exact ⟨_, rfl⟩
              · cases h5
            · exact valO_heap h5
            · cases h5
  case unOp op t x =>
    unfold opUnOp at h
    split at h
    · split at h
      · exact flatR_heap h
      · cases h
    · cases h
  case convert s d x =>
    unfold opConvert at h
    split at h
    · unfold convA at h
      split at h
      · split at h
        · split at h
          · split at h
            · cases h; exact ⟨_, rfl⟩
            · split at h
              · cases h; exact ⟨_, rfl⟩
              · cases h
          · cases h
        · cases h
      · rename_i hs hd hx
        rw [hd] at hq; cases hq
      · split at h
        · cases h; exact ⟨_, rfl⟩
        · cases h
      · split at h
        · exact flatR_heap h
        · cases h
    · cases h
  case sliceToArrayPointer t x =>
    unfold opSliceToArrayPointer at h
    split at h
    · split at h
      · cases h; exact ⟨_, rfl⟩
      · cases h
    · cases h
  case makeInterface t x => cases h
  case makeFunc fn x y =>
    unfold opMakeFunc at h
    split at h
    · cases h; exact ⟨_, rfl⟩
    · cases h
  case slice t x lo hi mx =>
    cases mx with
    | none =>
      simp only [opSlice] at h
      split at h
      · split at h
        · split at h
          · cases h; exact ⟨_, rfl⟩
          · cases h
        · cases h
      · cases h
    | some m =>
      simp only [opSlice3] at h
      split at h
      · split at h
        · split at h
          · cases h; exact ⟨_, rfl⟩
          · cases h
        · cases h
      · cases h
  case fieldAddr t x f =>
    unfold opFieldAddr at h
    split at h
    · split at h
      · rename_i fd _ n _ _
        have h' : (Option.rec none (fun a => some (Out.val (shiftA fd.offset a) A)) ((ptrC x).run F) : Option Out) = some out := h
        cases h1 : (ptrC x).run F with
        | none => rw [h1] at h'; cases h'
        | some b => rw [h1] at h'; cases h'; exact ⟨_, rfl⟩
      · cases h
    · cases h
  case field t x f =>
    unfold opField at h
    split at h
    · split at h
      · split at h
        · cases h; exact ⟨_, rfl⟩
        · cases h
      · cases h
    · cases h
  case indexAddr t x ix =>
    unfold opIndexAddr at h
    split at h
    · split at h
      · rename_i n e hu _ sz hsz
        have h' : (Option.rec none (fun i => Bool.rec none (Option.rec none (fun b => some (Out.val (shiftA (Nat.mul i sz) b) A)) ((ptrC x).run F)) (Nat.ble (Nat.succ i) n)) (Option.rec none natOf ((evC ix).run F)) : Option Out) = some out := h
        cases h1 : (Option.rec none natOf ((evC ix).run F) : Option Nat) with
        | none => rw [h1] at h'; cases h'
        | some i =>
          rw [h1] at h'
          simp only at h'
          cases h2 : Nat.ble (Nat.succ i) n with
          | false => rw [h2] at h'; cases h'
          | true =>
            rw [h2] at h'
            cases h3 : (ptrC x).run F with
            | none => simp only [h3] at h'; cases h'
            | some b => simp only [h3] at h'; cases h'; exact ⟨_, rfl⟩
      · cases h
    · split at h
      · rename_i e hu _ sz hsz
        have h' : (Option.rec none (fun i => Option.rec none (fun p => Prod.rec (fun b q => Prod.rec (fun n _ => Bool.rec none (some (Out.val (shiftA (Nat.mul i sz) b) A)) (Nat.ble (Nat.succ i) n)) q) p) (Option.rec none slcOf ((evC x).run F))) (Option.rec none natOf ((evC ix).run F)) : Option Out) = some out := h
        cases h1 : (Option.rec none natOf ((evC ix).run F) : Option Nat) with
        | none => rw [h1] at h'; cases h'
        | some i =>
          rw [h1] at h'
          simp only at h'
          cases h3 : (Option.rec none slcOf ((evC x).run F) : Option (Addr × Nat × Nat)) with
          | none => rw [h3] at h'; cases h'
          | some p =>
            obtain ⟨b, n, c⟩ := p
            rw [h3] at h'
            simp only at h'
            cases h2 : Nat.ble (Nat.succ i) n with
            | false => simp only [h2] at h'; cases h'
            | true => simp only [h2] at h'; cases h'; exact ⟨_, rfl⟩
      · cases h
    · cases h
  case index t x ix =>
    unfold opIndex at h
    split at h
    · split at h
      · split at h
        · split at h
          · split at h
            · cases h; exact ⟨_, rfl⟩
            · cases h
          · cases h
        · cases h
      · split at h
        · exact flatR_heap h
        · cases h
      · cases h
    · cases h
  case lookup t x ix ok =>
    unfold opLookup at h
    split at h
    · split at h
      · split at h
        · cases h; exact ⟨_, rfl⟩
        · split at h
          · cases h; exact ⟨_, rfl⟩
          · cases h
        · cases h
      · cases h
    · cases h
  case typeAssert x t u ok => cases h
  case extract x ix =>
    unfold opExtract at h
    split at h
    · split at h
      · cases h; exact ⟨_, rfl⟩
      · cases h
    · cases h
  case call c =>
    unfold opCall at h
    split at h
    · split at h
      · rename_i f hc; rw [hc] at hq; cases hq
      · rename_i b hc
        rw [hc] at hq
        unfold builtinA at h
        split at h <;> first | (cases hq; done) | skip
        · split at h
          · cases h; exact ⟨_, rfl⟩
          · cases h
        · cases h; exact ⟨_, rfl⟩
        · cases h
      · cases h
    · cases h
theorem flatR_any {A A' : AH} {q : Option Value} {v : Value} (h : flatR A q = some (.val v A)) : flatR A' q = some (.val v A') := by
  unfold flatR at h ⊢
  split at h
  · split at h
    · cases h; rfl
    · cases h
  · cases h
theorem valO_any {A A' : AH} {q : Option Value} {v : Value} (h : valO A q = some (.val v A)) : valO A' q = some (.val v A') := by
  cases q with
  | none => cases h
  | some u => cases h; rfl
/-- What asks no heap says the same of each. -/
theorem quiet_any {o : Oper} (ha : asksHeap o.op = false) {F : FT} {A : AH} {v : Value} (h : (operC P o).run F A = some (.val v A)) (A' : AH) : (operC P o).run F A' = some (.val v A') := by
  cases hop : o.op <;> simp only [hop, asksHeap] at ha <;> first | (cases ha; done) | skip
  all_goals simp only [operC, hop] at h ⊢
  case move x => exact valO_any h
  case assign x => exact valO_any h
  case build t ps =>
    unfold opBuild at h ⊢
    split at h
    · split at h
      · split at h
        · split at h
          · cases h; rfl
          · cases h
        · cases h
      · cases h
    · cases h
  case nilCheck x =>
    unfold opNilCheck at h ⊢
    split at h
    · cases h; rfl
    · cases h; rfl
    · cases h
  case binOp op t x y u =>
    have h' : Option.rec none (fun u => Option.rec none (fun v => (binC P op t x y).run u v F A) ((evC y).run F)) ((evC x).run F) = some (Out.val v A) := h
    show (Option.rec none (fun u => Option.rec none (fun v => (binC P op t x y).run u v F A') ((evC y).run F)) ((evC x).run F) : Option Out) = _
    cases h1 : (evC x).run F with
    | none => rw [h1] at h'; cases h'
    | some u =>
      rw [h1] at h'
      cases h2 : (evC y).run F with
      | none => rw [h2] at h'; cases h'
      | some q =>
        rw [h2] at h'
        have h3 : Option.rec (binSlow P F A op t x y u q) (fun v => some (Out.val v A)) (opFast op u q) = some (Out.val v A) := h'
        show (Option.rec (binSlow P F A' op t x y u q) (fun v => some (Out.val v A')) (opFast op u q) : Option Out) = _
        cases h4 : opFast op u q with
        | some z => rw [h4] at h3; cases h3; rfl
        | none =>
          rw [h4] at h3
          have h5 : binSlow P F A op t x y u q = some (Out.val v A) := h3
          show binSlow P F A' op t x y u q = _
          unfold binSlow at h5 ⊢
          split at h5
          · exact flatR_any h5
          · split at h5
            · split at h5
              · cases h5; rfl
              · cases h5
            · split at h5
              · cases h5; rfl
              · cases h5
            · exact valO_any h5
            · cases h5
  case makeFunc fn x y =>
    unfold opMakeFunc at h ⊢
    split at h
    · cases h; rfl
    · cases h
  case fieldAddr t x f =>
    unfold opFieldAddr at h ⊢
    split at h
    · split at h
      · rename_i fd hfd n hn _
        have h' : (Option.rec none (fun a => some (Out.val (shiftA fd.offset a) A)) ((ptrC x).run F) : Option Out) = some (Out.val v A) := h
        show (Option.rec none (fun a => some (Out.val (shiftA fd.offset a) A')) ((ptrC x).run F) : Option Out) = _
        cases h1 : (ptrC x).run F with
        | none => rw [h1] at h'; cases h'
        | some b => rw [h1] at h'; cases h'; rfl
      · cases h
    · cases h
  case field t x f =>
    unfold opField at h ⊢
    split at h
    · split at h
      · split at h
        · cases h; rfl
        · cases h
      · cases h
    · cases h
  case indexAddr t x ix =>
    unfold opIndexAddr at h ⊢
    split at h
    · split at h
      · rename_i n e hu _ sz hsz
        have h' : (Option.rec none (fun i => Bool.rec none (Option.rec none (fun b => some (Out.val (shiftA (Nat.mul i sz) b) A)) ((ptrC x).run F)) (Nat.ble (Nat.succ i) n)) (Option.rec none natOf ((evC ix).run F)) : Option Out) = some (Out.val v A) := h
        show (Option.rec none (fun i => Bool.rec none (Option.rec none (fun b => some (Out.val (shiftA (Nat.mul i sz) b) A')) ((ptrC x).run F)) (Nat.ble (Nat.succ i) n)) (Option.rec none natOf ((evC ix).run F)) : Option Out) = _
        cases h1 : (Option.rec none natOf ((evC ix).run F) : Option Nat) with
        | none => rw [h1] at h'; cases h'
        | some i =>
          rw [h1] at h'
          simp only at h' ⊢
          cases h2 : Nat.ble (Nat.succ i) n with
          | false => rw [h2] at h'; cases h'
          | true =>
            rw [h2] at h'
            cases h3 : (ptrC x).run F with
            | none => simp only [h3] at h'; cases h'
            | some b => simp only [h3] at h'; cases h'; rfl
      · cases h
    · split at h
      · rename_i e hu _ sz hsz
        have h' : (Option.rec none (fun i => Option.rec none (fun p => Prod.rec (fun b q => Prod.rec (fun n _ => Bool.rec none (some (Out.val (shiftA (Nat.mul i sz) b) A)) (Nat.ble (Nat.succ i) n)) q) p) (Option.rec none slcOf ((evC x).run F))) (Option.rec none natOf ((evC ix).run F)) : Option Out) = some (Out.val v A) := h
        show (Option.rec none (fun i => Option.rec none (fun p => Prod.rec (fun b q => Prod.rec (fun n _ => Bool.rec none (some (Out.val (shiftA (Nat.mul i sz) b) A')) (Nat.ble (Nat.succ i) n)) q) p) (Option.rec none slcOf ((evC x).run F))) (Option.rec none natOf ((evC ix).run F)) : Option Out) = _
        cases h1 : (Option.rec none natOf ((evC ix).run F) : Option Nat) with
        | none => rw [h1] at h'; cases h'
        | some i =>
          rw [h1] at h'
          simp only at h' ⊢
          cases h3 : (Option.rec none slcOf ((evC x).run F) : Option (Addr × Nat × Nat)) with
          | none => rw [h3] at h'; cases h'
          | some p =>
            obtain ⟨b, n, c⟩ := p
            rw [h3] at h'
            simp only at h' ⊢
            cases h2 : Nat.ble (Nat.succ i) n with
            | false => simp only [h2] at h'; cases h'
            | true => simp only [h2] at h'; cases h'; rfl
      · cases h
    · cases h
  case extract x ix =>
    unfold opExtract at h ⊢
    split at h
    · split at h
      · cases h; rfl
      · cases h
    · cases h

/-! ### What a plan is -/
inductive PlanOK (P : Program) (ops : Array Oper) : Array Bool → List Nat → List (Nat × Nat × List Value) → Nat → List PStep → List (Nat × List Value) → Prop where
  | nil (L : Array Bool) (ws : List Nat) (fs : List (Nat × Nat × List Value)) (nf : Nat) (hr : Region.ready .any ops L = []) : PlanOK P ops L ws fs nf [] (fs.map fun f => (f.2.1, f.2.2))
  | quiet (L : Array Bool) (ws : List Nat) (fs : List (Nat × Nat × List Value)) (nf : Nat) (i : Nat) (o : Oper) (l : List PStep) (m : List (Nat × List Value))
    (ho : ops[i]? = some o) (hq : quietOp P o.op = true) (hr : i ∈ Region.ready .any ops L) (hf : Region.free .any ops L i = true)
    (t : PlanOK P ops (L.setIfInBounds i true) (match asksHeap o.op with | true => i :: ws | false => ws) fs nf l m) : PlanOK P ops L ws fs nf (.quiet i o (asksHeap o.op) :: l) m
  | float (L : Array Bool) (ws : List Nat) (fs : List (Nat × Nat × List Value)) (nf : Nat) (i : Nat) (o : Oper) (l : List PStep) (m : List (Nat × List Value)) (cs : List Value) (v : Nat → Value)
    (ho : ops[i]? = some o) (hfl : floatO P o.op = some (cs, v)) (hg : o.guard = none) (hr : i ∈ Region.ready .any ops L) (hf : Region.free .any ops L i = true)
    (t : PlanOK P ops (L.setIfInBounds i true) ws ((i, nf, cs) :: fs) (nf + 1) l m) : PlanOK P ops L ws fs nf (.float i o nf v :: l) m
  | eff (L : Array Bool) (ws : List Nat) (fs : List (Nat × Nat × List Value)) (nf : Nat) (i : Nat) (o : Oper) (l : List PStep) (m : List (Nat × List Value))
    (ho : ops[i]? = some o) (hr : Region.ready .any ops L = [i])
    (t : PlanOK P ops (L.setIfInBounds i true) (ws.filter fun k => !(memN (directOn o) k)) (fs.filter fun f => !(memN (directOn o) f.1)) nf l m) :
    PlanOK P ops L ws fs nf (.eff i o (ws.filter fun k => !(memN (directOn o) k)) ((fs.filter fun f => memN (directOn o) f.1).map fun f => (f.2.1, f.2.2)) :: l) m
/-- What is to be computed of a plan. -/
def planB (ops : Array Oper) : List PStep → Array Bool → Bool
  | [], L => (Region.ready .any ops L).isEmpty
  | .quiet i _ _ :: l, L => (Region.ready .any ops L).contains i && Region.free .any ops L i && planB ops l (L.setIfInBounds i true)
  | .float i _ _ _ :: l, L => (Region.ready .any ops L).contains i && Region.free .any ops L i && planB ops l (L.setIfInBounds i true)
  | .eff i _ _ _ :: l, L => (match Region.ready .any ops L with | [j] => Nat.beq j i | _ => false) && planB ops l (L.setIfInBounds i true)
theorem planGo_ok : ∀ (n : Nat) (rem : Rem) (ws : List Nat) (fs : List (Nat × Nat × List Value)) (nf : Nat) (l : List PStep) (m : List (Nat × List Value)) (L : Array Bool),
    planGo P n rem ws fs nf = some (l, m) → (∀ p ∈ rem, ops[p.1]? = some p.2) → planB ops l L = true → PlanOK P ops L ws fs nf l m
  | 0, rem, ws, fs, nf, l, m, L, h, _, _ => by cases h
  | n + 1, rem, ws, fs, nf, l, m, L, h, hrem, hb => by
    have hdrop : ∀ i, ∀ p ∈ dropP rem i, ops[p.1]? = some p.2 := fun i p hp => hrem p (List.mem_filter.1 hp).1
    simp only [planGo] at h
    split at h
    · cases h
      simp only [planB, List.isEmpty_iff] at hb
      exact .nil L ws fs nf hb
    · split at h
      · rename_i i o hfind
        have hp := List.find?_some hfind
        have hm := List.mem_of_find?_eq_some hfind
        simp only [Bool.and_eq_true] at hp
        split at h
        · rename_i l' m' hgo
          cases h
          simp only [planB, Bool.and_eq_true] at hb
          exact .quiet L ws fs nf i o l' m (hrem _ hm) hp.1 (by simpa using hb.1.1) hb.1.2 (planGo_ok n _ _ _ _ _ _ _ hgo (hdrop i) hb.2)
        · cases h
      · split at h
        · rename_i i o hfind
          have hp := List.find?_some hfind
          have hm := List.mem_of_find?_eq_some hfind
          simp only [Bool.and_eq_true, Option.isNone_iff_eq_none] at hp
          split at h
          · rename_i cs v hfl
            split at h
            · rename_i l' m' hgo
              cases h
              simp only [planB, Bool.and_eq_true] at hb
              exact .float L ws fs nf i o l' m cs v (hrem _ hm) hfl hp.1.2 (by simpa using hb.1.1) hb.1.2 (planGo_ok n _ _ _ _ _ _ _ hgo (hdrop i) hb.2)
            · cases h
          · cases h
        · split at h
          · rename_i i o hfind
            have hm := List.mem_of_find?_eq_some hfind
            split at h
            · rename_i l' m' hgo
              cases h
              simp only [planB, Bool.and_eq_true] at hb
              have hr : Region.ready .any ops L = [i] := by
                have := hb.1
                split at this
                · rename_i j hj; rw [hj, Nat.eq_of_beq_eq_true this]
                · cases this
              exact .eff L ws fs nf i o l' m (hrem _ hm) hr (planGo_ok n _ _ _ _ _ _ _ hgo (hdrop i) hb.2)
            · cases h
          · cases h
theorem numbered_get : ∀ (l : List Oper) (k : Nat), ∀ p ∈ numbered l k, k ≤ p.1 ∧ l[p.1 - k]? = some p.2
  | [], k, p, hp => by cases hp
  | o :: l, k, p, hp => by
    rcases List.mem_cons.1 (show p ∈ (k, o) :: numbered l (k + 1) from hp) with rfl | hp
    · simp
    · obtain ⟨h1, h2⟩ := numbered_get l (k + 1) p hp
      refine ⟨by omega, ?_⟩
      rw [show p.1 - k = (p.1 - (k + 1)) + 1 by omega, List.getElem?_cons_succ]
      exact h2
theorem planOf_ok {l : List PStep} {m : List (Nat × List Value)} (h : planOf P ops = some (l, m)) (hb : planB ops l (Array.replicate ops.size false) = true) : PlanOK P ops (Array.replicate ops.size false) [] [] 0 l m :=
  planGo_ok _ _ _ _ _ _ _ _ h (fun p hp => by
    have := (numbered_get ops.toList 0 p hp).2
    simpa using this) hb

/-! ### Facts of a plan -/
structure Facts (P : Program) (ops : Array Oper) (L : Array Bool) (fs : List (Nat × Nat × List Value)) (nf : Nat) (l : List PStep) (m : List (Nat × List Value)) : Prop where
  un : ∀ q ∈ l, L.getD q.idx true = false
  get : ∀ q ∈ l, ops[q.idx]? = some q.oper
  nodup : l.Pairwise fun p q => p.idx ≠ q.idx
  float : ∀ i o k v, .float i o k v ∈ l → nf ≤ k ∧ k < nf + countF l ∧ o.guard = none ∧ ∃ cs, floatO P o.op = some (cs, v)
  one : ∀ i o k v i' o' v', .float i o k v ∈ l → .float i' o' k v' ∈ l → i = i'
  mats : ∀ j o need mats k cs, .eff j o need mats ∈ l → (k, cs) ∈ mats → (∃ i, (i, k, cs) ∈ fs ∧ i ∈ directOn o) ∨ ∃ i o' v, .float i o' k v ∈ l ∧ floatO P o'.op = some (cs, v) ∧ i ∈ directOn o
  ends : ∀ k cs, (k, cs) ∈ m → (∃ i, (i, k, cs) ∈ fs) ∨ ∃ i o' v, .float i o' k v ∈ l ∧ floatO P o'.op = some (cs, v)
  apart : ∀ j o need mats j' o' need' mats' k cs cs', .eff j o need mats ∈ l → .eff j' o' need' mats' ∈ l → (k, cs) ∈ mats → (k, cs') ∈ mats' → j = j'
  apartE : ∀ j o need mats k cs cs', .eff j o need mats ∈ l → (k, cs) ∈ mats → (k, cs') ∈ m → False
  matsN : ∀ j o need mats, .eff j o need mats ∈ l → mats.Pairwise fun a b => a.1 ≠ b.1
  endsN : m.Pairwise fun a b => a.1 ≠ b.1
theorem countF_cons (p : PStep) (l : List PStep) : countF (p :: l) = match p with | .float _ _ _ _ => countF l + 1 | _ => countF l := by
  cases p <;> rfl
theorem unlisted_set {L : Array Bool} {i j : Nat} (h : (L.setIfInBounds i true).getD j true = false) : L.getD j true = false ∧ j ≠ i := by
  have hne : j ≠ i := fun q => by
    subst q
    rcases Nat.lt_or_ge j L.size with h1 | h1
    · simp [h1] at h
    · simp [Array.getElem?_eq_none h1] at h
  rw [getD_set_ne true (Ne.symm hne)] at h
  exact ⟨h, hne⟩
theorem facts_of {L : Array Bool} {ws : List Nat} {fs : List (Nat × Nat × List Value)} {nf : Nat} {l : List PStep} {m : List (Nat × List Value)} (h : PlanOK P ops L ws fs nf l m)
    (hfs : ∀ f ∈ fs, f.2.1 < nf) (hnd : fs.Pairwise fun f g => f.2.1 ≠ g.2.1) : Facts P ops L fs nf l m := by
  induction h with
  | nil L ws fs nf hr =>
    refine ⟨by simp, by simp, .nil, by simp, by simp, by simp, ?_, by simp, by simp, by simp, List.pairwise_map.2 hnd⟩
    intro k cs hk
    simp only [List.mem_map, Prod.mk.injEq] at hk
    obtain ⟨⟨i, k', cs'⟩, h1, rfl, rfl⟩ := hk
    exact .inl ⟨i, h1⟩
  | quiet L ws fs nf i o l m ho hq hr hf t ih =>
    have ih := ih hfs hnd
    have hi0 := (mem_ready.1 hr).1
    refine ⟨?_, ?_, List.pairwise_cons.2 ⟨fun q hq => Ne.symm (unlisted_set (ih.un q hq)).2, ih.nodup⟩, ?_, ?_, ?_, ?_, ?_, ?_, ?_, ih.endsN⟩
    · intro q hq
      rcases List.mem_cons.1 hq with rfl | hq
      · exact hi0
      · exact (unlisted_set (ih.un q hq)).1
    · intro q hq
      rcases List.mem_cons.1 hq with rfl | hq
      · exact ho
      · exact ih.get q hq
    · intro i' o' k v hq
      rcases List.mem_cons.1 hq with hq | hq
      · cases hq
      · exact ih.float i' o' k v hq
    · intro i1 o1 k v i2 o2 v2 h1 h2
      rcases List.mem_cons.1 h1 with h1 | h1
      · cases h1
      · rcases List.mem_cons.1 h2 with h2 | h2
        · cases h2
        · exact ih.one _ _ _ _ _ _ _ h1 h2
    · intro j o1 need mats k cs h1 h2
      rcases List.mem_cons.1 h1 with h1 | h1
      · cases h1
      · rcases ih.mats j o1 need mats k cs h1 h2 with g | ⟨i2, o2, v, g1, g2⟩
        · exact .inl g
        · exact .inr ⟨i2, o2, v, List.mem_cons_of_mem _ g1, g2⟩
    · intro k cs h1
      rcases ih.ends k cs h1 with g | ⟨i2, o2, v, g1, g2⟩
      · exact .inl g
      · exact .inr ⟨i2, o2, v, List.mem_cons_of_mem _ g1, g2⟩
    · intro j o1 need mats j' o1' need' mats' k cs cs' h1 h2 h3 h4
      rcases List.mem_cons.1 h1 with h1 | h1
      · cases h1
      · rcases List.mem_cons.1 h2 with h2 | h2
        · cases h2
        · exact ih.apart _ _ _ _ _ _ _ _ _ _ _ h1 h2 h3 h4
    · intro j o1 need mats k cs cs' h1 h2 h3
      rcases List.mem_cons.1 h1 with h1 | h1
      · cases h1
      · exact ih.apartE _ _ _ _ _ _ _ h1 h2 h3
    · intro j o1 need mats h1
      rcases List.mem_cons.1 h1 with h1 | h1
      · cases h1
      · exact ih.matsN _ _ _ _ h1
  | float L ws fs nf i o l m cs v ho hfl hg hr hf t ih =>
    have ih := ih (fun f hf => by
      rcases List.mem_cons.1 hf with rfl | hf
      · exact Nat.lt_succ_self _
      · exact Nat.lt_succ_of_lt (hfs f hf)) (List.pairwise_cons.2 ⟨fun g hg => fun q => Nat.lt_irrefl _ (by have := hfs g hg; rw [← q] at this; exact this), hnd⟩)
    have hi0 := (mem_ready.1 hr).1
    refine ⟨?_, ?_, List.pairwise_cons.2 ⟨fun q hq => Ne.symm (unlisted_set (ih.un q hq)).2, ih.nodup⟩, ?_, ?_, ?_, ?_, ?_, ?_, ?_, ih.endsN⟩
    · intro q hq
      rcases List.mem_cons.1 hq with rfl | hq
      · exact hi0
      · exact (unlisted_set (ih.un q hq)).1
    · intro q hq
      rcases List.mem_cons.1 hq with rfl | hq
      · exact ho
      · exact ih.get q hq
    · intro i' o' k v' hq
      rw [countF_cons]
      simp only
      rcases List.mem_cons.1 hq with hq | hq
      · cases hq
        exact ⟨Nat.le_refl _, by omega, hg, cs, hfl⟩
      · obtain ⟨g1, g2, g3⟩ := ih.float i' o' k v' hq
        exact ⟨by omega, by omega, g3⟩
    · intro i1 o1 k v1 i2 o2 v2 h1 h2
      rcases List.mem_cons.1 h1 with h1 | h1
      · cases h1
        rcases List.mem_cons.1 h2 with h2 | h2
        · cases h2; rfl
        · have := (ih.float _ _ _ _ h2).1; omega
      · rcases List.mem_cons.1 h2 with h2 | h2
        · cases h2
          have := (ih.float _ _ _ _ h1).1; omega
        · exact ih.one _ _ _ _ _ _ _ h1 h2
    · intro j o1 need mats k cs' h1 h2
      rcases List.mem_cons.1 h1 with h1 | h1
      · cases h1
      · rcases ih.mats j o1 need mats k cs' h1 h2 with ⟨i', g, g'⟩ | ⟨i2, o2, v', g1, g2⟩
        · rcases List.mem_cons.1 g with g | g
          · cases g
            exact .inr ⟨i, o, v, List.mem_cons_self, hfl, g'⟩
          · exact .inl ⟨i', g, g'⟩
        · exact .inr ⟨i2, o2, v', List.mem_cons_of_mem _ g1, g2⟩
    · intro k cs' h1
      rcases ih.ends k cs' h1 with ⟨i', g⟩ | ⟨i2, o2, v', g1, g2⟩
      · rcases List.mem_cons.1 g with g | g
        · cases g
          exact .inr ⟨i, o, v, List.mem_cons_self, hfl⟩
        · exact .inl ⟨i', g⟩
      · exact .inr ⟨i2, o2, v', List.mem_cons_of_mem _ g1, g2⟩
    · intro j o1 need mats j' o1' need' mats' k cs1 cs' h1 h2 h3 h4
      rcases List.mem_cons.1 h1 with h1 | h1
      · cases h1
      · rcases List.mem_cons.1 h2 with h2 | h2
        · cases h2
        · exact ih.apart _ _ _ _ _ _ _ _ _ _ _ h1 h2 h3 h4
    · intro j o1 need mats k cs1 cs' h1 h2 h3
      rcases List.mem_cons.1 h1 with h1 | h1
      · cases h1
      · exact ih.apartE _ _ _ _ _ _ _ h1 h2 h3
    · intro j o1 need mats h1
      rcases List.mem_cons.1 h1 with h1 | h1
      · cases h1
      · exact ih.matsN _ _ _ _ h1
  | eff L ws fs nf i o l m ho hr t ih =>
    have ih := ih (fun f hf => hfs f (List.mem_filter.1 hf).1) (hnd.filter _)
    have hi0 := (mem_ready.1 (show i ∈ Region.ready .any ops L by rw [hr]; simp)).1
    have huniq : ∀ {i1 i2 k : Nat} {c1 c2 : List Value}, (i1, k, c1) ∈ fs → (i2, k, c2) ∈ fs → i1 = i2 := fun {i1 i2 k c1 c2} g1 g2 => by
      have key : ∀ {fs : List (Nat × Nat × List Value)}, fs.Pairwise (fun f g => f.2.1 ≠ g.2.1) → (i1, k, c1) ∈ fs → (i2, k, c2) ∈ fs → i1 = i2 := fun {fs} hp => by
        induction hp with
        | nil => intro g; cases g
        | cons h1 _ ih2 =>
          intro g1 g2
          rcases List.mem_cons.1 g1 with q1 | q1
          · rcases List.mem_cons.1 g2 with q2 | q2
            · rw [← q1] at q2; cases q2; rfl
            · have := h1 _ q2; rw [← q1] at this; exact absurd rfl this
          · rcases List.mem_cons.1 g2 with q2 | q2
            · have := h1 _ q1; rw [← q2] at this; exact absurd rfl this
            · exact ih2 q1 q2
      exact key hnd g1 g2
    have hhead : ∀ {k : Nat} {cs : List Value}, (k, cs) ∈ ((fs.filter fun f => memN (directOn o) f.1).map fun f => (f.2.1, f.2.2)) → ∃ i1, (i1, k, cs) ∈ fs ∧ i1 ∈ directOn o := fun {k cs} hk => by
      simp only [List.mem_map, List.mem_filter, Prod.mk.injEq] at hk
      obtain ⟨⟨i1, k', cs'⟩, ⟨h1, h2⟩, rfl, rfl⟩ := hk
      exact ⟨i1, h1, memN_eq.1 h2⟩
    have hclash : ∀ {k : Nat} {cs cs' : List Value} {i1 : Nat}, (i1, k, cs) ∈ fs → i1 ∈ directOn o → ((∃ i2, (i2, k, cs') ∈ fs.filter fun f => !(memN (directOn o) f.1)) ∨ ∃ i2 o2 v, PStep.float i2 o2 k v ∈ l ∧ floatO P o2.op = some (cs', v)) → False := fun {k cs cs' i1} g1 g2 g3 => by
      rcases g3 with ⟨i2, g3⟩ | ⟨i2, o2, v, g3, _⟩
      · obtain ⟨g4, g5⟩ := List.mem_filter.1 g3
        have := huniq g1 g4
        subst this
        simp [memN_eq.2 g2] at g5
      · have h1 := (ih.float _ _ _ _ g3).1
        have h2 := hfs _ g1
        simp only at h2; omega
    refine ⟨?_, ?_, List.pairwise_cons.2 ⟨fun q hq => Ne.symm (unlisted_set (ih.un q hq)).2, ih.nodup⟩, ?_, ?_, ?_, ?_, ?_, ?_, ?_, ih.endsN⟩
    · intro q hq
      rcases List.mem_cons.1 hq with rfl | hq
      · exact hi0
      · exact (unlisted_set (ih.un q hq)).1
    · intro q hq
      rcases List.mem_cons.1 hq with rfl | hq
      · exact ho
      · exact ih.get q hq
    · intro i' o' k v hq
      rcases List.mem_cons.1 hq with hq | hq
      · cases hq
      · exact ih.float i' o' k v hq
    · intro i1 o1 k v i2 o2 v2 h1 h2
      rcases List.mem_cons.1 h1 with h1 | h1
      · cases h1
      · rcases List.mem_cons.1 h2 with h2 | h2
        · cases h2
        · exact ih.one _ _ _ _ _ _ _ h1 h2
    · intro j o1 need mats k cs h1 h2
      rcases List.mem_cons.1 h1 with h1 | h1
      · cases h1
        exact .inl (hhead h2)
      · rcases ih.mats j o1 need mats k cs h1 h2 with ⟨i', g, g'⟩ | ⟨i2, o2, v, g1, g2⟩
        · exact .inl ⟨i', (List.mem_filter.1 g).1, g'⟩
        · exact .inr ⟨i2, o2, v, List.mem_cons_of_mem _ g1, g2⟩
    · intro k cs h1
      rcases ih.ends k cs h1 with ⟨i', g⟩ | ⟨i2, o2, v, g1, g2⟩
      · exact .inl ⟨i', (List.mem_filter.1 g).1⟩
      · exact .inr ⟨i2, o2, v, List.mem_cons_of_mem _ g1, g2⟩
    · intro j o1 need mats j' o1' need' mats' k cs cs' h1 h2 h3 h4
      rcases List.mem_cons.1 h1 with h1 | h1
      · cases h1
        rcases List.mem_cons.1 h2 with h2 | h2
        · cases h2; rfl
        · obtain ⟨i1, g1, g2⟩ := hhead h3
          refine (hclash (cs' := cs') g1 g2 ?_).elim
          rcases ih.mats _ _ _ _ _ _ h2 h4 with ⟨i', g, _⟩ | ⟨i2, o2, v, g3, g4, _⟩
          · exact .inl ⟨i', g⟩
          · exact .inr ⟨i2, o2, v, g3, g4⟩
      · rcases List.mem_cons.1 h2 with h2 | h2
        · cases h2
          obtain ⟨i1, g1, g2⟩ := hhead h4
          refine (hclash (cs' := cs) g1 g2 ?_).elim
          rcases ih.mats _ _ _ _ _ _ h1 h3 with ⟨i', g, _⟩ | ⟨i2, o2, v, g3, g4, _⟩
          · exact .inl ⟨i', g⟩
          · exact .inr ⟨i2, o2, v, g3, g4⟩
        · exact ih.apart _ _ _ _ _ _ _ _ _ _ _ h1 h2 h3 h4
    · intro j o1 need mats k cs cs' h1 h2 h3
      rcases List.mem_cons.1 h1 with h1 | h1
      · cases h1
        obtain ⟨i1, g1, g2⟩ := hhead h2
        exact hclash (cs' := cs') g1 g2 (ih.ends _ _ h3)
      · exact ih.apartE _ _ _ _ _ _ _ h1 h2 h3
    · intro j o1 need mats h1
      rcases List.mem_cons.1 h1 with h1 | h1
      · cases h1
        exact List.pairwise_map.2 (hnd.filter _)
      · exact ih.matsN _ _ _ _ h1
end
end Go.Proofs.YtohnakjamlhhkaaGreatDoor
