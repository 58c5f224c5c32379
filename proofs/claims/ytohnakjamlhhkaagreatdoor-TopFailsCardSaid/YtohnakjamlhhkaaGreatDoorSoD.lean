/- Regions that come up in whatever order: what the order does not change. -/
import Derived.Test.YtohnakjamlhhkaaGreatDoorSoC
import Derived.Orders
namespace Go.Proofs.YtohnakjamlhhkaaGreatDoor
open Go
set_option linter.unusedVariables false
set_option linter.unusedSimpArgs false

/-! ### Frames: numbers apart -/
theorem getC_setC_ne : ∀ (k n m : Nat) (v : Value) (t t' : FT), (setC k n).run v t = some t' → m ≠ n → (getC k m).run t' = (getC k m).run t
  | 0, n, m, v, t, t', h, _ => by cases h
  | k + 1, n, m, v, .leaf, t', h, _ => by rw [setC_leaf] at h; cases h
  | k + 1, n, m, v, .node u l r, t', h, hne => by
    rcases nat_cases3 n with rfl | ⟨a, rfl, ha⟩ | ⟨a, rfl, j, ha⟩
    · rw [setC_zero] at h; cases h
      rcases nat_cases3 m with rfl | ⟨b, rfl, hb⟩ | ⟨b, rfl, i, hb⟩
      · exact absurd rfl hne
      · rw [getC_even _ _ _ _ hb, getC_even _ _ _ _ hb]
      · rw [getC_odd _ _ _ _ hb, getC_odd _ _ _ _ hb]
    · rw [setC_even _ _ _ _ _ ha] at h
      cases h' : (setC k (a / 2)).run v l with
      | none => rw [h'] at h; cases h
      | some l' =>
        rw [h'] at h; cases h
        rcases nat_cases3 m with rfl | ⟨b, rfl, hb⟩ | ⟨b, rfl, i, hb⟩
        · rfl
        · rw [getC_even _ _ _ _ hb, getC_even _ _ _ _ hb]
          exact getC_setC_ne k _ _ v l l' h' fun q => hne (by rw [half_inj0 hb ha q])
        · rw [getC_odd _ _ _ _ hb, getC_odd _ _ _ _ hb]
    · rw [setC_odd _ _ _ _ _ ha] at h
      cases h' : (setC k (a / 2)).run v r with
      | none => rw [h'] at h; cases h
      | some r' =>
        rw [h'] at h; cases h
        rcases nat_cases3 m with rfl | ⟨b, rfl, hb⟩ | ⟨b, rfl, i, hb⟩
        · rfl
        · rw [getC_even _ _ _ _ hb, getC_even _ _ _ _ hb]
        · rw [getC_odd _ _ _ _ hb, getC_odd _ _ _ _ hb]
          exact getC_setC_ne k _ _ v r r' h' fun q => hne (by rw [half_inj1 hb ha q])
theorem setC_comm : ∀ (k n m : Nat) (v u : Value) (t t1 t2 : FT), n ≠ m → (setC k n).run v t = some t1 → (setC k m).run u t1 = some t2 → ∃ t3, (setC k m).run u t = some t3 ∧ (setC k n).run v t3 = some t2
  | 0, n, m, v, u, t, t1, t2, _, h, _ => by cases h
  | k + 1, n, m, v, u, .leaf, t1, t2, _, h, _ => by rw [setC_leaf] at h; cases h
  | k + 1, n, m, v, u, .node x l r, t1, t2, hne, h, h2 => by
    rcases nat_cases3 n with rfl | ⟨a, rfl, ha⟩ | ⟨a, rfl, j, ha⟩
    · rw [setC_zero] at h; cases h
      rcases nat_cases3 m with rfl | ⟨b, rfl, hb⟩ | ⟨b, rfl, i, hb⟩
      · exact absurd rfl hne
      · rw [setC_even _ _ _ _ _ hb] at h2 ⊢
        cases h' : (setC k (b / 2)).run u l with
        | none => rw [h'] at h2; cases h2
        | some l' => rw [h'] at h2; cases h2; exact ⟨_, rfl, rfl⟩
      · rw [setC_odd _ _ _ _ _ hb] at h2 ⊢
        cases h' : (setC k (b / 2)).run u r with
        | none => rw [h'] at h2; cases h2
        | some l' => rw [h'] at h2; cases h2; exact ⟨_, rfl, rfl⟩
    · rw [setC_even _ _ _ _ _ ha] at h
      cases h' : (setC k (a / 2)).run v l with
      | none => rw [h'] at h; cases h
      | some l' =>
        rw [h'] at h; cases h
        rcases nat_cases3 m with rfl | ⟨b, rfl, hb⟩ | ⟨b, rfl, i, hb⟩
        · rw [setC_zero] at h2; cases h2
          exact ⟨_, rfl, by rw [setC_even _ _ _ _ _ ha, h']; rfl⟩
        · rw [setC_even _ _ _ _ _ hb] at h2 ⊢
          cases h3 : (setC k (b / 2)).run u l' with
          | none => rw [h3] at h2; cases h2
          | some l2 =>
            rw [h3] at h2; cases h2
            obtain ⟨l3, e1, e2⟩ := setC_comm k _ _ v u l l' l2 (fun q => hne (by rw [half_inj0 ha hb q])) h' h3
            exact ⟨.node x l3 r, by rw [e1]; rfl, by rw [setC_even _ _ _ _ _ ha, e2]; rfl⟩
        · rw [setC_odd _ _ _ _ _ hb] at h2 ⊢
          cases h3 : (setC k (b / 2)).run u r with
          | none => rw [h3] at h2; cases h2
          | some r2 =>
            rw [h3] at h2; cases h2
            exact ⟨.node x l r2, rfl, by rw [setC_even _ _ _ _ _ ha, h']; rfl⟩
    · rw [setC_odd _ _ _ _ _ ha] at h
      cases h' : (setC k (a / 2)).run v r with
      | none => rw [h'] at h; cases h
      | some r' =>
        rw [h'] at h; cases h
        rcases nat_cases3 m with rfl | ⟨b, rfl, hb⟩ | ⟨b, rfl, i, hb⟩
        · rw [setC_zero] at h2; cases h2
          exact ⟨_, rfl, by rw [setC_odd _ _ _ _ _ ha, h']; rfl⟩
        · rw [setC_even _ _ _ _ _ hb] at h2 ⊢
          cases h3 : (setC k (b / 2)).run u l with
          | none => rw [h3] at h2; cases h2
          | some l2 =>
            rw [h3] at h2; cases h2
            exact ⟨.node x l2 r, rfl, by rw [setC_odd _ _ _ _ _ ha, h']; rfl⟩
        · rw [setC_odd _ _ _ _ _ hb] at h2 ⊢
          cases h3 : (setC k (b / 2)).run u r' with
          | none => rw [h3] at h2; cases h2
          | some r2 =>
            rw [h3] at h2; cases h2
            obtain ⟨r3, e1, e2⟩ := setC_comm k _ _ v u r r' r2 (fun q => hne (by rw [half_inj1 ha hb q])) h' h3
            exact ⟨.node x l r3, by rw [e1]; rfl, by rw [setC_odd _ _ _ _ _ ha, e2]; rfl⟩
theorem putC_comm {d e : Option Tmp} {v u : Value} {F F1 F2 : FT} (hne : ∀ x, d = some x → e ≠ some x) (h : (putC d).run v F = some F1) (h2 : (putC e).run u F1 = some F2) :
    ∃ F3, (putC e).run u F = some F3 ∧ (putC d).run v F3 = some F2 := by
  cases d with
  | none =>
    have : F1 = F := by cases h; rfl
    subst this; exact ⟨F2, h2, rfl⟩
  | some d =>
    cases e with
    | none =>
      have : F2 = F1 := by cases h2; rfl
      subst this; exact ⟨F, rfl, h⟩
    | some e => exact setC_comm 12 d e v u F F1 F2 (fun q => hne d rfl (by rw [q])) h h2
/-- What looks not at a number sees it not. -/
theorem evC_put {d : Option Tmp} {v : Value} {F F1 : FT} (h : (putC d).run v F = some F1) {x : Operand} (hx : ∀ t, d = some t → x ≠ .tmp t) : (evC x).run F1 = (evC x).run F := by
  cases d with
  | none =>
    have : F1 = F := by cases h; rfl
    subst this; rfl
  | some d =>
    cases x with
    | tmp t => exact getC_setC_ne 12 d t v F F1 h fun q => hx d rfl (by rw [q])
    | const c => simp only [evC]; split <;> rfl
    | global g => rfl
    | func f => rfl

/-! ### Operations see their operands alone -/
section
variable {P : Program}
/-- Two frames look alike to an operation. -/
def Alike (l : List Operand) (F F' : FT) : Prop := ∀ x ∈ l, (evC x).run F = (evC x).run F'
theorem evsC_alike {F F' : FT} : ∀ {l : List Operand}, Alike l F F' → (evsC l).run F = (evsC l).run F'
  | [], _ => rfl
  | x :: l, h => by
    have h1 := h x (by simp)
    have h2 : (evsC l).run F = (evsC l).run F' := evsC_alike fun y hy => h y (List.mem_cons_of_mem _ hy)
    show (Option.rec none (fun v => Option.rec none (fun vs => some (v :: vs)) ((evsC l).run F)) ((evC x).run F) : Option (List Value)) = (Option.rec none (fun v => Option.rec none (fun vs => some (v :: vs)) ((evsC l).run F')) ((evC x).run F') : Option (List Value))
    rw [h1, h2]
theorem ptrC_alike {F F' : FT} {x : Operand} (h : (evC x).run F = (evC x).run F') : (ptrC x).run F = (ptrC x).run F' := by
  show (Option.rec none ptrOf ((evC x).run F) : Option Addr) = (Option.rec none ptrOf ((evC x).run F') : Option Addr)
  rw [h]
theorem operC_alike {o : Oper} {F F' : FT} (h : Alike o.op.operands.toList F F') (A : AH) : (operC P o).run F A = (operC P o).run F' A := by
  have one : ∀ {x : Operand}, x ∈ o.op.operands.toList → (evC x).run F = (evC x).run F' := fun {x} hx => h x hx
  have many : ∀ {l : List Operand}, (∀ x ∈ l, x ∈ o.op.operands.toList) → (evsC l).run F = (evsC l).run F' := fun {l} hl => evsC_alike fun x hx => h x (hl x hx)
  have evl : ∀ (G : FT) (x : Operand), AFr.eval G x = (evC x).run G := fun _ _ => rfl
  have evls : ∀ (G : FT) (l : List Operand), AFr.evals G l = (evsC l).run G := fun _ _ => rfl
  cases hop : o.op <;> simp only [hop, Op.operands, Call.operands] at one many <;> simp only [operC, hop]
  case move x =>
    have h1 := one (x := x) (by simp)
    show valO A ((evC x).run F) = valO A ((evC x).run F')
    rw [h1]
  case assign x =>
    have h1 := one (x := x) (by simp)
    show valO A ((evC x).run F) = valO A ((evC x).run F')
    rw [h1]
  case pick c x y =>
    have h1 := one (x := c) (by simp); have h2 := one (x := x) (by simp); have h3 := one (x := y) (by simp)
    simp only [opPick, evl, h1]
    split
    · rename_i t _; cases t <;> simp only [h2, h3]
    · rfl
  case alloc e => rfl
  case box e x =>
    have h1 := one (x := x) (by simp)
    simp only [opBox, evl, h1]
  case build t ps =>
    have h1 := many (l := ps.toList.map (·.2)) (by simp)
    simp only [opBuild, evls, h1]
  case buildSlice t n ps =>
    have h1 := many (l := ps.toList.map (·.2)) (by simp)
    simp only [opBuildSlice, evls, h1]
  case insert t m k x =>
    have h1 := one (x := m) (by simp); have h2 := one (x := k) (by simp); have h3 := one (x := x) (by simp)
    simp only [opMapUpdate, evl, h1, h2, h3]
  case load t x =>
    have h1 := ptrC_alike (one (x := x) (by simp))
    unfold opLoad
    split
    · split
      · rename_i n _
        show valO A (Option.rec none (cellsA A n) ((ptrC x).run F)) = valO A (Option.rec none (cellsA A n) ((ptrC x).run F'))
        rw [h1]
      · rfl
    · show valO A (Option.rec none (cellA A) ((ptrC x).run F)) = valO A (Option.rec none (cellA A) ((ptrC x).run F'))
      rw [h1]
    · rfl
  case store t x y =>
    have h1 := one (x := x) (by simp); have h2 := one (x := y) (by simp)
    unfold opStore
    split
    · split
      · simp only [evl, h1, h2]
      · rfl
    · split
      · show skipO (Option.rec none (fun b => Option.rec none (fun v => storeCell A v b) ((evC y).run F)) ((ptrC x).run F)) = skipO (Option.rec none (fun b => Option.rec none (fun v => storeCell A v b) ((evC y).run F')) ((ptrC x).run F'))
        rw [ptrC_alike h1, h2]
      · rfl
    · rfl
  case nilCheck x =>
    have h1 := one (x := x) (by simp)
    simp only [opNilCheck, evl, h1]
  case binOp op t x y u =>
    have h1 := one (x := x) (by simp); have h2 := one (x := y) (by simp)
    show (Option.rec none (fun u => Option.rec none (fun v => (binC P op t x y).run u v F A) ((evC y).run F)) ((evC x).run F) : Option Out) = Option.rec none (fun u => Option.rec none (fun v => (binC P op t x y).run u v F' A) ((evC y).run F')) ((evC x).run F')
    rw [h1, h2]
    rfl
  case unOp op t x =>
    have h1 := one (x := x) (by simp)
    simp only [opUnOp, evl, h1]
  case convert s d x =>
    have h1 := one (x := x) (by simp)
    simp only [opConvert, evl, h1]
  case sliceToArrayPointer t x =>
    have h1 := one (x := x) (by simp)
    simp only [opSliceToArrayPointer, evl, h1]
  case makeFunc fn first cap =>
    have h1 := many (l := first.toList) (by simp; intro x hx; exact .inl hx); have h2 := many (l := cap.toList) (by simp; intro x hx; exact .inr hx)
    simp only [opMakeFunc, evls, h1, h2]
  case makeMap t r => cases r <;> rfl
  case makeSlice t x y =>
    have h1 := one (x := x) (by simp); have h2 := one (x := y) (by simp)
    simp only [opMakeSlice, evl, h1, h2]
  case slice t x lo hi mx =>
    have h1 := one (x := x) (by simp)
    have h2 : ∀ l, lo = some l → (evC l).run F = (evC l).run F' := fun l hl => one (by simp [hl])
    have h3 : ∀ l, hi = some l → (evC l).run F = (evC l).run F' := fun l hl => one (by simp [hl])
    have h4 : ∀ l, mx = some l → (evC l).run F = (evC l).run F' := fun l hl => one (by simp [hl])
    cases mx with
    | none =>
      simp only [opSlice, evl, h1]
      cases lo <;> cases hi <;> first | rfl | simp only [h2 _ rfl, h3 _ rfl] | simp only [h2 _ rfl] | simp only [h3 _ rfl]
    | some m =>
      simp only [opSlice3, evl, h1, h4 _ rfl]
      cases lo <;> cases hi <;> first | rfl | simp only [h2 _ rfl, h3 _ rfl] | simp only [h2 _ rfl] | simp only [h3 _ rfl]
  case fieldAddr t x f =>
    have h1 := ptrC_alike (one (x := x) (by simp))
    unfold opFieldAddr
    split
    · split
      · rename_i fd _ n _ _
        show (Option.rec none (fun a => some (Out.val (shiftA fd.offset a) A)) ((ptrC x).run F) : Option Out) = Option.rec none (fun a => some (Out.val (shiftA fd.offset a) A)) ((ptrC x).run F')
        rw [h1]
      · rfl
    · rfl
  case field t x f =>
    have h1 := one (x := x) (by simp)
    simp only [opField, evl, h1]
  case indexAddr t x ix =>
    have h1 := one (x := x) (by simp); have h2 := one (x := ix) (by simp)
    have h3 := ptrC_alike h1
    unfold opIndexAddr
    split
    · split
      · rename_i n e hu _ sz hsz
        show (Option.rec none (fun i => Bool.rec none (Option.rec none (fun b => some (Out.val (shiftA (Nat.mul i sz) b) A)) ((ptrC x).run F)) (Nat.ble (Nat.succ i) n)) (Option.rec none natOf ((evC ix).run F)) : Option Out) =
          Option.rec none (fun i => Bool.rec none (Option.rec none (fun b => some (Out.val (shiftA (Nat.mul i sz) b) A)) ((ptrC x).run F')) (Nat.ble (Nat.succ i) n)) (Option.rec none natOf ((evC ix).run F'))
        rw [h2, h3]
      · rfl
    · split
      · rename_i e hu _ sz hsz
        show (Option.rec none (fun i => Option.rec none (fun p => Prod.rec (fun b q => Prod.rec (fun n _ => Bool.rec none (some (Out.val (shiftA (Nat.mul i sz) b) A)) (Nat.ble (Nat.succ i) n)) q) p) (Option.rec none slcOf ((evC x).run F))) (Option.rec none natOf ((evC ix).run F)) : Option Out) =
          Option.rec none (fun i => Option.rec none (fun p => Prod.rec (fun b q => Prod.rec (fun n _ => Bool.rec none (some (Out.val (shiftA (Nat.mul i sz) b) A)) (Nat.ble (Nat.succ i) n)) q) p) (Option.rec none slcOf ((evC x).run F'))) (Option.rec none natOf ((evC ix).run F'))
        rw [h1, h2]
      · rfl
    · rfl
  case index t x ix =>
    have h1 := one (x := x) (by simp); have h2 := one (x := ix) (by simp)
    simp only [opIndex, evl, h1, h2]
  case lookup t x ix ok =>
    have h1 := one (x := x) (by simp); have h2 := one (x := ix) (by simp)
    simp only [opLookup, evl, h1, h2]
  case mapUpdate t m k x =>
    have h1 := one (x := m) (by simp); have h2 := one (x := k) (by simp); have h3 := one (x := x) (by simp)
    simp only [opMapUpdate, evl, h1, h2, h3]
  case range t x =>
    have h1 := one (x := x) (by simp)
    simp only [opRange, evl, h1]
  case next x s =>
    have h1 := one (x := x) (by simp)
    cases s
    · simp only [opNext, evl, h1]
    · rfl
  case extract x ix =>
    have h1 := one (x := x) (by simp)
    simp only [opExtract, evl, h1]
  case call c =>
    have h1 := many (l := c.args.toList) (by simp; intro x hx; exact .inr hx)
    simp only [opCall, evls, h1]
    cases hc : c.callee with
    | value f =>
      have h2 := one (x := f) (by simp [hc])
      simp only [evl, h2]
    | invoke _ _ => rfl
    | builtin b => rfl
/-- A guard that is not looked at. -/
theorem wantA_put {ops : Array Oper} {o : Oper} {d : Option Tmp} {v : Value} {F F1 : FT} (h : (putC d).run v F = some F1) (hd : ∀ t, d = some t → t ∉ o.looksAt ops) : wantA ops F1 o = wantA ops F o := by
  unfold wantA
  split
  · rfl
  · rename_i j w hg
    have : yieldA ops F1 j = yieldA ops F j := by
      unfold yieldA
      rw [nth_eq]
      split
      · rename_i oj hoj
        split
        · rename_i e he
          refine evC_put (x := .tmp e) h fun t ht q => ?_
          cases q
          refine hd _ ht ?_
          have hoj' : ops[j]? = some oj := by simpa using hoj
          simp [Oper.looksAt, hg, hoj', he]
        · rfl
      · rfl
    rw [this]
theorem alike_put {ops : Array Oper} {o : Oper} {d : Option Tmp} {v : Value} {F F1 : FT} (h : (putC d).run v F = some F1) (hd : ∀ t, d = some t → t ∉ o.looksAt ops) : Alike o.op.operands.toList F1 F := by
  intro x hx
  refine evC_put h fun t ht q => ?_
  subst q
  refine hd _ ht ?_
  simp only [Oper.looksAt, List.mem_append, List.mem_filterMap]
  exact .inl ⟨.tmp t, hx, rfl⟩
end

/-! ### Steps of a plan -/
def PStep.idx : PStep → Nat
  | .quiet i _ _ => i
  | .float i _ _ _ => i
  | .eff i _ _ _ => i
def PStep.oper : PStep → Oper
  | .quiet _ o _ => o
  | .float _ o _ _ => o
  | .eff _ o _ _ => o
/-- What has been put. -/
noncomputable def after (d : Option Tmp) (v : Value) (F : FT) (A : AH) : Option (FT × AH) := match (putC d).run v F with
  | some F1 => some (F1, A)
  | none => none
noncomputable def outS (C : Con) (d : Option Tmp) (F : FT) : Out → Option (FT × AH)
  | .val v A => after d v F A
  | .skip A => after d undef F A
  | .call f args A => match C f args A with
    | some (v, A) => after d v F A
    | none => none
/-- One step, wherever it comes up. -/
noncomputable def astep (P : Program) (ops : Array Oper) (C : Con) (r : Nat) (p : PStep) (F : FT) (A : AH) : Option (FT × AH) := match p with
  | .quiet _ o _ => match wantA ops F o with
    | some true => match (operC P o).run F A with
      | some (.val v A') => after o.dst v F A'
      | _ => none
    | some false => after o.dst undef F A
    | none => none
  | .float _ o k v => after o.dst (v (r + k)) F A
  | .eff _ o _ mats => match wantA ops F o with
    | some true => match (operC P o).run F (matsA r mats A) with
      | some out => outS C o.dst F out
      | none => none
    | some false => after o.dst undef F (matsA r mats A)
    | none => none
theorem after_comm {d e : Option Tmp} {v u : Value} {F F1 F2 : FT} {A A2 : AH} (hne : ∀ x, d = some x → e ≠ some x) (h : (putC d).run v F = some F1) (h2 : after e u F1 A = some (F2, A2)) :
    ∃ F3, after e u F A = some (F3, A2) ∧ (putC d).run v F3 = some F2 := by
  unfold after at h2 ⊢
  split at h2
  · rename_i G hG
    cases h2
    obtain ⟨F3, h3, h4⟩ := putC_comm hne h hG
    exact ⟨F3, by rw [h3], h4⟩
  · cases h2
theorem outS_comm {C : Con} {d e : Option Tmp} {v : Value} {F F1 F2 : FT} {A2 : AH} (hne : ∀ x, d = some x → e ≠ some x) (h : (putC d).run v F = some F1) {out : Out} (h2 : outS C e F1 out = some (F2, A2)) :
    ∃ F3, outS C e F out = some (F3, A2) ∧ (putC d).run v F3 = some F2 := by
  cases out with
  | val u A => exact after_comm hne h h2
  | skip A => exact after_comm hne h h2
  | call f args A =>
    simp only [outS] at h2 ⊢
    cases hc : C f args A with
    | none => rw [hc] at h2; cases h2
    | some q =>
      obtain ⟨u, A3⟩ := q
      rw [hc] at h2
      exact after_comm hne h h2
section
variable {P : Program} {ops : Array Oper} {C : Con} {r : Nat}
/-- A step that is apart from what was put comes to the same without it. -/
theorem astep_comm {p : PStep} {d : Option Tmp} {v : Value} {F F1 F2 : FT} {A A2 : AH} (h : (putC d).run v F = some F1) (h1 : ∀ t, d = some t → t ∉ p.oper.looksAt ops) (h3 : ∀ t, d = some t → p.oper.dst ≠ some t)
    (h2 : astep P ops C r p F1 A = some (F2, A2)) : ∃ F3, astep P ops C r p F A = some (F3, A2) ∧ (putC d).run v F3 = some F2 := by
  cases p with
  | quiet i o b =>
    have hw := wantA_put (o := o) h h1
    have ho := operC_alike (P := P) (alike_put (o := o) h h1)
    simp only [astep] at h2 ⊢
    rw [hw] at h2
    split at h2
    · rw [ho A] at h2
      split at h2
      · exact after_comm h3 h h2
      · cases h2
    · exact after_comm h3 h h2
    · cases h2
  | float i o k u => exact after_comm h3 h h2
  | eff i o need mats =>
    have hw := wantA_put (o := o) h h1
    have ho := operC_alike (P := P) (alike_put (o := o) h h1)
    simp only [astep] at h2 ⊢
    rw [hw] at h2
    split at h2
    · rw [ho] at h2
      split at h2
      · exact outS_comm h3 h h2
      · cases h2
    · exact after_comm h3 h h2
    · cases h2

/-! ### Whatever the order -/
variable (P ops C r) in
/-- Every order comes to what Q says, and S holds behind every step. -/
def AllA (st : Nat → Option PStep) (S : Array Bool → AH → Prop) (Q : Array Bool → FT → AH → Prop) : Nat → Array Bool → FT → AH → Prop
  | 0, L, F, A => Region.ready .any ops L = [] ∧ Q L F A
  | n + 1, L, F, A => (Region.ready .any ops L = [] → Q L F A) ∧
    ∀ i ∈ Region.ready .any ops L, ∃ p F' A', st i = some p ∧ astep P ops C r p F A = some (F', A') ∧ S (L.setIfInBounds i true) A' ∧ AllA st S Q n (L.setIfInBounds i true) F' A'
theorem AllA.mono {st : Nat → Option PStep} {S S' : Array Bool → AH → Prop} {Q : Array Bool → FT → AH → Prop} (h : ∀ L A, S L A → S' L A) : ∀ {n : Nat} {L : Array Bool} {F : FT} {A : AH}, AllA P ops C r st S Q n L F A → AllA P ops C r st S' Q n L F A
  | 0, _, _, _, h2 => h2
  | n + 1, L, F, A, h2 => ⟨h2.1, fun i hi => by
    obtain ⟨p, F', A', e1, e2, e3, e4⟩ := h2.2 i hi
    exact ⟨p, F', A', e1, e2, h _ _ e3, AllA.mono h e4⟩⟩
/-- What is listed has all that it waits for listed. -/
def Closed (ops : Array Oper) (L : Array Bool) : Prop := ∀ (j : Nat) (o : Oper), L.getD j false = true → ops[j]? = some o → ∀ e ∈ o.after, Region.binds .any e = true → L.getD e.on false = true
theorem after_put {d : Option Tmp} {v : Value} {F F1 : FT} {A A1 : AH} (h : after d v F A = some (F1, A1)) : (putC d).run v F = some F1 ∧ A1 = A := by
  unfold after at h
  split at h
  · rename_i G hG; cases h; exact ⟨hG, rfl⟩
  · cases h
theorem astep_put {p : PStep} {F F1 : FT} {A A1 : AH} (h : astep P ops C r p F A = some (F1, A1)) : ∃ u, (putC p.oper.dst).run u F = some F1 := by
  cases p with
  | quiet i o b =>
    simp only [astep] at h
    split at h
    · split at h
      · exact ⟨_, (after_put h).1⟩
      · cases h
    · exact ⟨_, (after_put h).1⟩
    · cases h
  | float i o k u => exact ⟨_, (after_put h).1⟩
  | eff i o need mats =>
    simp only [astep] at h
    split at h
    · split at h
      · rename_i out _
        cases out with
        | val v A2 => exact ⟨_, (after_put h).1⟩
        | skip A2 => exact ⟨_, (after_put h).1⟩
        | call f args A2 =>
          simp only [outS] at h
          split at h
          · exact ⟨_, (after_put h).1⟩
          · cases h
      · cases h
    · exact ⟨_, (after_put h).1⟩
    · cases h
theorem Closed.set {L : Array Bool} (h : Closed ops L) {j : Nat} (hj : j ∈ Region.ready .any ops L) : Closed ops (L.setIfInBounds j true) := by
  intro k o hk ho e he hb
  obtain ⟨_, oj, hoj, hall⟩ := mem_ready.1 hj
  by_cases hkj : j = k
  · subst hkj
    rw [ho] at hoj; cases hoj
    exact getD_set_true (hall e he hb)
  · rw [getD_set_ne false hkj] at hk
    exact getD_set_true (h k o hk ho e he hb)
theorem getD_both {L : Array Bool} {i : Nat} (h : L.getD i true = false) : L.getD i false = false := by
  rcases Nat.lt_or_ge i L.size with h1 | h1
  · simp [h1] at h ⊢; exact h
  · simp [Array.getElem?_eq_none h1] at h
/-- What neither changes the heap nor is changed may come up first. -/
theorem AllA_first {st : Nat → Option PStep} {S : Array Bool → AH → Prop} {Q : Array Bool → FT → AH → Prop} {i : Nat} {p : PStep} (hst : ∀ j q, st j = some q → ops[j]? = some q.oper) (hp : st i = some p) {v : Value}
    {Y : FT → AH → Prop} (hY : ∀ F A, Y F A → astep P ops C r p F A = after p.oper.dst v F A)
    (hY2 : ∀ F A F' A' (d : Option Tmp) u L, (∀ t, d = some t → t ∉ p.oper.looksAt ops) → Y F A → (putC d).run u F = some F' → Closed ops L → L.getD i true = false → S (L.setIfInBounds i true) A' → Y F' A')
    (hS2 : ∀ (L : Array Bool) (j : Nat) (A' : AH), S ((L.setIfInBounds i true).setIfInBounds j true) A' → S (L.setIfInBounds j true) A') :
    ∀ (n : Nat) (L : Array Bool) (F : FT) (A : AH),
      (∀ j oj, ops[j]? = some oj → j ≠ i → L.getD j true = false → (∀ e ∈ oj.after, Region.binds .any e = true → e.on ≠ i) → p.oper.apart ops oj = true) →
      Closed ops L → i ∈ Region.ready .any ops L → Y F A → S (L.setIfInBounds i true) A →
      (∃ F1, (putC p.oper.dst).run v F = some F1 ∧ AllA P ops C r st S Q n (L.setIfInBounds i true) F1 A) → AllA P ops C r st S Q (n + 1) L F A := by
  intro n
  induction n with
  | zero =>
    intro L F A hfree hcl hr hy hs ⟨F1, hF1, H⟩
    refine ⟨fun h => (by rw [h] at hr; cases hr), fun j hj => ?_⟩
    by_cases hji : j = i
    · subst hji
      refine ⟨p, F1, A, hp, ?_, hs, H⟩
      rw [hY _ _ hy]; unfold after; rw [hF1]
    · have := ready_mono hj hji
      rw [H.1] at this; cases this
  | succ n ih =>
    intro L F A hfree hcl hr hy hs ⟨F1, hF1, H⟩
    refine ⟨fun h => (by rw [h] at hr; cases hr), fun j hj => ?_⟩
    by_cases hji : j = i
    · subst hji
      refine ⟨p, F1, A, hp, ?_, hs, H⟩
      rw [hY _ _ hy]; unfold after; rw [hF1]
    · obtain ⟨q, F2, A2, hq, hstep, hs2, hrest⟩ := H.2 j (ready_mono hj hji)
      obtain ⟨hjun, oj, hoj, hall⟩ := mem_ready.1 hj
      have hi0 := (mem_ready.1 hr).1
      have hnot : ∀ e ∈ oj.after, Region.binds .any e = true → e.on ≠ i := fun e he hb heq => by
        have h1 := hall e he hb
        rw [heq, getD_both hi0] at h1
        cases h1
      have hqo : q.oper = oj := by
        have := hst j q hq
        rw [hoj] at this; exact (Option.some.inj this).symm
      obtain ⟨a1, a2, a3⟩ := Oper.apart_spec (hfree j oj hoj hji hjun hnot)
      subst hqo
      obtain ⟨F3, e1, e2⟩ := astep_comm hF1 a1 (fun t ht => a2 t ht) hstep
      obtain ⟨u, hu⟩ := astep_put e1
      have hcomm : (L.setIfInBounds i true).setIfInBounds j true = (L.setIfInBounds j true).setIfInBounds i true := Array.setIfInBounds_comm _ _ (Ne.symm hji)
      have hcl' := hcl.set hj
      have hi1 : (L.setIfInBounds j true).getD i true = false := by rw [getD_set_ne true hji]; exact hi0
      have hs3 : S ((L.setIfInBounds j true).setIfInBounds i true) A2 := by rw [← hcomm]; exact hs2
      refine ⟨q, F3, A2, hq, e1, hS2 L j A2 hs2, ih _ F3 A2 ?_ hcl' (ready_mono hr (Ne.symm hji)) (hY2 F A F3 A2 q.oper.dst u _ (fun t ht => a3 t ht) hy hu hcl' hi1 hs3) hs3 ⟨F2, e2, by rw [← hcomm]; exact hrest⟩⟩
      intro k ok hk hki hun hno
      refine hfree k ok hk hki ?_ hno
      by_cases hjk : j = k
      · subst hjk; exact hjun
      · rw [getD_set_ne true hjk] at hun; exact hun
end
end Go.Proofs.YtohnakjamlhhkaaGreatDoor
