/- Frames; operations, one by one: first those that leave the heap as it is. -/
import Derived.Test.YtohnakjamlhhkaaGreatDoorSo4
import Derived.Laws.BitsLemmas
namespace Go.Proofs.YtohnakjamlhhkaaGreatDoor
open Go
set_option linter.unusedVariables false
set_option linter.unusedSimpArgs false

def FRel (E : Em) (F : FT) (tmps : Array Value) : Prop := ∀ n v, (getC 12 n).run F = some v → ∃ v', tmps[n]? = some v' ∧ VRel E v v'
theorem FRel.mono {E E' : Em} {F : FT} {t : Array Value} (h : FRel E F t) (hle : E.le E') : FRel E' F t := fun n v hv => by
  obtain ⟨v', h1, h2⟩ := h n v hv
  exact ⟨v', h1, h2.mono hle⟩
theorem undef_rel {E : Em} : VRel E undef undef := .tuple _ _ .nil
/-- A value is put. -/
theorem FRel.put {E : Em} {F F' : FT} {a : Act} {d : Option Tmp} {v v' : Value} (h : FRel E F a.tmps) (hv : VRel E v v') (hp : (putC d).run v F = some F') : FRel E F' (a.put d v').tmps := by
  cases d with
  | none =>
    have : F' = F := by cases hp; rfl
    subst this; exact h
  | some d =>
    have hp' : (setC 12 d).run v F = some F' := hp
    intro n u hu
    obtain ⟨u0, hu0⟩ := setC_get 12 d v F F' hp'
    obtain ⟨x, hx, _⟩ := h d u0 hu0
    have hlt : d < a.tmps.size := (Array.getElem?_eq_some_iff.1 hx).1
    rcases getC_setC 12 d v F F' hp' n u hu with ⟨rfl, rfl⟩ | ⟨hne, hg⟩
    · exact ⟨v', by simp [Act.put, hlt], hv⟩
    · obtain ⟨y, hy, hr⟩ := h n u hg
      exact ⟨y, by simp only [Act.put]; rw [Array.getElem?_setIfInBounds_ne (Ne.symm hne)]; exact hy, hr⟩
theorem evC_rel {E : Em} {F : FT} {a : Act} (h : FRel E F a.tmps) {x : Operand} {v : Value} (hx : (evC x).run F = some v) : VRel E v (a.eval x) := by
  cases x with
  | tmp t =>
    obtain ⟨v', h1, h2⟩ := h t v hx
    have : a.eval (.tmp t) = v' := by
      simp only [Act.eval, Array.getD_eq_getD_getElem?, h1, Option.getD_some]
    rw [this]; exact h2
  | const c =>
    simp only [evC] at hx
    split at hx
    · rename_i hf; cases hx; exact flat_refl hf
    · cases hx
  | global g => cases hx
  | func f => cases hx; exact .func _ _ _ _ _ .nil .nil
theorem evsC_rel {E : Em} {F : FT} {a : Act} (h : FRel E F a.tmps) : ∀ {l : List Operand} {vs : List Value}, (evsC l).run F = some vs → VRels E vs (l.map a.eval)
  | [], vs, hx => by
    have : vs = [] := by cases hx; rfl
    subst this; exact .nil
  | x :: l, vs, hx => by
    have hx' : Option.rec none (fun v => Option.rec none (fun vs => some (v :: vs)) ((evsC l).run F)) ((evC x).run F) = some vs := hx
    cases h1 : (evC x).run F with
    | none => rw [h1] at hx'; cases hx'
    | some v =>
      rw [h1] at hx'
      cases h2 : (evsC l).run F with
      | none => simp only [h2] at hx'; cases hx'
      | some vs' =>
        simp only [h2] at hx'
        have : vs = v :: vs' := by cases hx'; rfl
        subst this
        exact .cons _ _ _ _ (evC_rel h h1) (evsC_rel h h2)
theorem VRels.of_all {E : Em} {P : Value → Bool} (hP : ∀ v, P v = true → VRel E v v) : ∀ {l : List Value}, l.all P = true → VRels E l l
  | [], _ => .nil
  | v :: l, h => by
    simp only [List.all_cons, Bool.and_eq_true] at h
    exact .cons _ _ _ _ (hP v h.1) (VRels.of_all hP h.2)

/-! ### What an operation's run says -/
def OutOK (P : Program) (E : Em) (A : AH) (w : World) (s : Result Next) : Out → Prop
  | .val v A' => ∃ E' v' w', Stp E A w E' A' w' ∧ VRel E' v v' ∧ s = .ok (.value v') w'
  | .skip A' => ∃ E' w', Stp E A w E' A' w' ∧ s = .ok .skip w'
  | .call f args A' => A' = A ∧ ∃ args', VRels E args args' ∧ s = (callFunc f args'.toArray).run P w
section
variable {P : Program} {E : Em} {F : FT} {A : AH} {a : Act} {w : World} {out : Out}
theorem OutOK.same (hR : Rel E A w) {v v' : Value} {s : Result Next} (hv : VRel E v v') (hs : s = .ok (.value v') w) : OutOK P E A w s (.val v A) :=
  ⟨E, v', w, .refl hR, hv, hs⟩
/-- A computation that asks no world. -/
theorem run_value {s : Sem Value} {v : Value} {w' : World} (h : s.run P w = .ok v w') : (do pure (Next.value (← s)) : Sem Next).run P w = .ok (.value v) w' := by
  simp [h]
theorem peval_value {s : Sem Value} {v : Value} (h : peval P s = some v) : (do pure (Next.value (← s)) : Sem Next).run P w = .ok (.value v) w :=
  run_value (peval_run s v h w)
theorem eval_some {x : Operand} {v : Value} (h : AFr.eval F x = some v) : (evC x).run F = some v := h

theorem ok_move (hR : Rel E A w) (hF : FRel E F a.tmps) {x : Operand} (h : (opMove x).run F A = some out) : OutOK P E A w (.ok (.value (a.eval x)) w) out := by
  have h' : Option.rec none (fun v => some (Out.val v A)) ((evC x).run F) = some out := h
  cases h1 : (evC x).run F with
  | none => rw [h1] at h'; cases h'
  | some v =>
    rw [h1] at h'
    cases h'
    exact .same hR (evC_rel hF h1) rfl
theorem bool_inv {E : Em} {b : Bool} {v' : Value} (h : VRel E (.bool b) v') : v' = .bool b := by cases h; rfl
theorem int_inv {E : Em} {k : IntKind} {n : Int} {v' : Value} (h : VRel E (.int k n) v') : v' = .int k n := by cases h; rfl
theorem str_inv {E : Em} {s : ByteArray} {v' : Value} (h : VRel E (.string s) v') : v' = .string s := by cases h; rfl
theorem ok_pick (hR : Rel E A w) (hF : FRel E F a.tmps) {c x y : Operand} (h : opPick F A c x y = some out) :
    OutOK P E A w ((do pure (Next.value (if ← asBool (a.eval c) then a.eval x else a.eval y)) : Sem Next).run P w) out := by
  unfold opPick at h
  split at h
  · rename_i t hc
    rw [bool_inv (evC_rel hF (eval_some hc))]
    split at h
    · rename_i v hv
      cases h
      refine .same hR (v' := if t then a.eval x else a.eval y) ?_ (by simp [asBool])
      cases t
      · exact evC_rel hF (eval_some hv)
      · exact evC_rel hF (eval_some hv)
    · cases h
  · cases h
theorem ok_nilCheck (hR : Rel E A w) (hF : FRel E F a.tmps) {x : Operand} {o : Oper} (ho : o.op = .nilCheck x) (h : opNilCheck F A x = some out) :
    OutOK P E A w ((execOp a.eval o).run P w) out := by
  unfold opNilCheck at h
  split at h
  · rename_i b hx
    cases h
    have hv := evC_rel hF (eval_some hx)
    obtain ⟨B, s, _, _, e⟩ := hv.ptr_inv
    refine .same hR hv ?_
    simp only [execOp, ho, e]; rfl
  · rename_i f fs cs hx
    cases h
    have hv := evC_rel hF (eval_some hx)
    refine .same hR hv ?_
    generalize hq : a.eval x = q at hv
    cases hv
    simp only [execOp, ho, hq]; rfl
  · cases h
theorem flatR_inv {r : Option Value} (h : flatR A r = some out) : ∃ v, r = some v ∧ flat v = true ∧ out = .val v A := by
  unfold flatR at h
  split at h
  · split at h
    · rename_i v hf; cases h; exact ⟨_, rfl, hf, rfl⟩
    · cases h
  · cases h
theorem ok_unOp (hR : Rel E A w) (hF : FRel E F a.tmps) {x : Operand} {op : UnOp} (h : opUnOp P F A op x = some out) :
    OutOK P E A w ((do pure (Next.value (← Op.unary op (a.eval x))) : Sem Next).run P w) out := by
  unfold opUnOp at h
  split at h
  · rename_i v hx
    split at h
    · rename_i hf
      obtain ⟨r, hr, hfr, rfl⟩ := flatR_inv h
      rw [flat_eq hf (evC_rel hF (eval_some hx))]
      exact .same hR (flat_refl hfr) (peval_value hr)
    · cases h
  · cases h

/-! ### Addresses -/
theorem ptrC_rel (hF : FRel E F a.tmps) {x : Operand} {b : Addr} (h : (ptrC x).run F = some b) : ∃ B s, b.spot = none ∧ E.blk b.block = some (B, s) ∧ a.eval x = .pointer (some ⟨B, b.off + s, none⟩) := by
  have h' : Option.rec none ptrOf ((evC x).run F) = some b := h
  cases h1 : (evC x).run F with
  | none => rw [h1] at h'; cases h'
  | some v =>
    rw [h1] at h'
    have h2 : ptrOf v = some b := h'
    cases v <;> first | (cases h2; done) | skip
    rename_i q
    have : q = some b := h2
    subst this
    exact (evC_rel hF h1).ptr_inv
theorem shiftA_eq (n : Nat) (b : Addr) : shiftA n b = .pointer (some ⟨b.block, b.off + n, none⟩) := by
  cases b with | mk b o sp => exact force_eq (fun o => Value.pointer (some ⟨b, o, none⟩)) (o + n)
theorem addr_add (B o n : Nat) : (⟨B, o, none⟩ : Addr).add n = ⟨B, o + n, none⟩ := by unfold Addr.add; split <;> simp_all
theorem shift_rel {b : Addr} {B s : Nat} (hb : E.blk b.block = some (B, s)) (n : Nat) : VRel E (shiftA n b) (.pointer (some ((⟨B, b.off + s, none⟩ : Addr).add n))) := by
  rw [shiftA_eq, addr_add, show b.off + s + n = b.off + n + s by omega]
  exact .ptr _ _ _ _ hb
theorem run_und {t : TypeId} {d : TypeDesc} (h : P.underlying t = some d) : (underlying t).run P w = .ok d w := by
  simp [underlying, h]
theorem sizeT_inv {t : TypeId} {n : Nat} (h : sizeT P t = some n) : ∃ i, P.info? t = some i ∧ i.size = n := by
  unfold sizeT at h
  split at h
  · rename_i i hi; cases h; exact ⟨i, hi, rfl⟩
  · cases h
theorem run_size {t : TypeId} {n : Nat} (h : sizeT P t = some n) : (sizeOf t).run P w = .ok n w := by
  obtain ⟨i, hi, rfl⟩ := sizeT_inv h
  simp [sizeOf, typeInfo, hi]
theorem zeroT_inv {t : TypeId} {z : Value} (h : zeroT P t = some z) : ∃ i, P.info? t = some i ∧ i.zero = some z := by
  unfold zeroT at h
  split at h
  · rename_i i hi; exact ⟨i, hi, h⟩
  · cases h
theorem run_zero {t : TypeId} {z : Value} (h : zeroT P t = some z) : (zeroValue t).run P w = .ok z w := by
  obtain ⟨i, hi, hz⟩ := zeroT_inv h
  simp [zeroValue, typeInfo, hi, hz]
theorem run_isAgg {t : TypeId} {b : Bool} (h : isAggT P t = some b) : (isAgg t).run P w = .ok b w := by
  unfold isAggT at h
  split at h
  · rename_i hu; cases h; simp [isAgg, run_und hu]
  · rename_i hu; cases h; simp [isAgg, run_und hu]
  · rename_i d hn1 hn2 hu
    cases h
    simp only [isAgg, Sem.run_bind, run_und hu, Result.andThen_ok]
    cases d <;> first | rfl | exact (hn1 _ rfl).elim | exact (hn2 _ _ rfl).elim
  · cases h
theorem ok_fieldAddr (hR : Rel E A w) (hF : FRel E F a.tmps) {s : TypeId} {x : Operand} {f : Nat} (h : (opFieldAddr P s x f).run F A = some out) :
    OutOK P E A w ((do pure (Next.value (← Instr.fieldAt s (a.eval x) f)) : Sem Next).run P w) out := by
  unfold opFieldAddr at h
  split at h
  · rename_i fd hfd
    split at h
    · rename_i n hn
      have h' : Option.rec none (fun b => some (Out.val (shiftA fd.offset b) A)) ((ptrC x).run F) = some out := h
      cases h1 : (ptrC x).run F with
      | none => rw [h1] at h'; cases h'
      | some b =>
        rw [h1] at h'
        cases h'
        obtain ⟨B, sh, _, hb, e⟩ := ptrC_rel hF h1
        refine .same hR (shift_rel hb fd.offset) (run_value ?_)
        unfold fieldT at hfd
        split at hfd
        · rename_i fs hu
          rw [nth_eq] at hfd
          have hfd' : fs[f]? = some fd := by simpa using hfd
          simp [Instr.fieldAt, run_und hu, hfd', Instr.sureAddr, e, fieldPlace, run_size hn]
        · cases hfd
    · cases h
  · cases h
theorem natOf_inv {v : Value} {n : Nat} (h : natOf v = some n) : ∃ k, v = .int k (.ofNat n) := by
  cases v <;> first | (cases h; done) | skip
  rename_i k i
  cases i with
  | ofNat m => cases h; exact ⟨k, rfl⟩
  | negSucc m => cases h
theorem natOf_rel (hF : FRel E F a.tmps) {x : Operand} {n : Nat} (h : Option.rec none natOf ((evC x).run F) = some n) : ∃ k, a.eval x = .int k (.ofNat n) := by
  cases h1 : (evC x).run F with
  | none => rw [h1] at h; cases h
  | some v =>
    rw [h1] at h
    obtain ⟨k, rfl⟩ := natOf_inv h
    exact ⟨k, int_inv (evC_rel hF h1)⟩
theorem slcOf_inv {v : Value} {b : Addr} {n c : Nat} (h : slcOf v = some (b, n, c)) : v = .slice (some b) n c := by
  cases v <;> first | (cases h; done) | skip
  rename_i q n' c'
  cases q with
  | none => cases h
  | some q => cases h; rfl
theorem ok_indexAddr (hR : Rel E A w) (hF : FRel E F a.tmps) {t : TypeId} {x ix : Operand} (h : (opIndexAddr P t x ix).run F A = some out) :
    OutOK P E A w ((do pure (Next.value (← Instr.indexAt t (a.eval x) (a.eval ix))) : Sem Next).run P w) out := by
  unfold opIndexAddr at h
  split at h
  · rename_i n e hu
    split at h
    · rename_i sz hsz
      have h' : Option.rec none (fun i => Bool.rec none (Option.rec none (fun b => some (Out.val (shiftA (Nat.mul i sz) b) A)) ((ptrC x).run F)) (Nat.ble (Nat.succ i) n)) (Option.rec none natOf ((evC ix).run F)) = some out := h
      cases h1 : (Option.rec none natOf ((evC ix).run F) : Option Nat) with
      | none => rw [h1] at h'; cases h'
      | some i =>
        rw [h1] at h'
        simp only at h'
        cases h2 : Nat.ble (Nat.succ i) n with
        | false => rw [h2] at h'; cases h'
        | true =>
          rw [h2] at h'
          cases h3 : (ptrC x).run F with
          | none => simp only [h3] at h'; cases h'
          | some b =>
            simp only [h3] at h'
            cases h'
            obtain ⟨k, hk⟩ := natOf_rel hF h1
            obtain ⟨B, sh, _, hb, e'⟩ := ptrC_rel hF h3
            have hlt : i < n := Nat.le_of_ble_eq_true h2
            refine .same hR (shift_rel hb _) (run_value ?_)
            have hlt' : (0 : Int) ≤ Int.ofNat i ∧ Int.ofNat i < (n : Int) := ⟨Int.natCast_nonneg i, by simpa using hlt⟩
            simp only [Instr.indexAt, hk, asIntOf, Sem.run_bind, Sem.run_pure, Result.andThen_ok, run_und hu, e', Instr.sureAddr, if_pos hlt', run_size hsz]
            rfl
    · cases h
  · rename_i e hu
    split at h
    · rename_i sz hsz
      have h' : Option.rec none (fun i => Option.rec none (fun p => Prod.rec (fun b q => Prod.rec (fun n _ => Bool.rec none (some (Out.val (shiftA (Nat.mul i sz) b) A)) (Nat.ble (Nat.succ i) n)) q) p) (Option.rec none slcOf ((evC x).run F))) (Option.rec none natOf ((evC ix).run F)) = some out := h
      cases h1 : (Option.rec none natOf ((evC ix).run F) : Option Nat) with
      | none => rw [h1] at h'; cases h'
      | some i =>
        rw [h1] at h'
        simp only at h'
        cases h3 : (evC x).run F with
        | none => simp only [h3] at h'; cases h'
        | some v =>
          simp only [h3] at h'
          cases h4 : slcOf v with
          | none => simp only [h4] at h'; cases h'
          | some p =>
            obtain ⟨b, n, c⟩ := p
            simp only [h4] at h'
            cases h2 : Nat.ble (Nat.succ i) n with
            | false => simp only [h2] at h'; cases h'
            | true =>
              simp only [h2] at h'
              cases h'
              obtain ⟨k, hk⟩ := natOf_rel hF h1
              have hv := evC_rel hF h3
              rw [slcOf_inv h4] at hv
              have hlt : i < n := Nat.le_of_ble_eq_true h2
              generalize hq : a.eval x = q at hv
              cases hv with
              | slc0 => omega
              | slc b o n c c' B s sz' hb hn hc hr =>
                refine .same hR (shift_rel (b := ⟨b, o, some sz'⟩) hb _) (run_value ?_)
                have hlt' : (0 : Int) ≤ Int.ofNat i ∧ Int.ofNat i < (n : Int) := ⟨Int.natCast_nonneg i, by simpa using hlt⟩
                simp only [Instr.indexAt, hk, asIntOf, Sem.run_bind, Sem.run_pure, Result.andThen_ok, run_und hu, hq, if_pos hlt', run_size hsz]
                rfl
    · cases h
  · cases h

/-! ### Parts -/
theorem VRels.sub {l l' : List Value} (h : VRels E l l') {o n : Nat} {r : List Value} (hr : slice_ l o n = some r) : VRels E r ((l'.drop o).take n) := by
  obtain ⟨hl, hi⟩ := slice_eq hr
  clear hr
  induction r generalizing o n with
  | nil =>
    have : n = 0 := by simpa using hl.symm
    subst this; simp; exact .nil
  | cons x r ih =>
    obtain ⟨x', h1, h2⟩ := h.get (hi 0 x rfl)
    have h1' : l'[o]? = some x' := by simpa using h1
    have hn : n = n - 1 + 1 := by simp at hl; omega
    have hlt : o < l'.length := (List.getElem?_eq_some_iff.1 h1').1
    have hd : l'.drop o = x' :: l'.drop (o + 1) := by
      rw [List.drop_eq_getElem_cons hlt]
      congr 1
      exact (List.getElem?_eq_some_iff.1 h1').2
    rw [hd, hn, List.take_succ_cons]
    refine .cons _ _ _ _ h2 (ih (by simp at hl; omega) (fun i v hv => ?_))
    have := hi (i + 1) v (by simpa using hv)
    rwa [show o + (i + 1) = o + 1 + i by omega] at this
theorem partA_rel {t : TypeId} {cs : List Value} {cs' : Array Value} (h : VRels E cs cs'.toList) {off : Nat} {v : Value} (hp : partA P t cs off = some v) :
    ∃ v', (part t cs' off).run P w = .ok v' w ∧ VRel E v v' := by
  unfold partA at hp
  split at hp
  · rename_i ha
    split at hp
    · rename_i n hn
      split at hp
      · rename_i r hr
        cases hp
        refine ⟨.agg (cs'.extract off (off + n)), ?_, ?_⟩
        · simp [part, run_isAgg ha, run_size hn]
        · have := h.sub hr
          refine .agg _ _ ?_
          simp only [Array.toList_extract, List.extract_eq_take_drop]
          rwa [show off + n - off = n by omega]
      · cases hp
    · cases hp
  · rename_i ha
    rw [nth_eq] at hp
    obtain ⟨v', h1, h2⟩ := h.get hp
    refine ⟨v', ?_, h2⟩
    have h1' : cs'[off]? = some v' := by simpa using h1
    simp [part, run_isAgg ha, h1']
  · cases hp
theorem agg_inv {cs : Array Value} {v' : Value} (h : VRel E (.agg cs) v') : ∃ cs', v' = .agg cs' ∧ VRels E cs.toList cs'.toList := by
  cases h with | agg a a' h => exact ⟨a', rfl, h⟩
theorem tuple_inv {cs : Array Value} {v' : Value} (h : VRel E (.tuple cs) v') : ∃ cs', v' = .tuple cs' ∧ VRels E cs.toList cs'.toList := by
  cases h with | tuple a a' h => exact ⟨a', rfl, h⟩
theorem ok_field (hR : Rel E A w) (hF : FRel E F a.tmps) {s : TypeId} {x : Operand} {f : Nat} (h : opField P F A s x f = some out) :
    OutOK P E A w ((do pure (Next.value (← Instr.field s (a.eval x) f)) : Sem Next).run P w) out := by
  unfold opField at h
  split at h
  · rename_i cs hx
    split at h
    · rename_i fd hfd
      split at h
      · rename_i v hv
        cases h
        obtain ⟨cs', e, hcs⟩ := agg_inv (evC_rel hF (eval_some hx))
        obtain ⟨v', h1, h2⟩ := partA_rel (w := w) hcs hv
        refine .same hR h2 (run_value ?_)
        unfold fieldT at hfd
        split at hfd
        · rename_i fs hu
          rw [nth_eq] at hfd
          have hfd' : fs[f]? = some fd := by simpa using hfd
          simp [Instr.field, run_und hu, hfd', e, asAgg, h1]
        · cases hfd
      · cases h
    · cases h
  · cases h
theorem ok_extract (hR : Rel E A w) (hF : FRel E F a.tmps) {x : Operand} {ix : Nat} (h : opExtract F A x ix = some out) :
    OutOK P E A w ((do pure (Next.value (← Instr.extract (a.eval x) ix)) : Sem Next).run P w) out := by
  unfold opExtract at h
  split at h
  · rename_i vs hx
    split at h
    · rename_i v hv
      cases h
      obtain ⟨vs', e, hvs⟩ := tuple_inv (evC_rel hF (eval_some hx))
      rw [nth_eq] at hv
      obtain ⟨v', h1, h2⟩ := hvs.get hv
      have h1' : vs'[ix]? = some v' := by simpa using h1
      refine .same hR h2 (run_value ?_)
      simp [Instr.extract, e, h1']
    · cases h
  · cases h
theorem natV_inv {v : Value} {n : Nat} (h : natV v = some n) : ∃ k, v = .int k (.ofNat n) := by
  unfold natV intV at h
  cases v <;> simp at h
  rename_i k i
  cases i with
  | ofNat m => simp [natI] at h; subst h; exact ⟨k, rfl⟩
  | negSucc m => simp [natI] at h
theorem ok_index (hR : Rel E A w) (hF : FRel E F a.tmps) {t : TypeId} {x ix : Operand} (h : opIndex P F A t x ix = some out) :
    OutOK P E A w ((do pure (Next.value (← Instr.index t (a.eval x) (a.eval ix))) : Sem Next).run P w) out := by
  unfold opIndex at h
  split at h
  · rename_i xv iv hx hi
    split at h
    · rename_i cs
      split at h
      · rename_i n e i hu hn
        split at h
        · rename_i sz hlt hsz
          split at h
          · rename_i v hv
            cases h
            obtain ⟨k, rfl⟩ := natV_inv hn
            obtain ⟨cs', e', hcs⟩ := agg_inv (evC_rel hF (eval_some hx))
            obtain ⟨v', h1, h2⟩ := partA_rel (w := w) hcs hv
            have hk := int_inv (evC_rel hF (eval_some hi))
            have hlt2 : i < n := Nat.le_of_ble_eq_true hlt
            have hlt' : (0 : Int) ≤ Int.ofNat i ∧ Int.ofNat i < (n : Int) := ⟨Int.natCast_nonneg i, by simpa using hlt2⟩
            refine .same hR h2 (run_value ?_)
            simp only [Instr.index, hk, asIntOf, Sem.run_bind, Sem.run_pure, Result.andThen_ok, run_und hu, e', if_pos hlt', run_size hsz]
            exact h1
          · cases h
        · cases h
      · cases h
    · rename_i s
      split at h
      · rename_i hf
        obtain ⟨r, hr, hfr, rfl⟩ := flatR_inv h
        rw [str_inv (evC_rel hF (eval_some hx)), flat_eq hf (evC_rel hF (eval_some hi))]
        exact .same hR (flat_refl hfr) (peval_value hr)
      · cases h
    · cases h
  · cases h
theorem ok_makeFunc (hR : Rel E A w) (hF : FRel E F a.tmps) {fn : Fn} {first cap : Array Operand} (h : opMakeFunc F A fn first cap = some out) :
    OutOK P E A w ((do pure (Next.value (← Instr.makeFunc fn (first.map a.eval) (cap.map a.eval))) : Sem Next).run P w) out := by
  unfold opMakeFunc at h
  split at h
  · rename_i x y hx hy
    cases h
    refine .same hR (.func fn _ _ (first.map a.eval) (cap.map a.eval) ?_ ?_) (run_value (by simp [Instr.makeFunc]))
    · simpa using evsC_rel hF hx
    · simpa using evsC_rel hF hy
  · cases h
theorem ok_s2ap (hR : Rel E A w) (hF : FRel E F a.tmps) {t : TypeId} {x : Operand} (h : opSliceToArrayPointer P F A t x = some out) :
    OutOK P E A w ((do pure (Next.value (← Instr.arrayAt t (a.eval x))) : Sem Next).run P w) out := by
  unfold opSliceToArrayPointer at h
  split at h
  · rename_i b n c k e hx hu
    split at h
    · rename_i hk
      cases h
      simp only [Bool.and_eq_true] at hk
      have h1 : k ≤ n := Nat.le_of_ble_eq_true hk.1
      have h2 : 0 < n := Nat.le_of_ble_eq_true hk.2
      have hv := evC_rel hF (eval_some hx)
      generalize hq : a.eval x = q at hv
      cases hv with
      | slc0 => omega
      | slc b o n c c' B s sz' hb hn hc hr =>
        refine .same hR (.ptr _ _ _ _ hb) (run_value ?_)
        have : ¬ n < k := by omega
        simp [Instr.arrayAt, run_und hu, hq, this]
    · cases h
  · cases h
end
end Go.Proofs.YtohnakjamlhhkaaGreatDoor
