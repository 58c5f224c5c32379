/- Code, functions, calls: what the evaluator says comes so. -/
import Derived.Test.YtohnakjamlhhkaaGreatDoorSoG
import Derived.Scope
namespace Go.Proofs.YtohnakjamlhhkaaGreatDoor
open Go
set_option linter.unusedVariables false
set_option linter.unusedSimpArgs false

def ResOK : Exit → AEx → Prop
  | .normal, .normal => True
  | .exit i, .exit j => i = j
  | .ret, .ret => True
  | _, _ => False
/-- What a piece of code comes to. -/
def QA (D : List Deferred) (E : Em) (A : AH) (w : World) (res : ARes) : Exit → Act → World → Prop := fun e a' w' => ResOK e res.exit ∧ ∃ E', Stp E A w E' res.heap w' ∧ FRel E' res.fr a'.tmps ∧ a'.defers = D
section
variable {P : Program} {ops : Array Oper} {C : Con} {r : Nat} {D : List Deferred} {V : Nat → Value} {E : Em} {F F' : FT} {A A' : AH} {a : Act} {w : World}
theorem QA.trans {E' : Em} {w' : World} {res : ARes} (hs : Stp E A w E' A' w') {e : Exit} {a1 : Act} {w1 : World} (h : QA D E' A' w' res e a1 w1) : QA D E A w res e a1 w1 := by
  obtain ⟨h1, E2, h2, h3, h4⟩ := h
  exact ⟨h1, E2, hs.trans h2, h3, h4⟩

/-! ### Regions in their row -/
theorem outC_inv {d : Option Tmp} {F : FT} {k : FT → AH → Option ARes} {q : Option Out} {res : ARes} (h : (outC (putC d)).run k C F q = some res) : ∃ out F' A', q = some out ∧ outS C d F out = some (F', A') ∧ k F' A' = some res := by
  have h' : Option.rec none (fun o => Out.rec
    (fun v A => Option.rec none (fun F => k F A) ((putC d).run v F))
    (fun A => Option.rec none (fun F => k F A) ((putC d).run undef F))
    (fun f args A => Option.rec none (fun p => Prod.rec (fun v A => Option.rec none (fun F => k F A) ((putC d).run v F)) p) (C f args A)) o) q = some res := h
  cases q with
  | none => cases h'
  | some out =>
    cases out with
    | val v A =>
      have h2 : Option.rec none (fun F => k F A) ((putC d).run v F) = some res := h'
      cases h3 : (putC d).run v F with
      | none => rw [h3] at h2; cases h2
      | some F' => rw [h3] at h2; exact ⟨_, F', A, rfl, by simp only [outS, after, h3], h2⟩
    | skip A =>
      have h2 : Option.rec none (fun F => k F A) ((putC d).run undef F) = some res := h'
      cases h3 : (putC d).run undef F with
      | none => rw [h3] at h2; cases h2
      | some F' => rw [h3] at h2; exact ⟨_, F', A, rfl, by simp only [outS, after, h3], h2⟩
    | call f args A =>
      have h2 : Option.rec none (fun p => Prod.rec (fun v A => Option.rec none (fun F => k F A) ((putC d).run v F)) p) (C f args A) = some res := h'
      cases h4 : C f args A with
      | none => rw [h4] at h2; cases h2
      | some p =>
        obtain ⟨v, A2⟩ := p
        rw [h4] at h2
        have h5 : Option.rec none (fun F => k F A2) ((putC d).run v F) = some res := h2
        cases h3 : (putC d).run v F with
        | none => rw [h3] at h5; cases h5
        | some F' => rw [h3] at h5; exact ⟨_, F', A2, rfl, by simp only [outS, h4, after, h3], h5⟩
theorem guardC_inv {o : Oper} {k run : AFr → AH → Option ARes} {res : ARes} (h : guardC ops o k run F A = some res) :
    (wantA ops F o = some true ∧ run F A = some res) ∨ (wantA ops F o = some false ∧ ∃ F', (putC o.dst).run undef F = some F' ∧ k F' A = some res) := by
  unfold guardC at h
  cases hg : o.guard with
  | none =>
    rw [hg] at h
    exact .inl ⟨by simp [wantA, hg], h⟩
  | some g =>
    rw [hg] at h
    have h' : Option.rec none (fun b => Bool.rec (Option.rec none (fun F => k F A) (AFr.put F o.dst undef)) (run F A) b) (wantA ops F o) = some res := h
    cases hw : wantA ops F o with
    | none => rw [hw] at h'; cases h'
    | some b =>
      rw [hw] at h'
      cases b with
      | true => exact .inl ⟨rfl, h'⟩
      | false =>
        have h2 : Option.rec none (fun F => k F A) (AFr.put F o.dst undef) = some res := h'
        cases h3 : AFr.put F o.dst undef with
        | none => rw [h3] at h2; cases h2
        | some F' => rw [h3] at h2; exact .inr ⟨rfl, F', h3, h2⟩
theorem opsC_ok (hC : ConOK P V C) {res : ARes} {E0 : Em} {A0 : AH} {w0 : World} (hV : E0.val = V) : ∀ (l : List Oper) (k : Nat), (∀ i o, l[i]? = some o → ops[k + i]? = some o) → ∀ (F : FT) (A : AH) (E : Em) (a : Act) (w : World),
    (opsC P ops l).run C F A = some res → Stp E0 A0 w0 E A w → FRel E F a.tmps → a.defers = D → wpOps P ops (QA D E0 A0 w0 res) (List.range' k l.length) a w
  | [], k, hl, F, A, E, a, w, h, hs, hF, hd => by
    have : some (ARes.mk .normal F A) = some res := h
    cases this
    exact ⟨trivial, E, hs, hF, hd⟩
  | o :: l, k, hl, F, A, E, a, w, h, hs, hF, hd => by
    have ho : ops[k]? = some o := by simpa using hl 0 o rfl
    have hl' : ∀ i o, l[i]? = some o → ops[k + 1 + i]? = some o := fun i o hi => by
      have := hl (i + 1) o (by simpa using hi)
      rwa [show k + (i + 1) = k + 1 + i by omega] at this
    have h' : guardC ops o ((opsC P ops l).run C) (fun F A => (outC (putC o.dst)).run ((opsC P ops l).run C) C F ((operC P o).run F A)) F A = some res := h
    simp only [List.length_cons, List.range'_succ]
    unfold wpOps
    rw [ho]
    simp only
    rcases guardC_inv h' with ⟨hw, h2⟩ | ⟨hw, F', h3, h2⟩
    · rw [wantA_ok hF hw]
      simp only [if_true]
      obtain ⟨out, F', A', hop, hout, hk⟩ := outC_inv h2
      refine .inl (outS_ok hC (hs.le.val.trans hV) hF hs.rel (oper_ok hs.rel hF hop) hout fun E' a' w' hs' hf' hd' => ?_)
      exact opsC_ok hC hV l (k + 1) hl' F' A' E' a' w' hk (hs.trans hs') hf' (by rw [hd']; exact hd)
    · rw [wantA_ok hF hw]
      simp only [Bool.false_eq_true, if_false]
      refine opsC_ok hC hV l (k + 1) hl' F' A E _ w h2 hs (hF.put undef_rel h3) ?_
      have : (a.put o.dst undef).defers = a.defers := by unfold Act.put; split <;> rfl
      rw [this]; exact hd

/-! ### Regions in whatever order -/
theorem wpAny_more {Q : Exit → Act → World → Prop} : ∀ (n m : Nat) (L : Array Bool) (a : Act) (w : World), n ≤ m → wpAny P .any ops Q n L a w → wpAny P .any ops Q m L a w
  | 0, 0, L, a, w, _, h => h
  | 0, m + 1, L, a, w, _, h => ⟨fun _ => h.2, by rw [h.1]; simp⟩
  | n + 1, 0, L, a, w, hle, _ => by omega
  | n + 1, m + 1, L, a, w, hle, h => ⟨h.1, fun i hi => wpOp_mono (fun a' w' h' => wpAny_more n m _ a' w' (by omega) h') (h.2 i hi)⟩
/-- What is to be computed of a region. -/
noncomputable def regB (P : Program) (ops : Array Oper) : Bool := match planOf P ops with
  | some (l, _) => planB ops l (Array.replicate ops.size false) && Nat.ble l.length ops.size
  | none => true
theorem reserve (hR : Rel E A w) (n : Nat) {w' : World} (hw : w'.heap = w.heap) (he : Env w w') : Stp E A w E ⟨A.heap, A.next + n⟩ w' := by
  cases A with | mk h m =>
  have hobj : ∀ x, (AH.mk h (m + n)).obj x = (AH.mk h m).obj x := fun x => rfl
  have hR' := hR.congr hw
  refine ⟨E.le_refl, ⟨fun b hb => hR.fresh b (Nat.le_trans (Nat.le_add_right _ _) hb), hR'.lt, hR'.row, hR'.apart, hR'.map, hR'.mapApart, hR'.iter, hR'.typ⟩, by rw [hw]; exact Nat.le_refl _, Nat.le_add_right _ _, fun _ _ => rfl, fun B hB hn => ⟨by rw [hw], hn⟩, he⟩
theorem regC_ok (hm : P.follows .mixedOrders = true) (hC : ConOK P V C) (hb : regB P ops = true) {res : ARes} (hV : E.val = V) (h : (regC P ops).run C F A = some res) (hR : Rel E A w) (hF : FRel E F a.tmps) (hd : a.defers = D) (id : Nat) :
    (Code.region id ops true).wp P (QA D E A w res) a w := by
  refine wp_region_any hm ?_
  unfold regC at h
  unfold regB at hb
  split at h
  · rename_i l ends hpl
    rw [hpl] at hb
    simp only [Bool.and_eq_true] at hb
    have hok := planOf_ok hpl hb.1
    have hfc := facts_of hok (by simp) .nil
    have hle : l.length ≤ ops.size := Nat.le_of_ble_eq_true hb.2
    have hs0 := reserve hR (countF l) (w' := { w with drawn := w.drawn + 1 }) rfl ⟨rfl, rfl, rfl⟩
    have hrun : (planR P ops ends l).run C F ⟨A.heap, A.next + countF l⟩ A.next [] = some res := h
    have hclosed : Closed ops (Array.replicate ops.size false) := fun j o hj => by
      simp only [Array.getD_eq_getD_getElem?, Array.getElem?_replicate] at hj
      split at hj <;> cases hj
    have hall := planR_all hfc.nodup hfc.get hok (fun q hq => hq) (fun q hq => .inl hq) F _ [] hrun hclosed (by simp) (by simp) (fun x hx => by cases hx)
    refine wpAny_more l.length ops.size _ _ _ hle ?_
    refine wpAny_of_all hC hfc (E0 := E) (A0 := A) (w0 := w) rfl hV (Q := QA D E A w res) (fun E' a' w' he hs hf hd => ⟨by rw [he]; trivial, E', hs, hf, hd⟩) l.length _ F _ a _ E [] hall ?_
    have hnone : ∀ k, E.blk (A.next + k) = none := fun k => hR.fresh _ (Nat.le_add_right _ _)
    have hL : ∀ i, (Array.replicate ops.size false).getD i false = true → False := fun i hi => by
      simp only [Array.getD_eq_getD_getElem?, Array.getElem?_replicate] at hi
      split at hi <;> cases hi
    refine ⟨hs0, hF, hd, ⟨by simp, by simp⟩, Nat.le_refl _, by simp, fun i o k v _ _ => hnone k, ?_, ?_⟩
    · intro j o need mats hm hl k cs hk hall'
      rcases hfc.mats _ _ _ _ k cs hm hk with ⟨_, h1, _⟩ | ⟨i3, o3, v3, h1, h2, _⟩
      · cases h1
      · exact (hL _ (hall' _ _ _ h1)).elim
    · intro k cs hk hall'
      rcases hfc.ends k cs hk with ⟨_, h1⟩ | ⟨i3, o3, v3, h1, h2⟩
      · cases h1
      · exact (hL _ (hall' _ _ _ h1)).elim
  · cases h

/-! ### Code -/
/-- What is to be computed of code. -/
noncomputable def codeB (P : Program) : Code → Bool
  | .region _ ops true => regB P ops
  | .seq x y => codeB P x && codeB P y
  | .cond _ x y => codeB P x && codeB P y
  | .block _ x => codeB P x
  | .loop x => codeB P x
  | .scope x => codeB P x
  | _ => true
theorem boolOf_inv {v : Value} {b : Bool} (h : boolOf v = some b) : v = .bool b := by
  cases v <;> first | (cases h; done) | skip
  cases h; rfl
theorem resOK_ne {e : Exit} {x : AEx} (h : ResOK e x) (hn : e ≠ .normal) : x ≠ .normal := by
  intro q; subst q; cases e <;> first | exact hn rfl | exact h.elim
theorem seq_inv {q : Option ARes} (x : AFr → AH → Option ARes) {res : ARes} (h : Option.rec none (fun r => ARes.rec (fun e F A => AEx.rec (x F A) (fun i => some ⟨.exit i, F, A⟩) (some ⟨.ret, F, A⟩) e) r) q = some res) :
    ∃ r1, q = some r1 ∧ ((r1.exit = .normal ∧ x r1.fr r1.heap = some res) ∨ (r1.exit ≠ .normal ∧ res = ⟨r1.exit, r1.fr, r1.heap⟩)) := by
  cases q with
  | none => cases h
  | some r =>
    obtain ⟨e, F, A⟩ := r
    refine ⟨_, rfl, ?_⟩
    cases e with
    | normal => exact .inl ⟨rfl, h⟩
    | exit i => cases h; exact .inr ⟨by simp, rfl⟩
    | ret => cases h; exact .inr ⟨by simp, rfl⟩
theorem block_inv {q : Option ARes} {id : Nat} {res : ARes} (h : Option.rec none (fun r => ARes.rec (fun e F A => AEx.rec (some ⟨.normal, F, A⟩) (fun i => Bool.rec (some ⟨.exit i, F, A⟩) (some ⟨.normal, F, A⟩) (Nat.beq i id)) (some ⟨.ret, F, A⟩) e) r) q = some res) :
    ∃ r1, q = some r1 ∧ AEx.rec (some ⟨.normal, r1.fr, r1.heap⟩) (fun i => Bool.rec (some ⟨.exit i, r1.fr, r1.heap⟩) (some ⟨.normal, r1.fr, r1.heap⟩) (Nat.beq i id)) (some ⟨.ret, r1.fr, r1.heap⟩) r1.exit = some res := by
  cases q with
  | none => cases h
  | some r => exact ⟨_, rfl, h⟩
/-- The first part's end, then the second one. -/
theorem then_ok {E' : Em} {w' : World} {r1 res : ARes} {K : Act → World → Prop} {x : Option ARes} (h : (r1.exit = .normal ∧ x = some res) ∨ (r1.exit ≠ .normal ∧ res = ⟨r1.exit, r1.fr, r1.heap⟩)) {e : Exit} {a1 : Act} {w1 : World} (hq : QA D E A w r1 e a1 w1)
    (hk : x = some res → ∀ E', Stp E A w E' r1.heap w1 → FRel E' r1.fr a1.tmps → a1.defers = D → K a1 w1) : Exit.then K (QA D E A w res) e a1 w1 := by
  obtain ⟨h1, E2, h2, h3, h4⟩ := hq
  rcases h with ⟨hn, hx⟩ | ⟨hn, rfl⟩
  · rw [hn] at h1
    cases e <;> first | exact hk hx E2 h2 h3 h4 | exact h1.elim
  · cases e <;> first | exact ⟨h1, E2, h2, h3, h4⟩ | skip
    exact absurd (by revert h1; cases r1.exit <;> simp [ResOK]) hn
theorem loop_ok {b : Code} {bC : Con → AFr → AH → Option ARes} {E0 : Em} {A0 : AH} {w0 : World} (hV : E0.val = V) (hb : ∀ (F : FT) (A : AH) (E : Em) (a : Act) (w : World) (r : ARes), E.val = V → bC C F A = some r → Rel E A w → FRel E F a.tmps → a.defers = D → b.wp P (QA D E A w r) a w) {res : ARes} :
    ∀ (n : Nat) (F : FT) (A : AH) (E : Em) (a : Act) (w : World), loopA bC C n F A = some res → Stp E0 A0 w0 E A w → FRel E F a.tmps → a.defers = D → Code.rounds P b (QA D E0 A0 w0 res) n a w
  | 0, F, A, E, a, w, h, _, _, _ => by cases h
  | n + 1, F, A, E, a, w, h, hs, hF, hd => by
    have h' : Option.rec none (fun r => ARes.rec (fun e F A => AEx.rec (loopA bC C n F A) (fun i => some ⟨.exit i, F, A⟩) (some ⟨.ret, F, A⟩) e) r) (bC C F A) = some res := h
    obtain ⟨r1, h1, h3⟩ := seq_inv (fun F A => loopA bC C n F A) h'
    refine wp_mono (hb F A E a w r1 (hs.le.val.trans hV) h1 hs.rel hF hd) fun e a1 w1 hq => ?_
    exact then_ok (E' := E) (w' := w) h3 (hq.trans hs) fun hx E' hs' hf' hd' => loop_ok hV hb n r1.fr r1.heap E' a1 w1 hx hs' hf' hd'
theorem codeC_loop (b : Code) : codeC P (.loop b) = ⟨fun C F A => loopA (codeC P b).run C manyRounds F A⟩ := rfl
theorem codeC_ok (hm : P.follows .mixedOrders = true) (hC : ConOK P V C) : ∀ (c : Code), codeB P c = true → ∀ (F : FT) (A : AH) (E : Em) (a : Act) (w : World) (res : ARes), E.val = V → (codeC P c).run C F A = some res → Rel E A w → FRel E F a.tmps → a.defers = D → c.wp P (QA D E A w res) a w := by
  intro c
  induction c with
  | skip =>
    intro _ F A E a w res hV h hR hF hd
    have : some (ARes.mk .normal F A) = some res := h
    cases this
    exact wp_skip ⟨trivial, E, .refl hR, hF, hd⟩
  | region id ops d =>
    intro hb F A E a w res hV h hR hF hd
    cases d with
    | true => exact regC_ok hm hC hb hV h hR hF hd id
    | false =>
      refine wp_region ?_
      have := opsC_ok hC (ops := ops) (E0 := E) (A0 := A) (w0 := w) hV ops.toList 0 (fun i o hi => by simpa using hi) F A E a w h (.refl hR) hF hd
      rw [List.range_eq_range']
      simpa using this
  | seq x y ihx ihy =>
    intro hb F A E a w res hV h hR hF hd
    simp only [codeB, Bool.and_eq_true] at hb
    have h' : Option.rec none (fun r => ARes.rec (fun e F A => AEx.rec ((codeC P y).run C F A) (fun i => some ⟨.exit i, F, A⟩) (some ⟨.ret, F, A⟩) e) r) ((codeC P x).run C F A) = some res := h
    obtain ⟨r1, h1, h2⟩ := seq_inv (fun F A => (codeC P y).run C F A) h'
    refine wp_seq (wp_mono (ihx hb.1 F A E a w r1 hV h1 hR hF hd) fun e a1 w1 hq => ?_)
    exact then_ok (E' := E) (w' := w) h2 hq fun hx E' hs' hf' hd' => wp_mono (ihy hb.2 r1.fr r1.heap E' a1 w1 res (hs'.le.val.trans hV) hx hs'.rel hf' hd') fun e a2 w2 hq2 => hq2.trans hs'
  | cond c x y ihx ihy =>
    intro hb F A E a w res hV h hR hF hd
    simp only [codeB, Bool.and_eq_true] at hb
    have h' : Option.rec none (fun t => Bool.rec ((codeC P y).run C F A) ((codeC P x).run C F A) t) (Option.rec none boolOf ((evC c).run F)) = some res := h
    cases h1 : (evC c).run F with
    | none => rw [h1] at h'; cases h'
    | some v =>
      rw [h1] at h'
      cases h2 : boolOf v with
      | none => simp only [h2] at h'; cases h'
      | some t =>
        simp only [h2] at h'
        have hv := evC_rel hF h1
        rw [boolOf_inv h2] at hv
        have hc := bool_inv hv
        refine wp_cond hc ?_
        cases t with
        | true => exact ihx hb.1 F A E a w res hV h' hR hF hd
        | false => exact ihy hb.2 F A E a w res hV h' hR hF hd
  | block id b ih =>
    intro hb F A E a w res hV h hR hF hd
    have h' : Option.rec none (fun r => ARes.rec (fun e F A => AEx.rec (some ⟨.normal, F, A⟩) (fun i => Bool.rec (some ⟨.exit i, F, A⟩) (some ⟨.normal, F, A⟩) (Nat.beq i id)) (some ⟨.ret, F, A⟩) e) r) ((codeC P b).run C F A) = some res := h
    obtain ⟨r1, h1, h2⟩ := block_inv h'
    refine wp_block (wp_mono (ih hb F A E a w r1 hV h1 hR hF hd) fun e a1 w1 hq => ?_)
    obtain ⟨g1, E2, g2, g3, g4⟩ := hq
    cases hx : r1.exit with
    | normal =>
      rw [hx] at g1 h2
      have : some (ARes.mk .normal r1.fr r1.heap) = some res := h2
      cases this
      cases e <;> first | exact g1.elim | exact ⟨trivial, E2, g2, g3, g4⟩
    | ret =>
      rw [hx] at g1 h2
      have : some (ARes.mk .ret r1.fr r1.heap) = some res := h2
      cases this
      cases e <;> first | exact g1.elim | exact ⟨trivial, E2, g2, g3, g4⟩
    | exit i =>
      rw [hx] at g1 h2
      have h3 : (Bool.rec (some (ARes.mk (.exit i) r1.fr r1.heap)) (some ⟨.normal, r1.fr, r1.heap⟩) (Nat.beq i id) : Option ARes) = some res := h2
      cases e <;> first | exact g1.elim | skip
      rename_i j
      have hj : j = i := g1
      subst hj
      cases hbq : Nat.beq j id with
      | true =>
        rw [hbq] at h3
        cases h3
        have := Nat.eq_of_beq_eq_true hbq
        subst this
        simp only [Exit.inBlock, if_true]
        exact ⟨trivial, E2, g2, g3, g4⟩
      | false =>
        rw [hbq] at h3
        cases h3
        have hne : j ≠ id := fun q => by subst q; simp at hbq
        simp only [Exit.inBlock, if_neg hne]
        exact ⟨rfl, E2, g2, g3, g4⟩
  | loop b ih =>
    intro hb F A E a w res hV h hR hF hd
    rw [codeC_loop] at h
    simp only at h
    generalize manyRounds = n at h
    exact wp_loop_rounds n (loop_ok (C := C) hV (fun F A E a w r hV h hR hF hd => ih hb F A E a w r hV h hR hF hd) n F A E a w h (.refl hR) hF hd)
  | rangeFunc f ps x y _ _ => intro _ F A E a w res hV h; cases h
  | exit id =>
    intro _ F A E a w res hV h hR hF hd
    have : some (ARes.mk (.exit id) F A) = some res := h
    cases this
    exact wp_exit ⟨rfl, E, .refl hR, hF, hd⟩
  | scope b ih =>
    intro hb F A E a w res hV h hR hF hd
    refine wp_scope_straight (wp_mono (ih hb F A E a w res hV h hR hF hd) fun e a1 w1 hq => ?_)
    cases e <;> first | exact hq | exact hq.1.elim
  | label l =>
    intro _ F A E a w res hV h hR hF hd
    have : some (ARes.mk .normal F A) = some res := h
    cases this
    exact wp_label ⟨trivial, E, .refl hR, hF, hd⟩
  | goto l => intro _ F A E a w res hV h; cases h
  | ret =>
    intro _ F A E a w res hV h hR hF hd
    have : some (ARes.mk .ret F A) = some res := h
    cases this
    exact wp_ret ⟨trivial, E, .refl hR, hF, hd⟩
  | refuse s => intro _ F A E a w res hV h; cases h

/-! ### Functions -/
theorem fullA_get : ∀ (k c n : Nat) (v : Value), (getC k n).run (fullA k c) = some v → v = undef ∧ n < c
  | 0, c, n, v, h => by cases h
  | k + 1, 0, n, v, h => by
    have : fullA (k + 1) 0 = .leaf := rfl
    rw [this, getC_leaf] at h; cases h
  | k + 1, m + 1, n, v, h => by
    have he : fullA (k + 1) (m + 1) = .node undef (fullA k (m - m / 2)) (fullA k (m / 2)) := rfl
    rw [he] at h
    rcases nat_cases3 n with rfl | ⟨b, rfl, hb⟩ | ⟨b, rfl, i, hb⟩
    · rw [getC_zero] at h; cases h; exact ⟨rfl, by omega⟩
    · rw [getC_even _ _ _ _ hb] at h
      obtain ⟨h1, h2⟩ := fullA_get k _ _ v h
      exact ⟨h1, by omega⟩
    · rw [getC_odd _ _ _ _ hb] at h
      obtain ⟨h1, h2⟩ := fullA_get k _ _ v h
      exact ⟨h1, by omega⟩
theorem args_ok {n : Nat} : ∀ (l l' pre' : List Value) (k : Nat) (F F' : FT), VRels E l l' → args_ l k F = some F' → pre'.length = k →
    (∀ m v, (getC 12 m).run F = some v → (m < k ∧ ∃ v', pre'[m]? = some v' ∧ VRel E v v') ∨ (k ≤ m ∧ v = undef ∧ m < n)) →
    ∀ m v, (getC 12 m).run F' = some v → (m < k + l.length ∧ ∃ v', (pre' ++ l')[m]? = some v' ∧ VRel E v v') ∨ (k + l.length ≤ m ∧ v = undef ∧ m < n)
  | [], _, pre', k, F, F', .nil, h, hk, hi, m, v, hm => by
    have : F' = F := by cases h; rfl
    subst this
    simpa using hi m v hm
  | x :: l, _, pre', k, F, F', .cons _ x' _ l' hx ht, h, hk, hi, m, v, hm => by
    have h' : Option.rec none (args_ l (k + 1)) ((setC 12 k).run x F) = some F' := h
    cases h1 : (setC 12 k).run x F with
    | none => rw [h1] at h'; cases h'
    | some F1 =>
      rw [h1] at h'
      have := args_ok l l' (pre' ++ [x']) (k + 1) F1 F' ht h' (by simp [hk]) (fun m v hm => by
        rcases getC_setC 12 k x F F1 h1 m v hm with ⟨rfl, rfl⟩ | ⟨hne, hg⟩
        · exact .inl ⟨by omega, x', by rw [List.getElem?_append_right (by omega), hk]; simp, hx⟩
        · rcases hi m v hg with ⟨g1, v', g2, g3⟩ | ⟨g1, g2, g3⟩
          · exact .inl ⟨by omega, v', by rw [List.getElem?_append_left (by omega)]; exact g2, g3⟩
          · exact .inr ⟨by omega, g2, g3⟩) m v hm
      simpa [Nat.add_assoc, Nat.add_comm 1] using this
theorem enter_ok {n : Nat} {args args' : List Value} (ha : VRels E args args') (h : AFr.enter n args = some F) : FRel E F (args'.toArray ++ Array.replicate (n - args'.toArray.size) undef) := by
  have h' : args_ args 0 (fullA 12 n) = some F := h
  intro m v hm
  rcases args_ok (n := n) args args' [] 0 _ F ha h' rfl (fun m v hm => .inr ⟨Nat.zero_le _, fullA_get 12 n m v hm⟩) m v hm with ⟨h1, v', h2, h3⟩ | ⟨h1, rfl, h3⟩
  · refine ⟨v', ?_, h3⟩
    have hl := (List.getElem?_eq_some_iff.1 h2).1
    simp only [List.nil_append] at h2 hl
    rw [Array.getElem?_append_left (by simpa using hl)]
    simpa using h2
  · refine ⟨undef, ?_, undef_rel⟩
    have hl := ha.length
    rw [Array.getElem?_append_right (by simp; omega)]
    simp only [List.size_toArray, Array.getElem?_replicate]
    rw [if_pos (by omega)]
theorem loadA_ok (hR : Rel E A w) {t : TypeId} {b o : Nat} {v : Value} (h : loadA P A t b o = some v) {B s : Nat} (hb : E.blk b = some (B, s)) : ∃ v', (loadVar t ⟨B, o + s, none⟩).run P w = .ok v' w ∧ VRel E v v' := by
  unfold loadA at h
  split at h <;> first | (cases h; done) | skip
  rename_i e cs m ho
  split at h
  · rename_i hag
    split at h <;> first | (cases h; done) | skip
    rename_i n hn
    split at h <;> first | (cases h; done) | skip
    rename_i q hq
    cases h
    obtain ⟨r', h3, h4, _, h5⟩ := hR.range ho hb hq
    have hl := run_loadCells_list (P := P) w ⟨B, o + s, none⟩ r' (fun j v hv => by rw [addr_add]; exact h5 j v hv)
    rw [h4] at hl
    exact ⟨.agg r'.toArray, by simp [loadVar, run_isAgg hag, run_size hn, hl], .agg _ _ (by simpa using h3)⟩
  · rename_i hag
    rw [nth_eq] at h
    obtain ⟨c, hrow, _, hcs⟩ := hR.rowAt ho hb
    obtain ⟨_, v', h3, h4⟩ := hcs _ _ h
    have hc : w.cell? ⟨B, o + s, none⟩ = some v' := by rw [hrow.cell]; exact h3
    exact ⟨v', by simp [loadVar, run_isAgg hag, run_load, hc], h4⟩
  · cases h
theorem getD_of {tmps : Array Value} {t : Nat} {v : Value} (h : tmps[t]? = some v) : tmps.getD t undef = v := by
  simp [Array.getD_eq_getD_getElem?, h]
def resF (tmps : Array Value) : ResultVar → Sem Value
  | .tmp t => pure (tmps.getD t undef)
  | .cell a t => do loadVar t (← asAddr (tmps.getD a undef))
theorem results_eq (fn : Func) (tmps : Array Value) : results fn tmps = (do let vs ← fn.results.mapM (resF tmps); pure (if h : vs.size = 1 then vs[0] else .tuple vs)) := by
  unfold results
  congr 2
theorem results_ok (hR : Rel E A w) (hF : FRel E F a.tmps) : ∀ {l : List ResultVar} {vs : List Value}, resultsA P A F l = some vs → ∃ vs', VRels E vs vs' ∧ (l.mapM (resF a.tmps)).run P w = .ok vs' w
  | [], vs, h => by cases h; exact ⟨[], .nil, by simp⟩
  | x :: l, vs, h => by
    simp only [resultsA] at h
    split at h <;> first | (cases h; done) | skip
    rename_i v hv
    split at h <;> first | (cases h; done) | skip
    rename_i vs2 hvs
    cases h
    obtain ⟨vs', h1, h2⟩ := results_ok hR hF hvs
    cases x with
    | tmp t =>
      obtain ⟨v', h3, h4⟩ := hF t v hv
      exact ⟨v' :: vs', .cons _ _ _ _ h4 h1, by simp [resF, getD_of h3, h2]⟩
    | cell b t =>
      simp only [resA] at hv
      split at hv <;> first | (cases hv; done) | skip
      rename_i ad had
      obtain ⟨p', h3, h4⟩ := hF b _ had
      obtain ⟨B, s, _, hb, rfl⟩ := h4.ptr_inv
      obtain ⟨v', h5, h6⟩ := loadA_ok (P := P) hR hv hb
      exact ⟨v' :: vs', .cons _ _ _ _ h6 h1, by simp [resF, getD_of h3, asAddr, h5, h2]⟩
theorem wrap_rel {vs vs' : List Value} (h : VRels E vs vs') : VRel E (wrapR vs) (wrapR vs') := by
  cases h with
  | nil => exact .tuple _ _ .nil
  | cons _ _ _ _ hv ht =>
    cases ht with
    | nil => exact hv
    | cons _ _ _ _ hv2 ht2 => exact .tuple _ _ (.cons _ _ _ _ hv (.cons _ _ _ _ hv2 ht2))
theorem endA_ok {fn : Func} {r : ARes} {v : Value} (h : endA P fn (some r) = some (v, A')) (hR : Rel E r.heap w) (hF : FRel E r.fr a.tmps) : A' = r.heap ∧ (r.exit = .normal ∨ r.exit = .ret) ∧ ∃ v', (results fn a.tmps).run P w = .ok v' w ∧ VRel E v v' := by
  obtain ⟨e, F, A⟩ := r
  have key : ∀ vs, resultsA P A F fn.results.toList = some vs → ∃ v', (results fn a.tmps).run P w = .ok v' w ∧ VRel E (wrapR vs) v' := fun vs hvs => by
    obtain ⟨vs', h1, h2⟩ := results_ok (P := P) hR hF hvs
    refine ⟨wrapR vs', ?_, wrap_rel h1⟩
    rw [results_eq, Sem.run_bind, Array.mapM_eq_mapM_toList, Sem.run_map, h2]
    simp only [Result.andThen_ok, Sem.run_pure]
    congr 1
    match vs' with
    | [] => rfl
    | [u] => rfl
    | u :: u2 :: l => simp [wrapR]
  have fin : (match resultsA P A F fn.results.toList with | some vs => some (wrapR vs, A) | none => none) = some (v, A') → A' = A ∧ ∃ v', (results fn a.tmps).run P w = .ok v' w ∧ VRel E v v' := fun h => by
    split at h
    · rename_i vs hvs
      cases h
      obtain ⟨v', h1, h2⟩ := key _ hvs
      exact ⟨rfl, v', h1, h2⟩
    · cases h
  cases e with
  | exit i => cases h
  | normal => obtain ⟨h1, h2⟩ := fin h; exact ⟨h1, .inl rfl, h2⟩
  | ret => obtain ⟨h1, h2⟩ := fin h; exact ⟨h1, .inr rfl, h2⟩
/-- What is to be computed of the program: names, and code. -/
def namesB (P : Program) : Bool := P.funcs.toList.all fun fn => !(fn.name == "runtime.NumGoroutine")
/-- The code of each function but one fits. -/
def CodesOK (P : Program) (bar : Nat) : Prop := ∀ (f : FuncId) (fn : Func) (c : Code), P.funcs[f]? = some fn → fn.body = some c → f ≠ bar → codeB P c = true
noncomputable def codeAtB (P : Program) (f : Nat) : Bool := match P.funcs[f]? with
  | some fn => match fn.body with
    | some c => codeB P c
    | none => true
  | none => true
noncomputable def chunkB (P : Program) (bar a n : Nat) : Bool := (List.range' a n).all fun f => Nat.beq f bar || codeAtB P f
theorem chunk_get {P : Program} {bar a n : Nat} (h : chunkB P bar a n = true) {f : Nat} {fn : Func} {c : Code} (hf : P.funcs[f]? = some fn) (hc : fn.body = some c) (hne : f ≠ bar) (h1 : a ≤ f) (h2 : f < a + n) : codeB P c = true := by
  have := (List.all_eq_true.1 h) f (by rw [List.mem_range'_1]; exact ⟨h1, h2⟩)
  rw [Bool.or_eq_true] at this
  rcases this with q | q
  · exact absurd (Nat.eq_of_beq_eq_true q) hne
  · unfold codeAtB at q
    rw [hf] at q
    simp only [hc] at q
    exact q
theorem does_of_calls {f : FuncId} {fn : Func} {c : Code} (hf : P.funcs[f]? = some fn) (hb : fn.body = some c) (hn : (fn.name == "runtime.NumGoroutine") = false) {args : Array Value} {R : Value → World → Prop}
    (h : ∀ R' : Ending → World → Prop, (∀ v w', R v w' → R' (.returned v) w') → Calls P f args w R') : Does P f args w R := by
  intro o a next Q hk
  have : (callFunc f args).run P w = .ok (.enter f args) w := by
    simp only [callFunc, Sem.run_bind, run_program, Result.andThen_ok, hf, hn, hb]
    rfl
  rw [this]
  show Calls P f args w _
  exact h _ fun v w' hv => hk v w' hv
theorem funC_ok (hm : P.follows .mixedOrders = true) (hN : namesB P = true) {bar : Nat} (hP : CodesOK P bar) (hC : ConOK P V C) {f : FuncId} (hf : f ≠ bar) {args : List Value} {v : Value} (h : (funC P P.funcs[f]?).run C args A = some (v, A')) {args' : List Value} (hV : E.val = V) (ha : VRels E args args') (hR : Rel E A w) :
    Does P f args'.toArray w fun v' w' => ∃ E', Stp E A w E' A' w' ∧ VRel E' v v' := by
  unfold funC at h
  split at h <;> first | (cases h; done) | skip
  rename_i fn hfn
  split at h <;> first | (cases h; done) | skip
  rename_i c hc
  have hname := (List.all_eq_true.1 hN) fn (by simpa using Array.mem_of_getElem? hfn)
  simp only [Bool.not_eq_true'] at hname
  have hcode := hP f fn c hfn hc hf
  have h' : Option.rec none (fun F => endA P fn ((codeC P c).run C F A)) (AFr.enter fn.ntmps args) = some (v, A') := h
  cases he : AFr.enter fn.ntmps args with
  | none => rw [he] at h'; cases h'
  | some F =>
    rw [he] at h'
    simp only at h'
    cases hr : (codeC P c).run C F A with
    | none => rw [hr] at h'; cases h'
    | some r =>
      rw [hr] at h'
      refine does_of_calls hfn hc hname fun R' hR' => ?_
      refine calls_of_wp hfn hc (wp_mono (codeC_ok hm hC c hcode F A E _ w r hV hr hR (enter_ok ha he) rfl) fun e a1 w1 hq => ?_)
      obtain ⟨g1, E2, g2, g3, g4⟩ := hq
      obtain ⟨rfl, hx, v', h1, h2⟩ := endA_ok h' g2.rel g3
      have hbp : a1.defers = [] ∧ ∃ v, (results fn a1.tmps).run P w1 = .ok v w1 ∧ R' (.returned v) w1 := ⟨g4, v', h1, hR' v' w1 ⟨E2, g2, h2⟩⟩
      rcases hx with hx | hx
      · rw [hx] at g1
        cases e <;> first | exact hbp | exact g1.elim
      · rw [hx] at g1
        cases e <;> first | exact hbp | exact g1.elim
theorem ev_succ (bar n : Nat) (f : FuncId) (args : List Value) : ev P bar C (n + 1) f args A = Option.rec (Bool.rec ((funC P P.funcs[f]?).run (ev P bar C n) args A) none (Nat.beq f bar)) (fun r => some r) (C f args A) := rfl
/-- **What the evaluator says of a call comes so.** -/
theorem ev_ok (hm : P.follows .mixedOrders = true) (hN : namesB P = true) {bar : Nat} (hP : CodesOK P bar) (hC : ConOK P V C) : ∀ n, ConOK P V (ev P bar C n)
  | 0 => fun f args A v A' h => by cases h
  | n + 1 => fun f args A v A' h E w args' hV ha hR => by
    rw [ev_succ] at h
    cases hc : C f args A with
    | some r =>
      rw [hc] at h
      have : r = (v, A') := by cases h; rfl
      subst this
      exact hC f args A v A' hc E w args' hV ha hR
    | none =>
      rw [hc] at h
      cases hb : Nat.beq f bar with
      | true => rw [hb] at h; cases h
      | false =>
        rw [hb] at h
        exact funC_ok hm hN hP (ev_ok hm hN hP hC n) (fun q => by subst q; simp at hb) h hV ha hR
end
end Go.Proofs.YtohnakjamlhhkaaGreatDoor
