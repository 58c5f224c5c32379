/- Calls, steps, and regions in the world. -/
import Derived.Test.YtohnakjamlhhkaaGreatDoorSoF
namespace Go.Proofs.YtohnakjamlhhkaaGreatDoor
open Go
set_option linter.unusedVariables false
set_option linter.unusedSimpArgs false

/-- A call returns, and R holds of what it returns. -/
def Does (P : Program) (f : FuncId) (args : Array Value) (w : World) (R : Value → World → Prop) : Prop :=
  ∀ (o : Oper) (a : Act) (next : Act → World → Prop) (Q : Exit → Act → World → Prop), (∀ v' w', R v' w' → next (a.put o.dst v') w') → o.upon P a next Q ((callFunc f args).run P w)
/-- What is said of calls is so. -/
def ConOK (P : Program) (V : Nat → Value) (C : Con) : Prop := ∀ f args A v A', C f args A = some (v, A') → ∀ E w args', E.val = V → VRels E args args' → Rel E A w →
  Does P f args'.toArray w fun v' w' => ∃ E', Stp E A w E' A' w' ∧ VRel E' v v'
section
variable {P : Program} {ops : Array Oper} {C : Con} {r : Nat} {D : List Deferred} {V : Nat → Value} {E : Em} {F F' : FT} {A A' : AH} {a : Act} {w : World}
theorem outS_ok (hC : ConOK P V C) (hV : E.val = V) (hF : FRel E F a.tmps) (hR : Rel E A w) {o : Oper} {out : Out} (hout : OutOK P E A w ((execOp a.eval o).run P w) out) (h : outS C o.dst F out = some (F', A'))
    {Q : Exit → Act → World → Prop} {K : Act → World → Prop} (hK : ∀ E' a' w', Stp E A w E' A' w' → FRel E' F' a'.tmps → a'.defers = a.defers → K a' w') : o.wp P a w K Q := by
  have hdef : ∀ v', (a.put o.dst v').defers = a.defers := fun v' => by unfold Act.put; split <;> rfl
  cases out with
  | val v A1 =>
    obtain ⟨E', v', w', h1, h2, h3⟩ := hout
    obtain ⟨h4, rfl⟩ := after_put h
    unfold Oper.wp
    rw [h3]
    exact hK E' _ w' h1 ((hF.mono h1.le).put h2 h4) (hdef _)
  | skip A1 =>
    obtain ⟨E', w', h1, h3⟩ := hout
    obtain ⟨h4, rfl⟩ := after_put h
    unfold Oper.wp
    rw [h3]
    exact hK E' _ w' h1 ((hF.mono h1.le).put undef_rel h4) (hdef _)
  | call f args A1 =>
    obtain ⟨rfl, args', h1, h3⟩ := hout
    simp only [outS] at h
    split at h
    · rename_i v A2 hc
      obtain ⟨h4, rfl⟩ := after_put h
      unfold Oper.wp
      rw [h3]
      refine hC f args A1 v A' hc E w args' hV h1 hR o a K Q ?_
      rintro v' w' ⟨E', h5, h6⟩
      exact hK E' _ w' h5 ((hF.mono h5.le).put h6 h4) (hdef _)
    · cases h
theorem wantA_ok (hF : FRel E F a.tmps) {o : Oper} {b : Bool} (h : wantA ops F o = some b) : Region.wanted o (yielded ops a.tmps) = b := by
  unfold wantA at h
  split at h
  · rename_i hg; cases h; simp [Region.wanted, hg]
  · rename_i j want hg
    have key : ∀ v, yieldA ops F j = some v → ∃ v', VRel E v v' ∧ ((ops[j]?).bind (·.dst)).bind (a.tmps[·]?) = some v' := fun v hv => by
      unfold yieldA at hv
      rw [nth_eq] at hv
      split at hv
      · rename_i oj hoj
        split at hv
        · rename_i d hd
          obtain ⟨v', h1, h2⟩ := hF d v hv
          have hoj' : ops[j]? = some oj := by simpa using hoj
          exact ⟨v', h2, by simp [hoj', hd, h1]⟩
        · cases hv
      · cases hv
    split at h
    · rename_i b' hy
      cases h
      obtain ⟨v', h1, h2⟩ := key _ hy
      cases h1
      unfold Region.wanted
      rw [hg]
      simp only [yielded, h2]
      cases b' <;> cases want <;> rfl
    · rename_i vs hy
      cases h
      obtain ⟨v', h1, h2⟩ := key _ hy
      cases h1
      unfold Region.wanted
      rw [hg]
      simp only [yielded, h2]
      cases want <;> rfl
    · cases h

/-! ### Blocks that were there are known from here on -/
theorem Rel.putRow (hR : Rel E A w) {b B : Nat} {cs : List Value} (hb : E.blk b = some (B, 0)) (hw : Row w B cs.toArray) (hs : cs.length = E.room B) (ho : ¬ Owned E A B) (h1 : cs.all oneC = true) (h2 : cs.all flat = true) :
    Rel E (A.put b (.row 0 cs none)) w := by
  have hrow : ∀ x e cs1 m, (A.put b (.row 0 cs none)).obj x = some (.row e cs1 m) → (x = b ∧ cs1 = cs ∧ m = none) ∨ (x ≠ b ∧ A.obj x = some (.row e cs1 m)) := fun x e cs1 m hx => by
    rcases AH.obj_put hx with ⟨q1, q2⟩ | q
    · cases q2; exact .inl ⟨q1, rfl, rfl⟩
    · exact .inr q
  have hmap : ∀ x es, (A.put b (.row 0 cs none)).obj x = some (.map es) → A.obj x = some (.map es) := fun x es hx => by
    rcases AH.obj_put hx with ⟨_, q2⟩ | q
    · cases q2
    · exact q.2
  have hiter : ∀ x q, (A.put b (.row 0 cs none)).obj x = some (.iter q) → A.obj x = some (.iter q) := fun x es hx => by
    rcases AH.obj_put hx with ⟨_, q2⟩ | q
    · cases q2
    · exact q.2
  refine ⟨fun x hx => hR.fresh x (by rw [AH.next_put] at hx; exact hx), hR.lt, ?_, ?_, fun x es hx => hR.map x es (hmap x es hx), fun x y es es' R hx hy => hR.mapApart x y es es' R (hmap _ _ hx) (hmap _ _ hy), fun x q hx => hR.iter x q (hiter x q hx), fun x e cs1 m hx => ?_⟩
  · intro x e cs1 m hx
    rcases hrow x e cs1 m hx with ⟨rfl, rfl, rfl⟩ | ⟨_, q⟩
    · refine ⟨B, 0, cs1.toArray, hb, hw, by simpa using hs, crel_of' (flats_rel h2) h1⟩
    · exact hR.row x e cs1 m q
  · intro x y e1 e2 c1 c2 m1 m2 X s1 s2 hxy hx hy hX hY
    rcases hrow x _ _ _ hx with ⟨rfl, rfl, rfl⟩ | ⟨hxb, q1⟩
    · rcases hrow y _ _ _ hy with ⟨rfl, _⟩ | ⟨_, q2⟩
      · exact absurd rfl hxy
      · rw [hb] at hX; cases hX
        exact absurd ⟨y, _, s2, q2, by simp, hY⟩ ho
    · rcases hrow y _ _ _ hy with ⟨rfl, rfl, rfl⟩ | ⟨_, q2⟩
      · rw [hb] at hY; cases hY
        exact absurd ⟨x, _, s1, q1, by simp, hX⟩ ho
      · exact hR.apart x y _ _ _ _ _ _ _ _ _ hxy q1 q2 hX hY
  · rcases AH.obj_put hx with ⟨_, q2⟩ | q
    · cases q2; exact .inl rfl
    · exact hR.typ x e cs1 m q.2
/-- What is known of floating blocks. -/
structure Pend (E : Em) (A : AH) (w : World) (r : Nat) (pend : List (Nat × List Value)) : Prop where
  row : ∀ k cs, (k, cs) ∈ pend → cs.all oneC = true ∧ cs.all flat = true ∧ ∃ B, E.blk (r + k) = some (B, 0) ∧ Row w B cs.toArray ∧ cs.length = E.room B ∧ ¬ Owned E A B
  apart : ∀ k cs k' cs' B, (k, cs) ∈ pend → (k', cs') ∈ pend → E.blk (r + k) = some (B, 0) → E.blk (r + k') = some (B, 0) → k = k'
theorem matsA_cons (r : Nat) (p : Nat × List Value) (l : List (Nat × List Value)) (A : AH) : matsA r (p :: l) A = (matsA r l A).put (r + p.1) (.row 0 p.2 none) := by
  show force (fun b => AH.put (matsA r l A) b (.row 0 p.2 none)) (Nat.add r p.1) = _
  rw [force_eq]; rfl
theorem mats_ok {pend : List (Nat × List Value)} (hR : Rel E A w) (hp : Pend E A w r pend) : ∀ {ms : List (Nat × List Value)}, ms.Pairwise (fun a b => a.1 ≠ b.1) → (∀ x ∈ ms, x ∈ pend) →
    Rel E (matsA r ms A) w ∧ (matsA r ms A).next = A.next ∧ ∀ B, Owned E (matsA r ms A) B → Owned E A B ∨ ∃ k cs, (k, cs) ∈ ms ∧ E.blk (r + k) = some (B, 0)
  | [], _, _ => ⟨hR, rfl, fun B h => .inl h⟩
  | (k, cs) :: ms, hn, hm => by
    obtain ⟨h1, h2⟩ := List.pairwise_cons.1 hn
    obtain ⟨g1, g2, g3⟩ := mats_ok hR hp h2 fun x hx => hm x (List.mem_cons_of_mem _ hx)
    obtain ⟨p1, p2, B, p3, p4, p5, p6⟩ := hp.row k cs (hm _ List.mem_cons_self)
    rw [matsA_cons]
    refine ⟨g1.putRow p3 p4 p5 ?_ p1 p2, by rw [AH.next_put, g2], ?_⟩
    · intro ho
      rcases g3 B ho with q | ⟨k', cs', q1, q2⟩
      · exact p6 q
      · have := hp.apart k cs k' cs' B (hm _ List.mem_cons_self) (hm _ (List.mem_cons_of_mem _ q1)) p3 q2
        exact h1 (k', cs') q1 this
    · rintro X ⟨x, o, s, q1, q2, q3⟩
      rcases AH.obj_put q1 with ⟨rfl, rfl⟩ | ⟨_, q4⟩
      · rw [p3] at q3; cases q3
        exact .inr ⟨k, cs, List.mem_cons_self, p3⟩
      · rcases g3 X ⟨x, o, s, q4, q2, q3⟩ with q | ⟨k', cs', q5, q6⟩
        · exact .inl q
        · exact .inr ⟨k', cs', List.mem_cons_of_mem _ q5, q6⟩
/-- A number that was kept free gets a block. -/
theorem Rel.addId (hR : Rel E A w) {b n : Nat} {w' : World} {ob : Obj} (hb : E.blk b = none) (hlt : b < A.next) (hw : w'.heap = w.heap.push ob) : Rel (E.add b w.heap.size 0 n) A w' ∧ E.le (E.add b w.heap.size 0 n) := by
  have hno : ∀ x s', E.blk x ≠ some (w.heap.size, s') := fun x s' hx => Nat.lt_irrefl _ (hR.lt _ _ _ hx)
  have hle : E.le (E.add b w.heap.size 0 n) := Em.le_add hb (.inl hno)
  have hne : ∀ x p, E.blk x = some p → x ≠ b := fun x p hx q => by subst q; rw [hb] at hx; cases hx
  have hoth : ∀ x, x ≠ b → (E.add b w.heap.size 0 n).blk x = E.blk x := fun x hx => by simp [Em.add, hx]
  have hold : ∀ k, k < w.heap.size → w'.heap[k]? = w.heap[k]? := fun k hk => by rw [hw]; exact heap_push_old hk
  have hrow : ∀ x e cs m, A.obj x = some (.row e cs m) → x ≠ b := fun x e cs m hx => by
    obtain ⟨B, s, c, h1, _⟩ := hR.row x e cs m hx
    exact hne x _ h1
  have hmap : ∀ x es, A.obj x = some (.map es) → x ≠ b := fun x es hx => by
    obtain ⟨R, ents, clock, h1, _⟩ := hR.map x es hx
    exact hne x _ h1
  refine ⟨⟨?_, ?_, ?_, ?_, ?_, ?_, ?_, ?_⟩, hle⟩
  · intro x hx
    rw [hoth x (by omega)]; exact hR.fresh x hx
  · intro x X s hx
    rw [hw, Array.size_push]
    by_cases hxb : x = b
    · subst hxb; simp [Em.add] at hx; omega
    · rw [hoth x hxb] at hx; have := hR.lt _ _ _ hx; omega
  · intro x e cs m hx
    obtain ⟨B, s, c, h1, h2, h3, h4⟩ := hR.row x e cs m hx
    exact ⟨B, s, c, hle.blk _ _ h1, h2.congr (hold B (hR.lt _ _ _ h1)), by rw [hle.room _ _ _ h1]; exact h3, h4.mono hle⟩
  · intro x y e1 e2 c1 c2 m1 m2 X s1 s2 hxy hx hy hX hY
    rw [hoth x (hrow x _ _ _ hx)] at hX
    rw [hoth y (hrow y _ _ _ hy)] at hY
    exact hR.apart x y _ _ _ _ _ _ _ _ _ hxy hx hy hX hY
  · intro x es hx
    obtain ⟨R, ents, clock, h1, h2, h3⟩ := hR.map x es hx
    exact ⟨R, ents, clock, hle.blk _ _ h1, by rw [hold R (hR.lt _ _ _ h1)]; exact h2, h3.mono hle⟩
  · intro x y es es' R hx hy hX hY
    rw [hoth x (hmap x _ hx)] at hX
    rw [hoth y (hmap y _ hy)] at hY
    exact hR.mapApart x y es es' R hx hy hX hY
  · intro x q hx
    obtain ⟨B, M, since, seen, last, h1, h2, h3⟩ := hR.iter x q hx
    exact ⟨B, M, since, seen, last, hle.blk _ _ h1, hle.blk _ _ h2, by rw [hold B (hR.lt _ _ _ h1)]; exact h3⟩
  · intro x e cs m hx
    rcases hR.typ x e cs m hx with h0 | ⟨B, c, fr, h1, h2⟩
    · exact .inl h0
    · exact .inr ⟨B, c, fr, hle.blk _ _ h1, by rw [hold B (hR.lt _ _ _ h1)]; exact h2⟩
/-- A floating operation's run. -/
theorem float_run {o : Oper} {cs : List Value} {v : Nat → Value} (h : floatO P o.op = some (cs, v)) (a : Act) (w : World) :
    ∃ t v', (execOp a.eval o).run P w = .ok (.value v') (w.alloc (.cells cs.toArray t)) ∧ cs.all oneC = true ∧ cs.all flat = true ∧ ∀ (E : Em) (b : Nat), E.blk b = some (w.heap.size, 0) → cs.length = E.room w.heap.size → VRel E (v b) v' := by
  unfold floatO at h
  split at h
  · rename_i e ho
    split at h <;> first | (cases h; done) | skip
    rename_i z hz
    split at h <;> first | (cases h; done) | skip
    rename_i hc
    simp only [Bool.and_eq_true] at hc
    cases h
    refine ⟨e, .pointer (some ⟨w.heap.size, 0, none⟩), ?_, hc.1, hc.2, fun E b hb _ => ?_⟩
    · unfold execOp
      rw [ho]
      refine run_value ?_
      simp [Instr.alloc, run_zero hz, newVar, newRow]
    · have := VRel.ptr (E := E) b 0 w.heap.size 0 hb
      simpa using this
  · rename_i t l c ho
    split at h <;> first | (cases h; done) | skip
    rename_i ln cn e hl hc hu
    split at h <;> first | (cases h; done) | skip
    rename_i zs sz hz hsz
    split at h <;> first | (cases h; done) | skip
    rename_i hb
    simp only [Bool.and_eq_true] at hb
    cases h
    obtain ⟨i, z, hi, hzz, rfl, hone, hfl, hzs, hby⟩ := zeroC_inv hz
    obtain ⟨i', hi', hs'⟩ := sizeT_inv hsz
    rw [hi] at hi'; cases hi'
    obtain ⟨j, rfl⟩ := natV_inv hl
    obtain ⟨k, rfl⟩ := natV_inv hc
    have h1 := Nat.le_of_ble_eq_true hb.1
    have h2 := Nat.le_of_ble_eq_true hb.2
    refine ⟨e, .slice (some ⟨w.heap.size, 0, none⟩) ln cn, ?_, repl_all hone cn, repl_all hfl cn, fun E b hbb hroom => ?_⟩
    · unfold execOp
      rw [ho]
      exact run_value (makeSlice_run hu hi hzz hzs hby h1 h2)
    · have := VRel.slc (E := E) b 0 ln cn cn w.heap.size 0 sz hbb h1 (Nat.le_refl _) (by rw [← hroom, repl_len]; simp [hzs, hs'])
      simpa using this
  · cases h
/-- Nothing of a row, a map or an iterator stands at a number without a block. -/
theorem Rel.none_at (hR : Rel E A w) {b : Nat} (hb : E.blk b = none) {o : AObj} (ho : A.obj b = some o) : o = .dead := by
  cases o with
  | row e cs m => obtain ⟨B, s, c, h1, _⟩ := hR.row b e cs m ho; rw [hb] at h1; cases h1
  | map es => obtain ⟨R, ents, clock, h1, _⟩ := hR.map b es ho; rw [hb] at h1; cases h1
  | dead => rfl
  | iter m => obtain ⟨B, M, since, seen, last, h1, _⟩ := hR.iter b m ho; rw [hb] at h1; cases h1
theorem Pend.step {E' : Em} {w' : World} {pend : List (Nat × List Value)} (hR : Rel E A w) (hp : Pend E A w r pend) (hs : Stp E A w E' A' w') : Pend E' A' w' r pend := by
  have hk : ∀ k cs, (k, cs) ∈ pend → E'.blk (r + k) = E.blk (r + k) := fun k cs h => by
    obtain ⟨_, _, B, h1, _⟩ := hp.row k cs h
    exact hs.keep _ (AH.obj_lt hR h1)
  refine ⟨fun k cs h => ?_, fun k cs k' cs' B h h' hb hb' => ?_⟩
  · obtain ⟨h1, h2, B, h3, h4, h5, h6⟩ := hp.row k cs h
    obtain ⟨g1, g2⟩ := hs.frame B (hR.lt _ _ _ h3) h6
    exact ⟨h1, h2, B, by rw [hk k cs h]; exact h3, h4.congr g1, by rw [hs.le.room _ _ _ h3]; exact h5, g2⟩
  · rw [hk k cs h] at hb
    rw [hk k' cs' h'] at hb'
    exact hp.apart k cs k' cs' B h h' hb hb'
/-- The state of a region, in whatever order. -/
structure RInv (D : List Deferred) (pl : List PStep) (ends : List (Nat × List Value)) (r nf : Nat) (E0 : Em) (A0 : AH) (w0 : World) (L : Array Bool) (F : FT) (A : AH) (a : Act) (w : World) (E : Em) (pend : List (Nat × List Value)) : Prop where
  stp : Stp E0 A0 w0 E A w
  fr : FRel E F a.tmps
  defers : a.defers = D
  pnd : Pend E A w r pend
  room : r + nf ≤ A.next
  big : ∀ k cs B s, (k, cs) ∈ pend → E.blk (r + k) = some (B, s) → w0.heap.size ≤ B
  free : ∀ i o k v, .float i o k v ∈ pl → L.getD i false = false → E.blk (r + k) = none
  due : ∀ j o need mats, .eff j o need mats ∈ pl → L.getD j false = false → ∀ k cs, (k, cs) ∈ mats → (∀ i o v, .float i o k v ∈ pl → L.getD i false = true) → (k, cs) ∈ pend
  ends : ∀ k cs, (k, cs) ∈ ends → (∀ i o v, .float i o k v ∈ pl → L.getD i false = true) → (k, cs) ∈ pend
theorem unl {L : Array Bool} {i j : Nat} (h : (L.setIfInBounds i true).getD j false = false) : L.getD j false = false := by
  cases hb : L.getD j false with
  | false => rfl
  | true => rw [getD_set_true hb] at h; cases h
/-- A step that materializes what waits for it. -/
theorem Stp.mats {E0 : Em} {A0 : AH} {w0 : World} {pend ms : List (Nat × List Value)} (hs : Stp E0 A0 w0 E A w) (hp : Pend E A w r pend) (hbig : ∀ k cs B s, (k, cs) ∈ pend → E.blk (r + k) = some (B, s) → w0.heap.size ≤ B)
    (hn : ms.Pairwise fun a b => a.1 ≠ b.1) (hm : ∀ x ∈ ms, x ∈ pend) : Stp E0 A0 w0 E (matsA r ms A) w := by
  obtain ⟨g1, g2, g3⟩ := mats_ok hs.rel hp hn hm
  refine ⟨hs.le, g1, hs.size, by rw [g2]; exact hs.next, hs.keep, fun B hB hno => ?_, hs.env⟩
  obtain ⟨q1, q2⟩ := hs.frame B hB hno
  refine ⟨q1, fun ho => ?_⟩
  rcases g3 B ho with q | ⟨k, cs, h1, h2⟩
  · exact q2 q
  · have := hbig k cs B 0 (hm _ h1) h2
    omega
theorem wpAny_of_all (hC : ConOK P V C) {pl : List PStep} {ends : List (Nat × List Value)} (hfc : Facts P ops (Array.replicate ops.size false) [] 0 pl ends) {E0 : Em} {A0 : AH} {w0 : World} (hr0 : A0.next = r) (hV0 : E0.val = V) {S : Array Bool → AH → Prop} {res : ARes} {Q : Exit → Act → World → Prop}
    (hQ : ∀ E' a' w', res.exit = .normal → Stp E0 A0 w0 E' res.heap w' → FRel E' res.fr a'.tmps → a'.defers = D → Q .normal a' w') :
    ∀ (n : Nat) (L : Array Bool) (F : FT) (A : AH) (a : Act) (w : World) (E : Em) (pend : List (Nat × List Value)),
      AllA P ops C r (stepAt pl) S (fun L' F' A' => res = ⟨.normal, F', matsA r ends A'⟩ ∧ ∀ q ∈ pl, L'.getD q.idx false = true) n L F A →
      RInv D pl ends r (countF pl) E0 A0 w0 L F A a w E pend → wpAny P .any ops Q n L a w := by
  have hval : ∀ {E : Em} {A : AH} {w : World}, Stp E0 A0 w0 E A w → E.val = V := fun h => h.le.val.trans hV0
  have done : ∀ {L : Array Bool} {F : FT} {A : AH} {a : Act} {w : World} {E : Em} {pend : List (Nat × List Value)}, (res = ⟨.normal, F, matsA r ends A⟩ ∧ ∀ q ∈ pl, L.getD q.idx false = true) → RInv D pl ends r (countF pl) E0 A0 w0 L F A a w E pend → Q .normal a w := fun {L F A a w E pend} h hi => by
    obtain ⟨rfl, hall⟩ := h
    exact hQ E a w rfl (hi.stp.mats hi.pnd hi.big hfc.endsN fun x hx => hi.ends x.1 x.2 hx fun i o v hm => hall _ hm) hi.fr hi.defers
  intro n
  induction n with
  | zero => intro L F A a w E pend h hi; exact ⟨h.1, done h.2 hi⟩
  | succ n ih =>
    intro L F A a w E pend h hi
    refine ⟨fun hr => done (h.1 hr) hi, fun i hri => ?_⟩
    obtain ⟨p, F', A', hp, hstep, _, hrest⟩ := h.2 i hri
    obtain ⟨hpm, hpi⟩ := stepAt_inv hp
    have hget := hfc.get p hpm
    rw [hpi] at hget
    obtain ⟨hun, oj, hoj, hall⟩ := mem_ready.1 hri
    rw [hget] at hoj
    have hoj : p.oper = oj := Option.some.inj hoj
    have huni : ∀ q ∈ pl, q.idx = i → q = p := fun q hq hqi => by
      have := stepAt_mem hfc.nodup hq
      rw [hqi, hp] at this
      exact (Option.some.inj this).symm
    have hR := hi.stp.rel
    have hltn : ∀ i' o' k v, PStep.float i' o' k v ∈ pl → r + k < A.next := fun i' o' k v hm => by
      have := (hfc.float _ _ _ _ hm).2.1
      have := hi.room
      omega
    have hdefput : ∀ d v', (a.put d v').defers = D := fun d v' => by
      have : (a.put d v').defers = a.defers := by unfold Act.put; split <;> rfl
      rw [this]; exact hi.defers
    -- a step that is no float: what is due stays due
    have next : ∀ (E' : Em) (a' : Act) (w' : World) (ms : List (Nat × List Value)), (∀ k' o' v' , p ≠ .float i o' k' v') → (∀ o need mats, p = .eff i o need mats → mats = ms) → (p.isEff = false → ms = []) →
        (∀ x ∈ ms, x ∈ pend) → ms.Pairwise (fun a b => a.1 ≠ b.1) → Stp E (matsA r ms A) w E' A' w' → FRel E' F' a'.tmps → a'.defers = D →
        RInv D pl ends r (countF pl) E0 A0 w0 (L.setIfInBounds i true) F' A' a' w' E' (pend.filter fun x => !(ms.any fun y => Nat.beq y.1 x.1)) := by
      intro E' a' w' ms hnf hme hmq hms hmn hs hf hd
      obtain ⟨g1, g2, g3⟩ := mats_ok hR hi.pnd hmn hms
      have hmem : ∀ {x : Nat × List Value}, x ∈ (pend.filter fun x => !(ms.any fun y => Nat.beq y.1 x.1)) ↔ x ∈ pend ∧ ∀ y ∈ ms, y.1 ≠ x.1 := fun {x} => by
        rw [List.mem_filter]
        refine and_congr Iff.rfl ?_
        simp only [Bool.not_eq_true', List.any_eq_false]
        exact ⟨fun h y hy q => h y hy (by rw [q]; simp), fun h y hy q => h y hy (Nat.eq_of_beq_eq_true q)⟩
      have hpend1 : Pend E (matsA r ms A) w r (pend.filter fun x => !(ms.any fun y => Nat.beq y.1 x.1)) := by
        refine ⟨fun k cs hk => ?_, fun k cs k' cs' B hk hk' => hi.pnd.apart k cs k' cs' B (hmem.1 hk).1 (hmem.1 hk').1⟩
        obtain ⟨h1, h2⟩ := hmem.1 hk
        obtain ⟨q1, q2, B, q3, q4, q5, q6⟩ := hi.pnd.row k cs h1
        refine ⟨q1, q2, B, q3, q4, q5, fun ho => ?_⟩
        rcases g3 B ho with q | ⟨k', cs', h3, h4⟩
        · exact q6 q
        · exact h2 (k', cs') h3 (hi.pnd.apart k' cs' k cs B (hms _ h3) h1 h4 q3)
      have hfl : ∀ {i' o' k v}, PStep.float i' o' k v ∈ pl → (L.setIfInBounds i true).getD i' false = true → L.getD i' false = true := fun {i' o' k v} hm hl => by
        by_cases hii : i = i'
        · subst hii
          have := huni _ hm rfl
          exact absurd this.symm (hnf _ _ _)
        · rwa [getD_set_ne false hii] at hl
      have hkeep : ∀ b, b < A.next → E'.blk b = E.blk b := fun b hb => hs.keep b (by rw [g2]; exact hb)
      refine ⟨(hi.stp.mats hi.pnd hi.big hmn hms).trans hs, hf, hd, hpend1.step g1 hs, ?_, ?_, ?_, ?_, ?_⟩
      · have := hs.next; rw [g2] at this; have := hi.room; omega
      · intro k cs B s hk hb
        obtain ⟨h1, _⟩ := hmem.1 hk
        obtain ⟨_, _, B', q3, _⟩ := hi.pnd.row k cs h1
        rw [hkeep _ (AH.obj_lt hR q3)] at hb
        exact hi.big k cs B s h1 hb
      · intro i' o' k v hm hl
        rw [hkeep _ (hltn _ _ _ _ hm)]
        exact hi.free i' o' k v hm (unl hl)
      · intro j o need mats hm hl k cs hk hall'
        have hji : j ≠ i := fun q => by subst q; rw [listed_of hri] at hl; cases hl
        refine hmem.2 ⟨hi.due j o need mats hm (unl hl) k cs hk fun i' o' v hm' => hfl hm' (hall' i' o' v hm'), fun y hy q => ?_⟩
        cases hpe : p.isEff with
        | false => rw [hmq hpe] at hy; cases hy
        | true =>
          cases p with
          | quiet _ _ _ => cases hpe
          | float _ _ _ _ => cases hpe
          | eff i2 o2 need2 mats2 =>
            have hi2 : i2 = i := hpi
            subst hi2
            have := hme _ _ _ rfl
            subst this
            exact hji (hfc.apart _ _ _ _ _ _ _ _ k cs y.2 hm hpm hk (by have q' : y.1 = k := q; rw [← q']; exact hy))
      · intro k cs hk hall'
        refine hmem.2 ⟨hi.ends k cs hk fun i' o' v hm' => hfl hm' (hall' i' o' v hm'), fun y hy q => ?_⟩
        cases hpe : p.isEff with
        | false => rw [hmq hpe] at hy; cases hy
        | true =>
          cases p with
          | quiet _ _ _ => cases hpe
          | float _ _ _ _ => cases hpe
          | eff i2 o2 need2 mats2 =>
            have hi2 : i2 = i := hpi
            subst hi2
            have := hme _ _ _ rfl
            subst this
            exact hfc.apartE _ _ _ _ k y.2 cs hpm (by have q' : y.1 = k := q; rw [← q']; exact hy) hk
    subst hoj
    unfold wpOp
    rw [hget]
    simp only
    cases p with
    | quiet i2 o b =>
      have hi2 : i2 = i := hpi
      subst hi2
      simp only [astep] at hstep
      split at hstep
      · rename_i hw
        rw [show (PStep.quiet i2 o b).oper = o from rfl, wantA_ok hi.fr hw]
        simp only [if_true]
        split at hstep
        · rename_i v A1 hop
          refine .inl (outS_ok hC (hval hi.stp) hi.fr hR (oper_ok hR hi.fr hop) (F' := F') (A' := A') hstep fun E' a' w' hs hf hd => ?_)
          exact ih _ F' A' a' w' E' _ hrest (next E' a' w' [] (fun _ _ _ h => by cases h) (fun _ _ _ h => by cases h) (fun _ => rfl) (by simp) .nil hs hf (by rw [hd]; exact hi.defers))
        · cases hstep
      · rename_i hw
        rw [show (PStep.quiet i2 o b).oper = o from rfl, wantA_ok hi.fr hw]
        simp only [Bool.false_eq_true, if_false]
        obtain ⟨h4, rfl⟩ := after_put hstep
        exact ih _ F' A' _ w E _ hrest (next E _ w [] (fun _ _ _ h => by cases h) (fun _ _ _ h => by cases h) (fun _ => rfl) (by simp) .nil (.refl hR) (hi.fr.put undef_rel h4) (hdefput _ _))
      · cases hstep
    | eff i2 o need mats =>
      have hi2 : i2 = i := hpi
      subst hi2
      have hms : ∀ x ∈ mats, x ∈ pend := fun x hx => by
        refine hi.due _ _ _ _ hpm (getD_both hun) x.1 x.2 hx fun i' o' v hm => ?_
        rcases hfc.mats _ _ _ _ x.1 x.2 hpm hx with ⟨_, h1, _⟩ | ⟨i3, o3, v3, h1, h2, h3⟩
        · cases h1
        · have := hfc.one _ _ _ _ _ _ _ hm h1
          subst this
          obtain ⟨e, he, hb, rfl⟩ := mem_direct.1 h3
          exact hall e he hb
      have hmn := hfc.matsN _ _ _ _ hpm
      obtain ⟨g1, g2, g3⟩ := mats_ok hR hi.pnd hmn hms
      simp only [astep] at hstep
      split at hstep
      · rename_i hw
        rw [show (PStep.eff i2 o need mats).oper = o from rfl, wantA_ok hi.fr hw]
        simp only [if_true]
        split at hstep
        · rename_i out hop
          refine .inl (outS_ok hC (hval hi.stp) hi.fr g1 (oper_ok g1 hi.fr hop) (F' := F') (A' := A') hstep fun E' a' w' hs hf hd => ?_)
          exact ih _ F' A' a' w' E' _ hrest (next E' a' w' mats (fun _ _ _ h => by cases h) (fun _ _ _ h => by cases h; rfl) (fun h => by cases h) hms hmn hs hf (by rw [hd]; exact hi.defers))
        · cases hstep
      · rename_i hw
        rw [show (PStep.eff i2 o need mats).oper = o from rfl, wantA_ok hi.fr hw]
        simp only [Bool.false_eq_true, if_false]
        obtain ⟨h4, rfl⟩ := after_put hstep
        exact ih _ F' _ _ w E _ hrest (next E _ w mats (fun _ _ _ h => by cases h) (fun _ _ _ h => by cases h; rfl) (fun h => by cases h) hms hmn (.refl g1) (hi.fr.put undef_rel h4) (hdefput _ _))
      · cases hstep
    | float i2 o k v =>
      have hi2 : i2 = i := hpi
      subst hi2
      obtain ⟨_, hk, hg, cs, hfo⟩ := hfc.float _ _ _ _ hpm
      obtain ⟨t, v', hrun, hone, hflat, hrel⟩ := float_run (P := P) hfo a w
      obtain ⟨h4, rfl⟩ := after_put hstep
      have hwant : Region.wanted o (yielded ops a.tmps) = true := by simp [Region.wanted, hg]
      rw [show (PStep.float i2 o k v).oper = o from rfl, hwant]
      simp only [if_true]
      left
      unfold Oper.wp
      rw [hrun]
      have hnone := hi.free _ _ _ _ hpm (getD_both hun)
      have hlt := hltn _ _ _ _ hpm
      obtain ⟨hR', hle⟩ := hR.addId (n := cs.length) (w' := w.alloc (.cells cs.toArray t)) (ob := .cells cs.toArray t) hnone hlt rfl
      have hblk : (E.add (r + k) w.heap.size 0 cs.length).blk (r + k) = some (w.heap.size, 0) := by simp [Em.add]
      have hroom : (E.add (r + k) w.heap.size 0 cs.length).room w.heap.size = cs.length := by simp [Em.add]
      have hoth : ∀ x, x ≠ r + k → (E.add (r + k) w.heap.size 0 cs.length).blk x = E.blk x := fun x hx => by simp [Em.add, hx]
      generalize E.add (r + k) w.heap.size 0 cs.length = E' at hR' hle hblk hroom hoth
      have hown : ∀ B, Owned E' A' B → Owned E A' B := by
        rintro B ⟨x, o', s, q1, q2, q3⟩
        by_cases hx : x = r + k
        · subst hx
          exact absurd (hR.none_at hnone q1) q2
        · rw [hoth x hx] at q3
          exact ⟨x, o', s, q1, q2, q3⟩
      have hnotnew : ¬ Owned E A' w.heap.size := by
        rintro ⟨x, o', s, q1, q2, q3⟩
        exact Nat.lt_irrefl _ (hR.lt _ _ _ q3)
      have hpne : ∀ k' cs', (k', cs') ∈ pend → r + k' ≠ r + k := fun k' cs' hk' q => by
        obtain ⟨_, _, B, q3, _⟩ := hi.pnd.row k' cs' hk'
        rw [q, hnone] at q3; cases q3
      have hw0 : w0.heap.size ≤ w.heap.size := hi.stp.size
      refine ih _ F' A' _ _ E' ((k, cs) :: pend) hrest ⟨⟨Em.le_trans hi.stp.le hle, hR', ?_, hi.stp.next, ?_, ?_, hi.stp.env.trans ⟨rfl, rfl, rfl⟩⟩, (hi.fr.mono hle).put (hrel E' (r + k) hblk hroom.symm) h4, hdefput _ _, ⟨?_, ?_⟩, hi.room, ?_, ?_, ?_, ?_⟩
      · simp; omega
      · intro b hb
        rw [hoth b (by omega)]; exact hi.stp.keep b hb
      · intro B hB hno
        obtain ⟨q1, q2⟩ := hi.stp.frame B hB hno
        refine ⟨?_, fun ho => q2 (hown B ho)⟩
        rw [← q1]
        exact heap_alloc_old w _ B (by omega)
      · intro k' cs' hk'
        rcases List.mem_cons.1 hk' with hk' | hk'
        · cases hk'
          refine ⟨hone, hflat, w.heap.size, hblk, ⟨t, (0, 0), heap_alloc_new w _, fun i _ => by simp⟩, hroom.symm, fun ho => hnotnew (hown _ ho)⟩
        · obtain ⟨q1, q2, B, q3, q4, q5, q6⟩ := hi.pnd.row k' cs' hk'
          have hBlt := hR.lt _ _ _ q3
          refine ⟨q1, q2, B, by rw [hoth _ (hpne _ _ hk')]; exact q3, q4.congr (heap_alloc_old w _ B hBlt), by rw [hle.room _ _ _ q3]; exact q5, fun ho => q6 (hown _ ho)⟩
      · intro k1 c1 k2 c2 B h1 h2 hb1 hb2
        rcases List.mem_cons.1 h1 with h1 | h1
        · cases h1
          rcases List.mem_cons.1 h2 with h2 | h2
          · cases h2; rfl
          · rw [hblk] at hb1; cases hb1
            rw [hoth _ (hpne _ _ h2)] at hb2
            exact absurd (hR.lt _ _ _ hb2) (Nat.lt_irrefl _)
        · rcases List.mem_cons.1 h2 with h2 | h2
          · cases h2
            rw [hblk] at hb2; cases hb2
            rw [hoth _ (hpne _ _ h1)] at hb1
            exact absurd (hR.lt _ _ _ hb1) (Nat.lt_irrefl _)
          · rw [hoth _ (hpne _ _ h1)] at hb1
            rw [hoth _ (hpne _ _ h2)] at hb2
            exact hi.pnd.apart _ _ _ _ B h1 h2 hb1 hb2
      · intro k' cs' B s hk' hb
        rcases List.mem_cons.1 hk' with hk' | hk'
        · cases hk'
          rw [hblk] at hb; cases hb; exact hw0
        · rw [hoth _ (hpne _ _ hk')] at hb
          exact hi.big _ _ _ _ hk' hb
      · intro i' o' k' v1 hm hl
        have hii : i' ≠ i2 := fun q => by subst q; rw [listed_of hri] at hl; cases hl
        have hkk : k' ≠ k := fun q => by subst q; exact hii (hfc.one _ _ _ _ _ _ _ hm hpm)
        rw [hoth _ (by omega)]
        exact hi.free i' o' k' v1 hm (unl hl)
      · intro j o' need mats hm hl k' cs' hk' hall'
        by_cases hkk : k' = k
        · subst hkk
          rcases hfc.mats _ _ _ _ k' cs' hm hk' with ⟨_, h1, _⟩ | ⟨i3, o3, v3, h1, h2, _⟩
          · cases h1
          · have := hfc.one _ _ _ _ _ _ _ h1 hpm
            subst this
            have := huni _ h1 rfl
            cases this
            rw [hfo] at h2; cases h2
            exact List.mem_cons_self
        · refine List.mem_cons_of_mem _ (hi.due j o' need mats hm (unl hl) k' cs' hk' fun i' o1 v1 hm' => ?_)
          have hii : i2 ≠ i' := fun q => by
            subst q
            have := huni _ hm' rfl
            cases this
            exact hkk rfl
          have := hall' i' o1 v1 hm'
          rwa [getD_set_ne false hii] at this
      · intro k' cs' hk' hall'
        by_cases hkk : k' = k
        · subst hkk
          rcases hfc.ends k' cs' hk' with ⟨_, h1⟩ | ⟨i3, o3, v3, h1, h2⟩
          · cases h1
          · have := hfc.one _ _ _ _ _ _ _ h1 hpm
            subst this
            have := huni _ h1 rfl
            cases this
            rw [hfo] at h2; cases h2
            exact List.mem_cons_self
        · refine List.mem_cons_of_mem _ (hi.ends k' cs' hk' fun i' o1 v1 hm' => ?_)
          have hii : i2 ≠ i' := fun q => by
            subst q
            have := huni _ hm' rfl
            cases this
            exact hkk rfl
          have := hall' i' o1 v1 hm'
          rwa [getD_set_ne false hii] at this
end
end Go.Proofs.YtohnakjamlhhkaaGreatDoor
