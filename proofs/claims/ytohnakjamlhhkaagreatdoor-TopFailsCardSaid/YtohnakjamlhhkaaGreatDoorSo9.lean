/- Operations, one by one: maps. -/
import Derived.Test.YtohnakjamlhhkaaGreatDoorSo8
namespace Go.Proofs.YtohnakjamlhhkaaGreatDoor
open Go
set_option linter.unusedVariables false
set_option linter.unusedSimpArgs false

section
variable {P : Program} {E : Em} {F : FT} {A : AH} {a : Act} {w : World} {out : Out}
theorem keyEq_int {j k : IntKind} {m n : Int} : keyEq (.int j m) (.int k n) = if j = k then some (m == n) else none := by
  unfold keyEq
  by_cases h : j = k
  · rw [if_pos h]; simp [h]
  · rw [if_neg h]; simp [h]
theorem keyEq_true {k x : Value} (h : keyEq k x = some true) : x = k := by
  cases k <;> cases x <;> first | (cases h; done) | skip
  · rw [keyEq_int] at h
    split at h
    · rename_i e; subst e; simp at h; rw [h]
    · cases h
  · simp [keyEq] at h; rw [h]
/-- A key that can be told apart stands for itself. -/
theorem keyEq_rel {k x x' : Value} {b : Bool} (h : keyEq k x = some b) (hx : VRel E x x') : x' = x := by
  cases k <;> cases x <;> first | (cases h; done) | skip
  · exact int_inv hx
  · exact str_inv hx
theorem keyT_rel {t : TypeId} {k k' : Value} (h : keyT P t k = true) (hk : VRel E k k') : k' = k := by
  unfold keyT at h
  split at h
  · exact int_inv hk
  · exact str_inv hk
  · cases h
theorem sameNow_eq {t : TypeId} {k : Value} (h : keyT P t k = true) : ∃ d, P.underlying t = some d ∧ ∀ x, Instr.sameNow d k x = keyEq k x := by
  unfold keyT at h
  split at h
  · rename_i i j n hu
    refine ⟨_, hu, fun x => ?_⟩
    cases x <;> first | rfl | skip
    rw [keyEq_int]; rfl
  · rename_i s hu
    refine ⟨_, hu, fun x => ?_⟩
    cases x <;> rfl
  · cases h
theorem checkKey_run {t : TypeId} {k : Value} (h : keyT P t k = true) (e : Bool) : (Instr.checkKey e 10000 t k).run P w = .ok () w := by
  have : ∀ n, (Instr.checkKey e (n + 1) t k).run P w = .ok () w := fun n => by
    unfold keyT at h
    split at h
    · rename_i i j m hu; simp [Instr.checkKey, run_und hu]
    · rename_i s hu; simp [Instr.checkKey, run_und hu]
    · cases h
  exact this 9999
theorem findNow_none {d : TypeDesc} {k : Value} : ∀ (l : List MapEntry) (i : Nat), (∀ e ∈ l, Instr.sameNow d k e.key = some false) → Instr.findNow d k l i = some none
  | [], i, _ => rfl
  | e :: l, i, h => by
    simp only [Instr.findNow, h e (by simp)]
    exact findNow_none l (i + 1) fun x hx => h x (by simp [hx])
theorem findNow_some {d : TypeDesc} {k : Value} {e : MapEntry} (he : Instr.sameNow d k e.key = some true) (l2 : List MapEntry) : ∀ (l1 : List MapEntry) (i : Nat), (∀ e ∈ l1, Instr.sameNow d k e.key = some false) → Instr.findNow d k (l1 ++ e :: l2) i = some (some (i + l1.length, e.val))
  | [], i, _ => by simp [Instr.findNow, he]
  | x :: l1, i, h => by
    simp only [List.cons_append, Instr.findNow, h x (by simp)]
    rw [findNow_some he l2 l1 (i + 1) fun y hy => h y (by simp [hy])]
    simp only [List.length_cons]
    congr 3; omega
theorem findA_none {k : Value} : ∀ {es : List (Value × Value)}, findA k es = some none → ∀ x ∈ es, keyEq k x.1 = some false
  | [], _, x, hx => by cases hx
  | (u, v) :: es, h, x, hx => by
    simp only [findA] at h
    split at h
    · cases h
    · rename_i hk
      rcases List.mem_cons.1 hx with rfl | hx
      · exact hk
      · exact findA_none h x hx
    · cases h
theorem findA_some {k v : Value} : ∀ {es : List (Value × Value)}, findA k es = some (some v) → ∃ e1 u e2, es = e1 ++ (u, v) :: e2 ∧ keyEq k u = some true ∧ ∀ x ∈ e1, keyEq k x.1 = some false
  | [], h => by cases h
  | (u, v') :: es, h => by
    simp only [findA] at h
    split at h
    · rename_i hk
      cases h
      exact ⟨[], u, es, rfl, hk, by simp⟩
    · rename_i hk
      obtain ⟨e1, u', e2, rfl, h2, h3⟩ := findA_some h
      refine ⟨(u, v') :: e1, u', e2, rfl, h2, fun x hx => ?_⟩
      rcases List.mem_cons.1 hx with rfl | hx
      · exact hk
      · exact h3 x hx
    · cases h
theorem ERel.append_inv {E : Em} : ∀ {e1 e2 : List (Value × Value)} {l : List MapEntry}, ERel E (e1 ++ e2) l → ∃ l1 l2, l = l1 ++ l2 ∧ ERel E e1 l1 ∧ ERel E e2 l2
  | [], e2, l, h => ⟨[], l, rfl, .nil, h⟩
  | (k, v) :: e1, e2, _, .cons _ _ k' v' b _ ents hk hv h => by
    obtain ⟨l1, l2, rfl, h1, h2⟩ := ERel.append_inv h
    exact ⟨⟨k', v', b⟩ :: l1, l2, rfl, .cons _ _ _ _ _ _ _ hk hv h1, h2⟩
theorem ERel.append {E : Em} {e1 e2 : List (Value × Value)} {l1 l2 : List MapEntry} (h1 : ERel E e1 l1) (h2 : ERel E e2 l2) : ERel E (e1 ++ e2) (l1 ++ l2) := by
  induction h1 with
  | nil => exact h2
  | cons k v k' v' b es ents hk hv _ ih => exact .cons _ _ _ _ _ _ _ hk hv ih
theorem ERel.keys {E : Em} {es : List (Value × Value)} {l : List MapEntry} (h : ERel E es l) {k : Value} (hk : ∀ x ∈ es, keyEq k x.1 = some false) : ∀ e ∈ l, keyEq k e.key = some false := by
  induction h with
  | nil => intro e he; cases he
  | cons u v u' v' b es ents hu hv _ ih =>
    intro e he
    rcases List.mem_cons.1 he with rfl | he
    · have h1 := hk (u, v) (by simp)
      show keyEq k u' = _
      rw [keyEq_rel h1 hu]; exact h1
    · exact ih (fun x hx => hk x (by simp [hx])) e he
theorem ERel.length {E : Em} {es : List (Value × Value)} {l : List MapEntry} (h : ERel E es l) : es.length = l.length := by
  induction h with
  | nil => rfl
  | cons _ _ _ _ _ _ _ _ _ _ ih => simp [ih]
/-- A key that is there, and where. -/
theorem MRel.foundAt {e1 e2 : List (Value × Value)} {ents : List MapEntry} {u v : Value} (h : MRel E (e1 ++ (u, v) :: e2) ents) (h1 : keyEq u u = some true) (h2 : ∀ x ∈ e1, keyEq u x.1 = some false) :
    ∃ m1 m2 v' b, ents = m1 ++ ⟨u, v', b⟩ :: m2 ∧ VRel E v v' ∧ (∀ e ∈ m1, keyEq u e.key = some false) ∧ ∃ l', ERel E (e1 ++ e2) l' ∧ l'.Perm (m1 ++ m2) := by
  obtain ⟨⟨l, h3, h4⟩, h5⟩ := h
  have h6 : ∀ x ∈ e2, keyEq u x.1 = some false := by
    have := (List.pairwise_append.1 h5).2.1
    exact fun x hx => (List.pairwise_cons.1 this).1 x hx
  obtain ⟨l1, l2, rfl, h7, h8⟩ := h3.append_inv
  cases h8 with
  | cons _ _ k' v' b _ l2 hk hv h8 =>
    have hk' := keyEq_rel h1 hk
    subst hk'
    have hmem : (⟨k', v', b⟩ : MapEntry) ∈ ents := h4.subset (by simp)
    obtain ⟨m1, m2, rfl⟩ := List.append_of_mem hmem
    have hp : (l1 ++ l2).Perm (m1 ++ m2) := by
      have p1 : (⟨k', v', b⟩ :: (l1 ++ l2)).Perm (⟨k', v', b⟩ :: (m1 ++ m2)) := (List.perm_middle.symm.trans h4).trans List.perm_middle
      exact (List.perm_cons _).1 p1
    refine ⟨m1, m2, v', b, rfl, hv, ?_, l1 ++ l2, h7.append h8, hp⟩
    intro e he
    have : e ∈ l1 ++ l2 := hp.symm.subset (by simp [he])
    refine (h7.append h8).keys (k := k') ?_ e this
    intro x hx
    rcases List.mem_append.1 hx with hx | hx
    · exact h2 x hx
    · exact h6 x hx
theorem MRel.found {es : List (Value × Value)} {ents : List MapEntry} (h : MRel E es ents) {k v : Value} (hf : findA k es = some (some v)) :
    ∃ m1 m2 v' b, ents = m1 ++ ⟨k, v', b⟩ :: m2 ∧ VRel E v v' ∧ (∀ e ∈ m1, keyEq k e.key = some false) ∧ keyEq k k = some true := by
  obtain ⟨e1, u, e2, rfl, h1, h2⟩ := findA_some hf
  have hu := keyEq_true h1
  subst hu
  obtain ⟨m1, m2, v', b, g1, g2, g3, _⟩ := h.foundAt h1 h2
  exact ⟨m1, m2, v', b, g1, g2, g3, h1⟩
theorem MRel.lacks {es : List (Value × Value)} {ents : List MapEntry} (h : MRel E es ents) {k : Value} (hf : findA k es = some none) : ∀ e ∈ ents, keyEq k e.key = some false := by
  obtain ⟨⟨l, h3, h4⟩, h5⟩ := h
  intro e he
  exact h3.keys (findA_none hf) e (h4.symm.subset he)
/-- What the model finds. -/
theorem findKey_run {t : TypeId} {k : Value} (hk : keyT P t k = true) {es : List (Value × Value)} {ents : List MapEntry} (h : MRel E es ents) {r : Option Value} (hf : findA k es = some r) :
    match r with
    | none => (Instr.findKey t k ents).run P w = .ok none w
    | some v => ∃ v' i, (Instr.findKey t k ents).run P w = .ok (some (i, v')) w ∧ VRel E v v' := by
  obtain ⟨d, hu, hs⟩ := sameNow_eq hk
  cases r with
  | none =>
    have := findNow_none (d := d) (k := k) ents 0 fun e he => by rw [hs]; exact h.lacks hf e he
    simp [Instr.findKey, run_und hu, this]
  | some v =>
    obtain ⟨m1, m2, v', b, rfl, hv, h1, h2⟩ := h.found hf
    have := findNow_some (d := d) (k := k) (e := ⟨k, v', b⟩) (by rw [hs]; exact h2) m2 m1 0 fun e he => by rw [hs]; exact h1 e he
    exact ⟨v', 0 + m1.length, by simp [Instr.findKey, run_und hu, this], hv⟩
theorem mapK_inv {t k e : TypeId} (h : mapK P t = some (k, e)) : P.underlying t = some (.map k e) := by
  unfold mapK at h
  split at h
  · rename_i hu; cases h; exact hu
  · cases h
theorem map_inv {r : Nat} {v' : Value} (h : VRel E (.map (some r)) v') : ∃ R, E.blk r = some (R, 0) ∧ v' = .map (some R) := by
  cases h with | map r R hb => exact ⟨R, hb, rfl⟩
theorem Rel.mapAt (hR : Rel E A w) {r R : Nat} {es : List (Value × Value)} (ho : A.obj r = some (.map es)) (hb : E.blk r = some (R, 0)) : ∃ ents clock, w.heap[R]? = some (.map ents clock) ∧ MRel E es ents.toList := by
  obtain ⟨R', ents, clock, h1, h2, h3⟩ := hR.map r es ho
  rw [hb] at h1; cases h1
  exact ⟨ents, clock, h2, h3⟩
theorem run_getObj {r : Nat} {o : Obj} (h : w.heap[r]? = some o) (hn : ∀ c e f, o ≠ .cells c e f) : (getObj r).run P w = .ok o w := by
  cases o <;> first | exact absurd rfl (hn _ _ _) | simp only [getObj, Sem.run, h]
theorem run_setObj {r : Nat} {o o' : Obj} (h : w.heap[r]? = some o) (hn : ∀ c e f, o ≠ .cells c e f) : (setObj r o').run P w = .ok () { w with heap := w.heap.setIfInBounds r o' } := by
  cases o <;> first | exact absurd rfl (hn _ _ _) | simp only [setObj, Sem.run, h]
/-- The rest of a lookup, when the entries are there. -/
def lookRest (kt e : TypeId) (k : Value) (ok : Bool) (ents : Array MapEntry) : Sem Value := do
  Instr.checkKey ents.isEmpty 10000 kt k
  let (v, okk) ← match ← Instr.findKey kt k ents.toList with
    | some (_, v) => pure (v, true)
    | none => do pure (← zeroValue e, false)
  pure (if ok then .tuple #[v, .bool okk] else v)
theorem lookA_run (hR : Rel E A w) {t kt e : TypeId} (hu : P.underlying t = some (.map kt e)) {xv xv' k : Value} (hx : VRel E xv xv') {r : Option Value} (h : lookA A xv k = some r) :
    ∃ (ents : Array MapEntry) (es : List (Value × Value)), MRel E es ents.toList ∧ findA k es = some r ∧ ∀ ok, (Instr.lookup t xv' k ok).run P w = (lookRest kt e k ok ents).run P w := by
  unfold lookA at h
  split at h
  · cases h
    cases hx
    exact ⟨#[], [], MRel.nil, rfl, fun ok => by simp only [Instr.lookup, Sem.run_bind, run_und hu, Result.andThen_ok, Sem.run_pure, lookRest]; rfl⟩
  · rename_i r'
    obtain ⟨R, hb, rfl⟩ := map_inv hx
    split at h
    · rename_i es ho
      obtain ⟨ents, clock, hw, hmr⟩ := hR.mapAt ho hb
      refine ⟨ents, es, hmr, h, fun ok => ?_⟩
      simp only [Instr.lookup, Sem.run_bind, run_und hu, Result.andThen_ok, run_getObj hw (by simp), Sem.run_pure, lookRest]
      rfl
    · cases h
  · cases h
theorem ok_lookup (hR : Rel E A w) (hF : FRel E F a.tmps) {t : TypeId} {x ix : Operand} {ok : Bool} (h : opLookup P F A t x ix ok = some out) :
    OutOK P E A w ((do pure (Next.value (← Instr.lookup t (a.eval x) (a.eval ix) ok)) : Sem Next).run P w) out := by
  unfold opLookup at h
  split at h
  · rename_i xv k kt e hx hk hm
    have hu := mapK_inv hm
    have hxv := evC_rel hF (eval_some hx)
    have hkv := evC_rel hF (eval_some hk)
    split at h
    · rename_i hkt
      rw [keyT_rel hkt hkv]
      split at h
      · rename_i v hl
        cases h
        obtain ⟨ents, es, hmr, hf, hrun⟩ := lookA_run hR hu hxv hl
        obtain ⟨v', i, h1, h2⟩ := findKey_run (w := w) hkt hmr hf
        refine .same hR (v' := pairV ok v' true) ?_ (run_value ?_)
        · cases ok
          · exact h2
          · exact .tuple _ _ (.cons _ _ _ _ h2 (.cons _ _ _ _ (.bool _) .nil))
        · rw [hrun]
          simp only [lookRest, Sem.run_bind, checkKey_run hkt, Result.andThen_ok, h1, Sem.run_pure]
          cases ok <;> rfl
      · rename_i z hl hz
        split at h
        · rename_i hfl
          cases h
          obtain ⟨ents, es, hmr, hf, hrun⟩ := lookA_run hR hu hxv hl
          have h1 := findKey_run (w := w) hkt hmr hf
          simp only at h1
          refine .same hR (v' := pairV ok z false) ?_ (run_value ?_)
          · cases ok
            · exact flat_refl hfl
            · exact .tuple _ _ (.cons _ _ _ _ (flat_refl hfl) (.cons _ _ _ _ (.bool _) .nil))
          · rw [hrun]
            simp only [lookRest, Sem.run_bind, checkKey_run hkt, Result.andThen_ok, h1, Sem.run_pure, run_zero hz]
            cases ok <;> rfl
        · cases h
      · cases h
    · cases h
  · cases h
theorem findA_of_upd {k v : Value} : ∀ {es es' : List (Value × Value)}, updA k v es = some es' →
    (findA k es = some none ∧ es' = es ++ [(k, v)]) ∨ (∃ u e1 w e2, findA k es = some (some w) ∧ es = e1 ++ (u, w) :: e2 ∧ es' = e1 ++ (k, v) :: e2 ∧ keyEq k u = some true ∧ ∀ x ∈ e1, keyEq k x.1 = some false)
  | [], es', h => by cases h; exact .inl ⟨rfl, rfl⟩
  | (u, x) :: es, es', h => by
    simp only [updA] at h
    split at h
    · rename_i hk
      cases h
      exact .inr ⟨u, [], x, es, by simp [findA, hk], rfl, rfl, hk, by simp⟩
    · rename_i hk
      split at h
      · rename_i r hr
        cases h
        rcases findA_of_upd hr with ⟨h1, rfl⟩ | ⟨u', e1, w, e2, h1, rfl, rfl, h2, h3⟩
        · exact .inl ⟨by simp [findA, hk, h1], rfl⟩
        · refine .inr ⟨u', (u, x) :: e1, w, e2, by simp [findA, hk, h1], rfl, rfl, h2, fun y hy => ?_⟩
          rcases List.mem_cons.1 hy with rfl | hy
          · exact hk
          · exact h3 y hy
      · cases h
    · cases h
theorem beq_symm {α : Type} [BEq α] [LawfulBEq α] (a b : α) : (a == b) = (b == a) := by
  rw [Bool.eq_iff_iff]; simp only [beq_iff_eq]; exact eq_comm
theorem keyEq_symm {k x : Value} {b : Bool} (h : keyEq k x = some b) : keyEq x k = some b := by
  cases k <;> cases x <;> first | (cases h; done) | skip
  · rw [keyEq_int] at h ⊢
    split at h
    · rename_i e; subst e; rw [if_pos rfl, beq_symm]; exact h
    · cases h
  · rename_i s s'
    show some (s' == s) = some b
    rw [beq_symm]; exact h
theorem keyEq_refl {t : TypeId} {k : Value} (h : keyT P t k = true) : keyEq k k = some true := by
  unfold keyT at h
  split at h
  · rw [keyEq_int]; simp
  · simp [keyEq]
  · cases h
theorem stays_run {t : TypeId} {k : Value} (h : keyT P t k = true) : (Instr.keyThatStays k k).run P w = .ok k w := by
  unfold keyT at h
  split at h
  · simp [Instr.keyThatStays, Instr.sameBits]
  · simp [Instr.keyThatStays, Instr.sameBits]
  · cases h
theorem sameNow_of {t : TypeId} {k : Value} (hk : keyT P t k = true) {l : List MapEntry} (h : ∀ e ∈ l, keyEq k e.key = some false) : ∃ d, P.underlying t = some d ∧ ∀ e ∈ l, Instr.sameNow d k e.key = some false := by
  obtain ⟨d, hu, hs⟩ := sameNow_eq hk
  exact ⟨d, hu, fun e he => by rw [hs]; exact h e he⟩
theorem ok_mapUpdate (hR : Rel E A w) (hF : FRel E F a.tmps) {t : TypeId} {m k x : Operand} (h : opMapUpdate P F A t m k x = some out) :
    OutOK P E A w ((do Instr.mapUpdate t (a.eval m) (a.eval k) (a.eval x); pure Next.skip : Sem Next).run P w) out := by
  unfold opMapUpdate at h
  split at h
  · rename_i r kv xv kt e hm hk hx hmk
    have hu := mapK_inv hmk
    split at h
    · rename_i es ho hkt
      split at h
      · rename_i es' hup
        cases h
        obtain ⟨R, hb, e1⟩ := map_inv (evC_rel hF (eval_some hm))
        have e2 := keyT_rel hkt (evC_rel hF (eval_some hk))
        have hxv := evC_rel hF (eval_some hx)
        obtain ⟨ents, clock, hw, hmr⟩ := hR.mapAt ho hb
        rw [e1, e2]
        rcases findA_of_upd hup with ⟨h1, rfl⟩ | ⟨u, f1, y, f2, h1, rfl, rfl, h2, h3⟩
        · have hlack := hmr.lacks h1
          obtain ⟨d, hd, hs⟩ := sameNow_of hkt hlack
          have hfn := findNow_none ents.toList 0 hs
          refine ⟨E, { w with heap := w.heap.setIfInBounds R (.map (ents.push ⟨kv, a.eval x, clock⟩) (clock + 1)) }, Stp.mapPut hR ho hb rfl ?_, run_unit ?_⟩
          · obtain ⟨⟨l, g1, g2⟩, g3⟩ := hmr
            refine ⟨⟨l ++ [⟨kv, a.eval x, clock⟩], g1.append (.cons _ _ _ _ _ _ _ ?_ hxv .nil), by simpa using g2.append_right _⟩, ?_⟩
            · have := evC_rel hF (eval_some hk); rw [e2] at this; exact this
            · refine List.pairwise_append.2 ⟨g3, by simp, fun p hp q hq => ?_⟩
              simp at hq; subst hq
              exact keyEq_symm (findA_none h1 p hp)
          · simp only [Instr.mapUpdate, Sem.run_bind, run_und hu, Result.andThen_ok, run_getObj hw (by simp), checkKey_run hkt, Instr.findKey, run_und hd, hfn, Sem.run_pure, run_setObj hw (by simp)]
        · have hu' := keyEq_true h2
          subst hu'
          obtain ⟨m1, m2, v', b, g2, g3, g4, l', g8', g9'⟩ := hmr.foundAt h2 h3
          have g7 := h2
          obtain ⟨d, hd, hs⟩ := sameNow_eq hkt
          have hfn := findNow_some (d := d) (k := u) (e := ⟨u, v', b⟩) (by rw [hs]; exact g7) m2 m1 0 fun e he => by rw [hs]; exact g4 e he
          rw [← g2] at hfn
          simp only [Nat.zero_add] at hfn
          have hget : ents[m1.length]? = some ⟨u, v', b⟩ := by
            have : ents.toList[m1.length]? = some ⟨u, v', b⟩ := by rw [g2]; simp
            simpa using this
          refine ⟨E, { w with heap := w.heap.setIfInBounds R (.map (ents.modify m1.length fun e => { e with key := u, val := a.eval x }) clock) }, Stp.mapPut hR ho hb rfl ?_, run_unit ?_⟩
          · have hnew : (ents.modify m1.length fun e => { e with key := u, val := a.eval x }).toList = m1 ++ ⟨u, a.eval x, b⟩ :: m2 := by
              rw [Array.toList_modify, g2]
              apply List.ext_getElem?
              intro i
              rw [List.getElem?_modify]
              by_cases hi : m1.length = i
              · subst hi; simp
              · simp only [if_neg hi]
                rcases Nat.lt_or_ge i m1.length with hlt | hge
                · simp [List.getElem?_append_left hlt]
                · rw [List.getElem?_append_right hge, List.getElem?_append_right hge]
                  cases hq : i - m1.length with
                  | zero => omega
                  | succ q => simp
            rw [hnew]
            have huv := evC_rel hF (eval_some hk)
            rw [e2] at huv
            obtain ⟨l1, l2, rfl, q1, q2⟩ := g8'.append_inv
            refine ⟨⟨l1 ++ ⟨u, a.eval x, b⟩ :: l2, q1.append (.cons _ _ _ _ _ _ _ huv hxv q2), ?_⟩, ?_⟩
            · exact List.perm_middle.trans ((List.Perm.cons _ g9').trans List.perm_middle.symm)
            · have := hmr.keys
              rw [List.pairwise_append] at this ⊢
              obtain ⟨p1, p2, p3⟩ := this
              rw [List.pairwise_cons] at p2 ⊢
              exact ⟨p1, ⟨p2.1, p2.2⟩, fun z hz q hq => by
                rcases List.mem_cons.1 hq with rfl | hq
                · exact p3 z hz (u, y) (by simp)
                · exact p3 z hz q (by simp [hq])⟩
          · simp only [Instr.mapUpdate, Sem.run_bind, run_und hu, Result.andThen_ok, run_getObj hw (by simp), checkKey_run hkt, Instr.findKey, run_und hd, hfn, Sem.run_pure, hget, Option.map_some, Option.getD_some, stays_run hkt, run_setObj hw (by simp)]
      · cases h
    · cases h
  · cases h
end
end Go.Proofs.YtohnakjamlhhkaaGreatDoor
