/- lines.commands: one round of the loop. -/
import Derived.Test.YtohnakjamlhhkaaGreatDoorKI
namespace Go.Proofs.YtohnakjamlhhkaaGreatDoor
open Go Go.Proofs Go.RowKit
set_option maxRecDepth 100000
set_option linter.unusedVariables false
set_option linter.unusedSimpArgs false

def askV (n k : Nat) : Value := .agg #[.int .i64 (3 + (wordsOf k : Int)), .func (.func 214) #[] #[.pointer (some ⟨n + 1, 0, none⟩), .pointer (some ⟨n + 2, 0, none⟩), .pointer (some ⟨n, 0, none⟩)]]
structure AskRows (w : World) (pb po n k : Nat) : Prop where
  r0 : w.heap[n]? = some (.cells #[.pointer (some ⟨pb, po, none⟩)] 119 (0, 0))
  r1 : w.heap[n + 1]? = some (.cells #[.int .i64 k] 3 (0, 0))
  r2 : w.heap[n + 2]? = some (.cells #[.int .i64 (wordsOf k)] 3 (0, 0))
/-- All that stood stands, but for one block. -/
structure GB (R : Nat) (w w' : World) : Prop where
  size : w.heap.size ≤ w'.heap.size
  old : ∀ B, B < w.heap.size → B ≠ R → w'.heap[B]? = w.heap[B]?
  env : Env w w'
theorem GB.grew {R : Nat} {w w1 w2 : World} (h : GB R w w1) (g : Grew w1 w2) : GB R w w2 :=
  ⟨Nat.le_trans h.size g.size, fun B hB hn => (g.old B (Nat.lt_of_lt_of_le hB h.size)).trans (h.old B hB hn), h.env.trans g.env⟩
theorem GB.trans {R : Nat} {w w1 w2 : World} (h : GB R w w1) (g : GB R w1 w2) : GB R w w2 :=
  ⟨Nat.le_trans h.size g.size, fun B hB hn => (g.old B (Nat.lt_of_lt_of_le hB h.size) hn).trans (h.old B hB hn), h.env.trans g.env⟩
theorem AskRows.congr {w w' : World} {pb po n k : Nat} (h : AskRows w pb po n k) (hw : ∀ i, i < 3 → w'.heap[n + i]? = w.heap[n + i]?) : AskRows w' pb po n k :=
  ⟨(hw 0 (by omega)).trans h.r0, (hw 1 (by omega)).trans h.r1, (hw 2 (by omega)).trans h.r2⟩
def val5 (pb po R k : Nat) : Nat → Value
  | 0 => .map (some R)
  | 1 => .int .i64 k
  | 2 => .string (nameOf k)
  | 3 => .pointer (some ⟨pb, po, none⟩)
  | 4 => .int .i64 k
  | 5 => .int .i64 (wordsOf k)
  | _ => undef
def rows5 : List (Op × Option Nat) := [(.move (.tmp 3), some 55), (.move (.tmp 4), some 56), (.call { callee := .value (.func 166), args := #[.tmp 56], argTypes := #[3] }, some 57), (.load 119 (.tmp 1), some 58),
  (.move (.tmp 4), some 59), (.move (.tmp 5), some 60), (.call { callee := .value (.func 165), args := #[.tmp 58, .tmp 59, .tmp 60], argTypes := #[119, 3, 3] }, some 61), (.mapUpdate 178 (.tmp 55) (.tmp 57) (.tmp 61), none)]
theorem rows5_eq : ops5.toList.map (fun o => (o.op, o.dst)) = rows5 := by kernel_rfl
theorem rows5_plain : (ops5.toList.map fun o => o.guard) = List.replicate 8 none := by kernel_rfl
theorem size5 : ops5.size = 8 := by kernel_rfl
theorem deps5 : depsB ops5.toList 0 = true := by kernel_rfl
structure R5 (D : List Deferred) (w4 : World) (a0 : Act) (pb po qb R k : Nat) (l : Specs) (L : Array Bool) (a : Act) (w : World) : Prop where
  lsz : L.size = 8
  sz : a.tmps.size = 63
  df : a.defers = D
  kp : ∀ n, n < 55 → a.tmps[n]? = a0.tmps[n]?
  gb : GB R w4 w
  f : ∀ i, i < 6 → L.getD i false = true → a.tmps[55 + i]? = some (val5 pb po R k i)
  lo : L.getD 6 false = false → L.getD 7 false = false ∧ MapHas w R l
  hi : L.getD 6 false = true → ∃ n, w4.heap.size ≤ n ∧ n + 4 ≤ w.heap.size ∧ AskRows w pb po n k ∧ a.tmps[61]? = some (askV n k) ∧ (L.getD 7 false = false → MapHas w R l) ∧ (L.getD 7 false = true → MapHas w R ((nameOf k, (· = askV n k)) :: l))
section
variable {D : List Deferred} {w4 : World} {a0 : Act} {pb po qb R k : Nat} {l : Specs} {L : Array Bool} {a : Act} {w : World} {Q : Exit → Act → World → Prop}
theorem dep_of {ops : Array Oper} {i j : Nat} (hr : i ∈ Region.ready .any ops L) (hj : (match ops[i]? with | some o => memN (directOn o) j | none => false) = true) : L.getD j false = true := by
  obtain ⟨_, o, ho, hall⟩ := mem_ready.1 hr
  rw [ho] at hj
  simp only at hj
  have hm := memN_eq.1 hj
  simp only [directOn, List.mem_filterMap] at hm
  obtain ⟨e, he, h2⟩ := hm
  split at h2
  · rename_i hb
    cases h2
    exact hall e (by simpa using he) hb
  · cases h2
theorem wpOp_of' {ops : Array Oper} {i : Nat} {o : Oper} (ho : ops[i]? = some o) (hg : o.guard = none) {K : Act → World → Prop} (h : o.wp Tryz.prog a w K Q) : wpOp Tryz.prog ops Q i K a w := by
  unfold wpOp
  rw [ho]
  simp only [Region.wanted, hg]
  exact .inl h
theorem MapHas.lt {w : World} (h : MapHas w R l) : R < w.heap.size := by
  obtain ⟨ents, clock, l', q1, _⟩ := h
  exact (Array.getElem?_eq_some_iff.1 q1).1
theorem R5.put (h : R5 D w4 a0 pb po qb R k l L a w) {i : Nat} (hi : i < 6) {w' : World} (hg : Grew w w') : R5 D w4 a0 pb po qb R k l (L.setIfInBounds i true) (a.put (some (55 + i)) (val5 pb po R k i)) w' := by
  have hget : ∀ j, i ≠ j → (L.setIfInBounds i true).getD j false = L.getD j false := fun j hj => getD_set_ne false hj
  have hmap : MapHas w R l → MapHas w' R l := fun m => m.congr (hg.old R m.lt)
  refine ⟨by simp [h.lsz], by simp [Act.put, h.sz], h.df, fun n hn => ?_, h.gb.grew hg, fun j hj hl => ?_, fun hl => ?_, fun hl => ?_⟩
  · rw [put_get, if_neg (by omega)]; exact h.kp n hn
  · by_cases hij : i = j
    · subst hij
      rw [put_get, if_pos ⟨rfl, by rw [h.sz]; omega⟩]
    · rw [hget j hij] at hl
      rw [put_get, if_neg (by omega)]
      exact h.f j hj hl
  · rw [hget 6 (by omega)] at hl
    rw [hget 7 (by omega)]
    exact ⟨(h.lo hl).1, hmap (h.lo hl).2⟩
  · rw [hget 6 (by omega)] at hl
    rw [hget 7 (by omega)]
    obtain ⟨n, g1, g2, g3, g4, g5, g6⟩ := h.hi hl
    refine ⟨n, g1, Nat.le_trans g2 hg.size, g3.congr fun j hj => hg.old _ (by omega), by rw [put_get, if_neg (by omega)]; exact g4, fun q => hmap (g5 q), fun q => ?_⟩
    have := g6 q
    exact this.congr (hg.old R this.lt)
theorem R5.pure (h : R5 D w4 a0 pb po qb R k l L a w) {i : Nat} (hi : i < 6) {X : Op} (hrow : rows5[i]? = some (X, some (55 + i))) (hrun : ∀ o : Oper, o.op = X → (execOp a.eval o).run Tryz.prog w = .ok (.value (val5 pb po R k i)) w) :
    wpOp Tryz.prog ops5 Q i (R5 D w4 a0 pb po qb R k l (L.setIfInBounds i true)) a w := by
  obtain ⟨o, ho, hop, hd, hg⟩ := rowIn rows5_eq rows5_plain hrow
  refine wpOp_of' ho hg (wp_val (hrun o hop) ?_)
  rw [hd]
  exact h.put hi (.refl w)
theorem mv_run {t : Nat} {x : Value} (h : a.tmps[t]? = some x) : ∀ o : Oper, o.op = .move (.tmp t) → (execOp a.eval o).run Tryz.prog w = .ok (.value x) w := by
  intro o ho
  simp only [execOp, ho, eval_of h]; rfl
theorem ld_run {t : Nat} {b : Addr} {x : Value} (h : a.tmps[t]? = some (.pointer (some b))) (hc : w.cell? b = some x) : ∀ o : Oper, o.op = .load 119 (.tmp t) → (execOp a.eval o).run Tryz.prog w = .ok (.value x) w := by
  intro o ho
  have e := eval_of h
  simp only [execOp, ho, e]
  refine run_value ?_
  simp [Instr.loadAt, Instr.sureAddr, loadVar, Tryz.isAgg119, run_load, hc]
theorem R5.name (h : R5 D w4 a0 pb po qb R k l L a w) (hk1 : 1 ≤ k) (hk2 : k ≤ 8) (hr : 2 ∈ Region.ready .any ops5 L) : wpOp Tryz.prog ops5 Q 2 (R5 D w4 a0 pb po qb R k l (L.setIfInBounds 2 true)) a w := by
  obtain ⟨o, ho, hop, hd, hg⟩ := rowIn rows5_eq rows5_plain (k := 2) (X := .call { callee := .value (.func 166), args := #[.tmp 56], argTypes := #[3] }) (d := some 57) (by rfl)
  have h1 := h.f 1 (by omega) (dep_of hr (j := 1) (by kernel_rfl))
  refine wpOp_of' ho hg ?_
  unfold Oper.wp
  have hrun : (execOp a.eval o).run Tryz.prog w = (callFunc 166 #[.int .i64 k]).run Tryz.prog w := by
    have e : a.eval (.tmp 56) = .int .i64 k := eval_of h1
    simp only [execOp, hop, resolve, Deferred.ofValue, invoke, pure_bind, Sem.run_bind, Sem.run_pure, Result.andThen_ok, Act.eval]
    simp only [Act.eval] at e
    simp [e]
    exact e
  rw [hrun]
  refine name_does k hk1 hk2 w o a _ Q fun v' w' hw => ?_
  rw [hd, hw.1]
  exact h.put (i := 2) (by omega) hw.2
theorem R5.ask (h : R5 D w4 a0 pb po qb R k l L a w) (hr : 6 ∈ Region.ready .any ops5 L) : wpOp Tryz.prog ops5 Q 6 (R5 D w4 a0 pb po qb R k l (L.setIfInBounds 6 true)) a w := by
  obtain ⟨o, ho, hop, hd, hg⟩ := rowIn rows5_eq rows5_plain (k := 6) (X := .call { callee := .value (.func 165), args := #[.tmp 58, .tmp 59, .tmp 60], argTypes := #[119, 3, 3] }) (d := some 61) (by rfl)
  have h3 := h.f 3 (by omega) (dep_of hr (j := 3) (by kernel_rfl))
  have h4 := h.f 4 (by omega) (dep_of hr (j := 4) (by kernel_rfl))
  have h5 := h.f 5 (by omega) (dep_of hr (j := 5) (by kernel_rfl))
  have hf : L.getD 6 false = false := getD_both (mem_ready.1 hr).1
  obtain ⟨l7, lm⟩ := h.lo hf
  refine wpOp_of' ho hg ?_
  unfold Oper.wp
  have hrun : (execOp a.eval o).run Tryz.prog w = (callFunc 165 #[.pointer (some ⟨pb, po, none⟩), .int .i64 k, .int .i64 (wordsOf k)]).run Tryz.prog w := by
    have e3 : a.eval (.tmp 58) = .pointer (some ⟨pb, po, none⟩) := eval_of h3
    have e4 : a.eval (.tmp 59) = .int .i64 k := eval_of h4
    have e5 : a.eval (.tmp 60) = .int .i64 (wordsOf k) := eval_of h5
    simp only [execOp, hop, resolve, Deferred.ofValue, invoke, pure_bind, Sem.run_bind, Sem.run_pure, Result.andThen_ok, Act.eval]
    simp only [Act.eval] at e3 e4 e5
    simp [e3, e4, e5]
    exact ⟨e3, e4, e5⟩
  rw [hrun]
  have hwk : (wordsOf k : Int) ≤ 100 := by
    unfold wordsOf; split <;> decide
  have hdoes := does_of_calls Tryz.func165 (by rfl) (by kernel_rfl) (args := #[.pointer (some ⟨pb, po, none⟩), .int .i64 k, .int .i64 (wordsOf k)]) (w := w) (R := fun v' w' => v' = askV w.heap.size k ∧ w.heap.size + 4 = w'.heap.size ∧ Grew w w' ∧ AskRows w' pb po w.heap.size k) fun R' hR' => by
    refine (asks_calls pb po k (wordsOf k) (by omega) hwk w).mono fun e w' ⟨he, hh, hen⟩ => ?_
    subst he
    refine hR' _ _ ⟨rfl, by rw [hh]; simp, ⟨by rw [hh]; simp only [Array.size_push]; omega, fun B hB => ?_, hen⟩, ⟨?_, ?_, ?_⟩⟩
    · rw [hh]
      rw [Array.getElem?_push, if_neg (by simp only [Array.size_push]; omega), Array.getElem?_push, if_neg (by simp only [Array.size_push]; omega), Array.getElem?_push, if_neg (by simp only [Array.size_push]; omega), Array.getElem?_push, if_neg (by omega)]
    · rw [hh, Array.getElem?_push, if_neg (by simp only [Array.size_push]; omega), Array.getElem?_push, if_neg (by simp only [Array.size_push]; omega), Array.getElem?_push, if_neg (by simp), Array.getElem?_push, if_pos rfl]
    · rw [hh, Array.getElem?_push, if_neg (by simp only [Array.size_push]; omega), Array.getElem?_push, if_neg (by simp), Array.getElem?_push, if_pos (by simp)]
    · rw [hh, Array.getElem?_push, if_neg (by simp), Array.getElem?_push, if_pos (by simp)]
  refine hdoes o a _ Q fun v' w' ⟨hv, hs, hgr, hrows⟩ => ?_
  subst hv
  rw [hd]
  have hget : ∀ j, 6 ≠ j → (L.setIfInBounds 6 true).getD j false = L.getD j false := fun j hj => getD_set_ne false hj
  refine ⟨by simp [h.lsz], by simp [Act.put, h.sz], h.df, fun n hn => ?_, h.gb.grew hgr, fun j hj hl => ?_, fun hl => ?_, fun hl => ?_⟩
  · rw [put_get, if_neg (by omega)]; exact h.kp n hn
  · rw [hget j (by omega)] at hl
    rw [put_get, if_neg (by omega)]
    exact h.f j hj hl
  · rw [getD_at (by rw [h.lsz]; omega)] at hl; cases hl
  · rw [hget 7 (by omega), l7]
    refine ⟨w.heap.size, h.gb.size, by omega, hrows, by rw [put_get, if_pos ⟨rfl, by rw [h.sz]; omega⟩], fun _ => lm.congr (hgr.old R lm.lt), fun q => by cases q⟩
theorem R5.upd (h : R5 D w4 a0 pb po qb R k l L a w) (hR : R < w4.heap.size) (hl : ∀ s ∈ l, s.1 ≠ nameOf k) (hr : 7 ∈ Region.ready .any ops5 L) : wpOp Tryz.prog ops5 Q 7 (R5 D w4 a0 pb po qb R k l (L.setIfInBounds 7 true)) a w := by
  obtain ⟨o, ho, hop, hd, hg⟩ := rowIn rows5_eq rows5_plain (k := 7) (X := .mapUpdate 178 (.tmp 55) (.tmp 57) (.tmp 61)) (d := none) (by rfl)
  have h0 := h.f 0 (by omega) (dep_of hr (j := 0) (by kernel_rfl))
  have h2 := h.f 2 (by omega) (dep_of hr (j := 2) (by kernel_rfl))
  have h6 := dep_of hr (j := 6) (by kernel_rfl)
  have hf : L.getD 7 false = false := getD_both (mem_ready.1 hr).1
  obtain ⟨n, g1, g2, g3, g4, g5, _⟩ := h.hi h6
  obtain ⟨w', hrun, m1, m2, m3, m4⟩ := (g5 hf).insert (k := nameOf k) (p := (· = askV n k)) (x := askV n k) hl rfl
  have hrun2 : (execOp a.eval o).run Tryz.prog w = .ok .skip w' := by
    simp only [execOp, hop, eval_of h0, eval_of h2, eval_of g4]
    exact run_unit hrun
  refine wpOp_of' ho hg (wp_skip' hrun2 ?_)
  rw [hd]
  show R5 _ _ _ _ _ _ _ _ _ _ a _
  have hget : ∀ j, 7 ≠ j → (L.setIfInBounds 7 true).getD j false = L.getD j false := fun j hj => getD_set_ne false hj
  refine ⟨by simp [h.lsz], h.sz, h.df, h.kp, ⟨by rw [m3]; exact h.gb.size, fun B hB hn => by rw [m2 B hn]; exact h.gb.old B hB hn, h.gb.env.trans m4⟩, fun j hj hl => ?_, fun hl => ?_, fun hl => ?_⟩
  · rw [hget j (by omega)] at hl; exact h.f j hj hl
  · rw [hget 6 (by omega), h6] at hl; cases hl
  · refine ⟨n, g1, by rw [m3]; exact g2, g3.congr fun j hj => m2 _ (by omega), g4, fun q => ?_, fun _ => m1⟩
    rw [getD_at (by rw [h.lsz]; omega)] at q; cases q
theorem region5 {a : Act} {w : World} (hk1 : 1 ≤ k) (hk2 : k ≤ 8) (hsz : a.tmps.size = 63) (hdf : a.defers = D) (h1 : a.tmps[1]? = some (.pointer (some ⟨qb, 0, none⟩))) (h3 : a.tmps[3]? = some (.map (some R))) (h4 : a.tmps[4]? = some (.int .i64 k)) (h5 : a.tmps[5]? = some (.int .i64 (wordsOf k)))
    (hq : w.cell? ⟨qb, 0, none⟩ = some (.pointer (some ⟨pb, po, none⟩))) (hqR : qb ≠ R) (hm : MapHas w R l) (hl : ∀ s ∈ l, s.1 ≠ nameOf k)
    (hQ : ∀ (a' : Act) (w' : World) (n : Nat), a'.tmps.size = 63 → a'.defers = D → (∀ n, n < 55 → a'.tmps[n]? = a.tmps[n]?) → GB R w w' → w.heap.size ≤ n → n + 4 ≤ w'.heap.size → AskRows w' pb po n k → MapHas w' R ((nameOf k, (· = askV n k)) :: l) → Q .normal a' w') :
    (Code.region 5 ops5 true).wp Tryz.prog Q a w := by
  refine wp_region_any mixed_ok ?_
  have hrep : ∀ i, (Array.replicate ops5.size false).getD i false = false := fun i => by
    simp only [Array.getD_eq_getD_getElem?, Array.getElem?_replicate]
    split <;> rfl
  have hqlt : qb < w.heap.size := by
    unfold World.cell? at hq
    rcases Nat.lt_or_ge qb w.heap.size with h1 | h1
    · exact h1
    · simp [Array.getElem?_eq_none h1] at hq
  refine wpAny_inv (I := R5 D w a pb po qb R k l) (fun L b w2 i hI hi => ?_) (fun L b w2 hI hr => ?_) _ _ _ _ ?_ ?_
  · have hlt : i < 8 := by
      obtain ⟨q1, _⟩ := mem_ready.1 hi
      rcases Nat.lt_or_ge i L.size with h3 | h3
      · have := hI.lsz; omega
      · simp [Array.getElem?_eq_none h3] at q1
    have k1 : b.tmps[1]? = some (.pointer (some ⟨qb, 0, none⟩)) := (hI.kp 1 (by omega)).trans h1
    have k3 : b.tmps[3]? = some (.map (some R)) := (hI.kp 3 (by omega)).trans h3
    have k4 : b.tmps[4]? = some (.int .i64 k) := (hI.kp 4 (by omega)).trans h4
    have k5 : b.tmps[5]? = some (.int .i64 (wordsOf k)) := (hI.kp 5 (by omega)).trans h5
    have kq : w2.cell? ⟨qb, 0, none⟩ = some (.pointer (some ⟨pb, po, none⟩)) := by
      unfold World.cell? at hq ⊢
      simp only at hq ⊢
      rw [hI.gb.old qb hqlt hqR]; exact hq
    match i, hlt with
    | 0, _ => exact hI.pure (by omega) (by rfl) (mv_run k3)
    | 1, _ => exact hI.pure (by omega) (by rfl) (mv_run k4)
    | 2, _ => exact hI.name hk1 hk2 hi
    | 3, _ => exact hI.pure (by omega) (by rfl) (ld_run k1 kq)
    | 4, _ => exact hI.pure (by omega) (by rfl) (mv_run k4)
    | 5, _ => exact hI.pure (by omega) (by rfl) (mv_run k5)
    | 6, _ => exact hI.ask hi
    | 7, _ => exact hI.upd hm.lt hl hi
  · have hall := all_listed deps5 hr (by rw [hI.lsz, size5])
    rw [size5] at hall
    obtain ⟨n, g1, g2, g3, g4, g5, g6⟩ := hI.hi (hall 6 (by omega))
    exact hQ b w2 n hI.sz hI.df hI.kp hI.gb g1 g2 g3 (g6 (hall 7 (by omega)))
  · refine Nat.le_trans List.countP_le_length ?_
    simp
  · refine ⟨by rw [Array.size_replicate, size5], hsz, hdf, fun _ _ => rfl, ⟨Nat.le_refl _, fun _ _ _ => rfl, rfl, rfl, rfl⟩, fun i _ h => ?_, fun _ => ⟨hrep 7, hm.congr rfl⟩, fun h => ?_⟩
    · rw [hrep] at h; cases h
    · rw [hrep] at h; cases h
end
end Go.Proofs.YtohnakjamlhhkaaGreatDoor
