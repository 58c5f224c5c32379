/- lines.commands: the loop, and the whole. -/
import Derived.Test.YtohnakjamlhhkaaGreatDoorKJ
namespace Go.Proofs.YtohnakjamlhhkaaGreatDoor
open Go Go.Proofs Go.RowKit
open Go.ChangeMaps (setBlock)
set_option maxRecDepth 100000
set_option linter.unusedVariables false
set_option linter.unusedSimpArgs false

abbrev Done := List (Nat × Nat)
def doneSpecs (done : Done) : Specs := done.map fun d => (nameOf d.1, (· = askV d.2 d.1))
/-- Between the rounds. -/
structure J (D : List Deferred) (w1 : World) (pb po qb R M : Nat) (done : Done) (seen : Array Nat) (a : Act) (w : World) : Prop where
  sz : a.tmps.size = 63
  df : a.defers = D
  t1 : a.tmps[1]? = some (.pointer (some ⟨qb, 0, none⟩))
  t3 : a.tmps[3]? = some (.map (some R))
  t49 : a.tmps[49]? = some (.pointer (some ⟨M + 1, 0, none⟩))
  gw : Grew w1 w
  r1 : w1.heap.size ≤ R
  rm : R < M
  mm : M + 1 < w.heap.size
  hM : w.heap[M]? = some (.map (entsN 8) 8)
  it : ∃ last, w.heap[M + 1]? = some (.mapIter (some M) 8 seen last) ∧ 8 ≤ last
  mh : MapHas w R (doneSpecs done ++ specs15 qb)
  rows : ∀ d ∈ done, AskRows w pb po d.2 d.1 ∧ M + 1 < d.2 ∧ d.2 + 4 ≤ w.heap.size ∧ 1 ≤ d.1 ∧ d.1 ≤ 8 ∧ seen.contains (d.1 - 1) = true
  seen : ∀ b, seen.contains b = true → ∃ d ∈ done, d.1 = b + 1
  nd : done.Pairwise fun a b => b.2 + 4 ≤ a.2 ∧ a.1 ≠ b.1
theorem ents_mem {e : MapEntry} (h : e ∈ (entsN 8).toList) : ∃ k, 1 ≤ k ∧ k ≤ 8 ∧ e = ent k := by
  simp only [entsN, List.mem_map, List.mem_range'_1] at h
  obtain ⟨k, hk, rfl⟩ := h
  exact ⟨k, by omega, by omega, rfl⟩
theorem ents_in {k : Nat} (h1 : 1 ≤ k) (h2 : k ≤ 8) : ent k ∈ (entsN 8).toList := by
  simp only [entsN, List.mem_map, List.mem_range'_1]
  exact ⟨k, by omega, rfl⟩
theorem ents_nodup : ((entsN 8).toList.map (·.born)).Nodup := by
  show [0, 1, 2, 3, 4, 5, 6, 7].Nodup
  decide
theorem ex_run {a : Act} {w : World} {t i : Nat} {xs : Array Value} {v : Value} (h : a.tmps[t]? = some (.tuple xs)) (hv : xs[i]? = some v) : ∀ o : Oper, o.op = .extract (.tmp t) i → (execOp a.eval o).run Tryz.prog w = .ok (.value v) w := by
  intro o ho
  simp only [execOp, ho, eval_of h]
  refine run_value ?_
  simp [Instr.extract, hv]
theorem as_run {a : Act} {w : World} {t : Nat} {x : Value} (h : a.tmps[t]? = some x) : ∀ o : Oper, o.op = .assign (.tmp t) → (execOp a.eval o).run Tryz.prog w = .ok (.value x) w := by
  intro o ho
  simp only [execOp, ho, eval_of h]; rfl
def rows3 : List (Op × Option Nat) := [(.next (.tmp 49) false, some 50), (.extract (.tmp 50) 0, some 51)]
theorem rows3_eq : ops3.toList.map (fun o => (o.op, o.dst)) = rows3 := by kernel_rfl
theorem rows3_plain : (ops3.toList.map fun o => o.guard) = List.replicate 2 none := by kernel_rfl
def rows4 : List (Op × Option Nat) := [(.entry (.tmp 49), some 52), (.extract (.tmp 52) 0, some 53), (.extract (.tmp 52) 1, some 54), (.assign (.tmp 53), some 4), (.assign (.tmp 54), some 5)]
theorem rows4_eq : ops4.toList.map (fun o => (o.op, o.dst)) = rows4 := by kernel_rfl
theorem rows4_plain : (ops4.toList.map fun o => o.guard) = List.replicate 5 none := by kernel_rfl
/-- Names that are not those of the first operations, each another one. -/
def namesX : Bool := (List.range' 1 8).all fun k => insIx.all (fun r => !(decide (r.2.1 = nameOf k))) && (List.range' 1 8).all fun j => Nat.beq j k || !(decide (nameOf j = nameOf k))
theorem namesX_ok : namesX = true := by kernel_rfl
theorem name_inj {j k : Nat} (h1 : 1 ≤ j) (h2 : j ≤ 8) (h3 : 1 ≤ k) (h4 : k ≤ 8) (h : nameOf j = nameOf k) : j = k := by
  have := List.all_eq_true.1 namesX_ok k (by rw [List.mem_range'_1]; omega)
  simp only [Bool.and_eq_true] at this
  have := List.all_eq_true.1 this.2 j (by rw [List.mem_range'_1]; omega)
  simp only [Bool.or_eq_true, Bool.not_eq_true', decide_eq_false_iff_not] at this
  rcases this with q | q
  · exact Nat.eq_of_beq_eq_true q
  · exact absurd h q
theorem name_fresh {k : Nat} (h3 : 1 ≤ k) (h4 : k ≤ 8) (r : Nat × ByteArray × Nat) (hr : r ∈ insIx) : r.2.1 ≠ nameOf k := by
  have := List.all_eq_true.1 namesX_ok k (by rw [List.mem_range'_1]; omega)
  simp only [Bool.and_eq_true] at this
  have := List.all_eq_true.1 this.1 r hr
  simpa using this
section
variable {D : List Deferred} {w1 : World} {pb po qb R M : Nat} {done : Done} {seen : Array Nat} {a : Act} {w : World} {Q : Exit → Act → World → Prop}
theorem keep_put {d n : Nat} {v x : Value} (hn : d ≠ n) (h : a.tmps[n]? = some x) : (a.put (some d) v).tmps[n]? = some x := by
  rw [put_get, if_neg (fun q => hn q.1)]; exact h
theorem put_at {d : Nat} {v : Value} (h : d < a.tmps.size) : (a.put (some d) v).tmps[d]? = some v := by rw [put_get, if_pos ⟨rfl, h⟩]
theorem put_sz {d : Nat} {v : Value} (h : a.tmps.size = 63) : (a.put (some d) v).tmps.size = 63 := by simp [Act.put, h]
theorem J.frame (h : J D w1 pb po qb R M done seen a w) {a' : Act} (hs : a'.tmps.size = 63) (hd : a'.defers = D) (h1 : a'.tmps[1]? = a.tmps[1]?) (h3 : a'.tmps[3]? = a.tmps[3]?) (h49 : a'.tmps[49]? = a.tmps[49]?) : J D w1 pb po qb R M done seen a' w :=
  ⟨hs, hd, h1.trans h.t1, h3.trans h.t3, h49.trans h.t49, h.gw, h.r1, h.rm, h.mm, h.hM, h.it, h.mh, h.rows, h.seen, h.nd⟩
theorem round91 (h : J D w1 pb po qb R M done seen a w) (hq : w1.cell? ⟨qb, 0, none⟩ = some (.pointer (some ⟨pb, po, none⟩))) (hq1 : qb < w1.heap.size)
    (hend : ∀ a', J D w1 pb po qb R M done seen a' w → (leftOf (entsN 8) seen).size = 0 → Q (.exit 0) a' w)
    (hmore : ∀ a' w' k n, J D w1 pb po qb R M ((k, n) :: done) (seen.push (k - 1)) a' w' → (leftOf (entsN 8) (seen.push (k - 1))).size < (leftOf (entsN 8) seen).size → Q .normal a' w') :
    (Code.seq (.region 3 ops3 false) (.seq (.cond (.tmp 51) .skip (.exit 0)) (.block 1 (.seq (.region 4 ops4 false) (.region 5 ops5 true))))).wp Tryz.prog Q a w := by
  refine wp_seq (wp_region ?_)
  rw [show ops3.size = 2 by kernel_rfl, show List.range 2 = [0, 1] from rfl]
  obtain ⟨last, hit, hlast⟩ := h.it
  have hold : ∀ x ∈ (entsN 8).toList, x.born < 8 := fun x hx => by
    obtain ⟨k, h1, h2, rfl⟩ := ents_mem hx
    simp only [ent]; omega
  obtain ⟨o, ho, hop, hd, hg⟩ := rowIn rows3_eq rows3_plain (k := 0) (X := .next (.tmp 49) false) (d := some 50) (by rfl)
  obtain ⟨o2, ho2, hop2, hd2, hg2⟩ := rowIn rows3_eq rows3_plain (k := 1) (X := .extract (.tmp 50) 0) (d := some 51) (by rfl)
  rcases run_next_at (P := Tryz.prog) w o.type (M + 1) M 8 last seen (entsN 8) 8 hit h.hM hold hlast with ⟨h0, hrun⟩ | ⟨e, hel, w2, hw2, hrun⟩
  · refine wpOps_step ho hg (wp_val (v := .tuple #[.bool false]) (w' := w) ?_ ?_)
    · simp only [execOp, hop, eval_of h.t49]
      exact run_value hrun
    rw [hd]
    have e50 := put_at (a := a) (d := 50) (v := .tuple #[.bool false]) (by rw [h.sz]; omega)
    refine wpOps_step ho2 hg2 (wp_val (ex_run (i := 0) (v := .bool false) e50 rfl o2 hop2) ?_)
    rw [hd2]
    refine wp_seq (wp_cond_false (eval_of (put_at (by rw [put_sz h.sz]; omega))) (wp_exit ?_))
    exact hend _ (h.frame (put_sz (put_sz h.sz)) h.df (by rw [put_get, if_neg (by omega), put_get, if_neg (by omega)]) (by rw [put_get, if_neg (by omega), put_get, if_neg (by omega)]) (by rw [put_get, if_neg (by omega), put_get, if_neg (by omega)])) h0
  · obtain ⟨hem, hns⟩ := mem_left hel
    obtain ⟨k, hk1, hk2, rfl⟩ := ents_mem hem
    have hborn : (ent k).born = k - 1 := rfl
    rw [hborn] at hns hrun
    -- the world behind the step
    generalize hw3 : setBlock w2 (M + 1) (.mapIter (some M) 8 (seen.push (k - 1)) 8) = w3 at hrun
    have hheap : w2.heap = w.heap ∧ Env w w2 := by
      rcases hw2 with rfl | rfl
      · exact ⟨rfl, .refl _⟩
      · exact ⟨rfl, rfl, rfl, rfl⟩
    have h3heap : w3.heap = w.heap.setIfInBounds (M + 1) (.mapIter (some M) 8 (seen.push (k - 1)) 8) := by
      rw [← hw3]; show w2.heap.setIfInBounds _ _ = _; rw [hheap.1]
    have h3env : Env w w3 := by
      rw [← hw3]; exact hheap.2.trans ⟨rfl, rfl, rfl⟩
    have h3size : w3.heap.size = w.heap.size := by rw [h3heap]; simp
    have h3oth : ∀ B, B ≠ M + 1 → w3.heap[B]? = w.heap[B]? := fun B hB => by rw [h3heap, Array.getElem?_setIfInBounds_ne (Ne.symm hB)]
    have h3it : w3.heap[M + 1]? = some (.mapIter (some M) 8 (seen.push (k - 1)) 8) := by
      rw [h3heap, Array.getElem?_setIfInBounds, if_pos rfl, if_pos h.mm]
    have hmm := h.mm
    have hrm := h.rm
    have hr1 := h.r1
    have hM3 : w3.heap[M]? = some (.map (entsN 8) 8) := by rw [h3oth M (by omega)]; exact h.hM
    refine wpOps_step ho hg (wp_val (v := .tuple #[.bool true, (ent k).key, (ent k).val]) (w' := w3) ?_ ?_)
    · simp only [execOp, hop, eval_of h.t49]
      exact run_value hrun
    rw [hd]
    have e50 := put_at (a := a) (d := 50) (v := .tuple #[.bool true, (ent k).key, (ent k).val]) (by rw [h.sz]; omega)
    refine wpOps_step ho2 hg2 (wp_val (ex_run (i := 0) (v := .bool true) e50 rfl o2 hop2) ?_)
    rw [hd2]
    generalize hb : (a.put (some 50) (.tuple #[.bool true, (ent k).key, (ent k).val])).put (some 51) (.bool true) = b
    have bsz : b.tmps.size = 63 := by rw [← hb]; exact put_sz (put_sz h.sz)
    have bdf : b.defers = D := by rw [← hb]; exact h.df
    have bk : ∀ n, n ≠ 50 → n ≠ 51 → b.tmps[n]? = a.tmps[n]? := fun n h1 h2 => by rw [← hb, put_get, if_neg (fun q => h2 q.1.symm), put_get, if_neg (fun q => h1 q.1.symm)]
    have b51 : b.tmps[51]? = some (.bool true) := by rw [← hb]; exact put_at (by rw [put_sz h.sz]; omega)
    refine wp_seq (wp_cond_true (eval_of b51) (wp_skip (wp_block (wp_seq (wp_region ?_)))))
    rw [show ops4.size = 5 by kernel_rfl, show List.range 5 = [0, 1, 2, 3, 4] from rfl]
    obtain ⟨p0, g0, g0p, g0d, g0g⟩ := rowIn rows4_eq rows4_plain (k := 0) (X := .entry (.tmp 49)) (d := some 52) (by rfl)
    obtain ⟨p1, g1, g1p, g1d, g1g⟩ := rowIn rows4_eq rows4_plain (k := 1) (X := .extract (.tmp 52) 0) (d := some 53) (by rfl)
    obtain ⟨p2, g2, g2p, g2d, g2g⟩ := rowIn rows4_eq rows4_plain (k := 2) (X := .extract (.tmp 52) 1) (d := some 54) (by rfl)
    obtain ⟨p3, g3, g3p, g3d, g3g⟩ := rowIn rows4_eq rows4_plain (k := 3) (X := .assign (.tmp 53)) (d := some 4) (by rfl)
    obtain ⟨p4, g4, g4p, g4d, g4g⟩ := rowIn rows4_eq rows4_plain (k := 4) (X := .assign (.tmp 54)) (d := some 5) (by rfl)
    have hent := run_entry_at (P := Tryz.prog) w3 (M + 1) M 8 seen (entsN 8) 8 (ent k) h3it hM3 (ents_in hk1 hk2) ents_nodup
    refine wpOps_step g0 g0g (wp_val (v := .tuple #[(ent k).key, (ent k).val]) (w' := w3) ?_ ?_)
    · simp only [execOp, g0p, eval_of ((bk 49 (by omega) (by omega)).trans h.t49)]
      exact run_value hent
    rw [g0d]
    have c52 := put_at (a := b) (d := 52) (v := .tuple #[(ent k).key, (ent k).val]) (by rw [bsz]; omega)
    refine wpOps_step g1 g1g (wp_val (ex_run (i := 0) (v := (ent k).key) c52 rfl p1 g1p) ?_)
    rw [g1d]
    refine wpOps_step g2 g2g (wp_val (ex_run (i := 1) (v := (ent k).val) (keep_put (by omega) c52) rfl p2 g2p) ?_)
    rw [g2d]
    generalize hc : ((b.put (some 52) (.tuple #[(ent k).key, (ent k).val])).put (some 53) (ent k).key).put (some 54) (ent k).val = c
    have csz : c.tmps.size = 63 := by rw [← hc]; exact put_sz (put_sz (put_sz bsz))
    have c53 : c.tmps[53]? = some (ent k).key := by rw [← hc]; exact keep_put (by omega) (put_at (by rw [put_sz bsz]; omega))
    have c54 : c.tmps[54]? = some (ent k).val := by rw [← hc]; exact put_at (by rw [put_sz (put_sz bsz)]; omega)
    have ck : ∀ n, n ≠ 52 → n ≠ 53 → n ≠ 54 → c.tmps[n]? = b.tmps[n]? := fun n h1 h2 h3 => by
      rw [← hc, put_get, if_neg (fun q => h3 q.1.symm), put_get, if_neg (fun q => h2 q.1.symm), put_get, if_neg (fun q => h1 q.1.symm)]
    refine wpOps_step g3 g3g (wp_val (as_run c53 p3 g3p) ?_)
    rw [g3d]
    refine wpOps_step g4 g4g (wp_val (as_run (keep_put (by omega) c54) p4 g4p) ?_)
    rw [g4d]
    generalize hdd : (c.put (some 4) (ent k).key).put (some 5) (ent k).val = d
    have dsz : d.tmps.size = 63 := by rw [← hdd]; exact put_sz (put_sz csz)
    have d4 : d.tmps[4]? = some (.int .i64 k) := by rw [← hdd]; exact keep_put (by omega) (put_at (by rw [csz]; omega))
    have d5 : d.tmps[5]? = some (.int .i64 (wordsOf k)) := by rw [← hdd]; exact put_at (by rw [put_sz csz]; omega)
    have dk : ∀ n, n = 1 ∨ n = 3 ∨ n = 49 → d.tmps[n]? = a.tmps[n]? := fun n hn => by
      rw [← hdd, put_get, if_neg (by omega), put_get, if_neg (by omega), ck n (by omega) (by omega) (by omega), bk n (by omega) (by omega)]
    have hgw3 : Grew w1 w3 := ⟨by rw [h3size]; exact h.gw.size, fun B hB => by rw [h3oth B (by omega)]; exact h.gw.old B hB, h.gw.env.trans h3env⟩
    have hmh3 : MapHas w3 R (doneSpecs done ++ specs15 qb) := h.mh.congr (h3oth R (by omega))
    have hnew : ∀ d ∈ done, d.1 ≠ k := fun d hd q => by
      obtain ⟨_, _, _, _, _, q6⟩ := h.rows d hd
      rw [q, hns] at q6; cases q6
    refine region5 (D := D) (pb := pb) (po := po) (qb := qb) (R := R) (k := k) (l := doneSpecs done ++ specs15 qb) hk1 hk2 dsz (by rw [← hdd, ← hc]; exact bdf) ((dk 1 (by omega)).trans h.t1) ((dk 3 (by omega)).trans h.t3) d4 d5 (cell_old hgw3 hq) (by omega) hmh3 ?_ ?_
    · intro s hs
      rcases List.mem_append.1 hs with hs | hs
      · obtain ⟨d, hd, rfl⟩ := List.mem_map.1 hs
        obtain ⟨_, _, _, q4, q5, _⟩ := h.rows d hd
        have := hnew d hd
        intro q
        exact this (name_inj q4 q5 hk1 hk2 q)
      · obtain ⟨r, hr, rfl⟩ := List.mem_map.1 hs
        exact name_fresh hk1 hk2 r hr
    · intro a' w' n hsz' hdf' hkp' hgb hn1 hn2 hrows hmh'
      refine hmore a' w' k n ⟨hsz', hdf', (hkp' 1 (by omega)).trans ((dk 1 (by omega)).trans h.t1), (hkp' 3 (by omega)).trans ((dk 3 (by omega)).trans h.t3), (hkp' 49 (by omega)).trans ((dk 49 (by omega)).trans h.t49), ?_, hr1, hrm, by have := hgb.size; omega, ?_, ?_, hmh', ?_, ?_, ?_⟩ ?_
      · have := hgb.size
        exact ⟨by have := hgw3.size; omega, fun B hB => by rw [hgb.old B (by have := hgw3.size; omega) (by omega)]; exact hgw3.old B hB, hgw3.env.trans hgb.env⟩
      · rw [hgb.old M (by omega) (by omega)]; exact hM3
      · exact ⟨8, by rw [hgb.old (M + 1) (by omega) (by omega)]; exact h3it, Nat.le_refl _⟩
      · intro d hd
        rcases List.mem_cons.1 hd with rfl | hd
        · exact ⟨hrows, by show M + 1 < n; omega, hn2, hk1, hk2, by simp⟩
        · obtain ⟨q1, q2, q3, q4, q5, q6⟩ := h.rows d hd
          refine ⟨q1.congr fun i hi => ?_, q2, by have := hgb.size; omega, q4, q5, by rw [contains_push, q6]; rfl⟩
          rw [hgb.old _ (by omega) (by omega), h3oth _ (by omega)]
      · intro b hb
        rw [contains_push] at hb
        simp only [Bool.or_eq_true, beq_iff_eq] at hb
        rcases hb with hb | rfl
        · obtain ⟨d, hd, he⟩ := h.seen b hb
          exact ⟨d, List.mem_cons_of_mem _ hd, he⟩
        · exact ⟨(k, n), List.mem_cons_self, by show k = _; omega⟩
      · refine List.pairwise_cons.2 ⟨fun d hd => ?_, h.nd⟩
        obtain ⟨q1, q2, q3, q4, q5, q6⟩ := h.rows d hd
        exact ⟨by show d.2 + 4 ≤ n; omega, fun q => hnew d hd q.symm⟩
      · exact left_shrinks (entsN 8) seen (ent k) hel
end
end Go.Proofs.YtohnakjamlhhkaaGreatDoor
