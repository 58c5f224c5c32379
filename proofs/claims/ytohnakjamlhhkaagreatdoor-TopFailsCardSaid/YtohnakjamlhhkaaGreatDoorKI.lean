/- lines.commands: the operations' words, and the loop. -/
import Derived.Test.YtohnakjamlhhkaaGreatDoorKH
namespace Go.Proofs.YtohnakjamlhhkaaGreatDoor
open Go Go.Proofs Go.RowKit
open Go.ChangeMaps (setBlock)
set_option maxRecDepth 100000
set_option linter.unusedVariables false
set_option linter.unusedSimpArgs false

/-! ### The words of each operation -/
def wordsOf : Nat → Nat
  | 1 => 1 | 2 => 3 | 3 => 3 | 4 => 1 | 5 => 1 | 6 => 0 | 7 => 1 | _ => 0
def ent (k : Nat) : MapEntry := ⟨.int .i64 k, .int .i64 (wordsOf k), k - 1⟩
/-- The first n entries. -/
def entsN (n : Nat) : Array MapEntry := ((List.range' 1 n).map ent).toArray
/-- So far the map stands alone on top of what was there. -/
structure W2 (w : World) (n : Nat) (w' : World) : Prop where
  heap : w'.heap = w.heap.push (.map (entsN n) n)
  env : Env w w'
theorem entsN_push (n : Nat) : (entsN n).push (ent (n + 1)) = entsN (n + 1) := by
  unfold entsN
  rw [List.range'_concat]
  simp [Nat.add_comm]
theorem W2.ins {w w' : World} {n : Nat} (h : W2 w n w') (hn : n < 8) : ∃ w2, (Instr.mapUpdate 206 (.map (some w.heap.size)) (.int .i64 (n + 1 : Nat)) (.int .i64 (wordsOf (n + 1)))).run Tryz.prog w' = .ok () w2 ∧ W2 w (n + 1) w2 := by
  have h1 : w'.heap[w.heap.size]? = some (.map (entsN n) n) := by rw [h.heap]; exact heap_push_new
  have hlack : ∀ e ∈ (entsN n).toList, keyEq (.int .i64 (n + 1 : Nat)) e.key = some false := fun e he => by
    simp only [entsN, List.mem_map, List.mem_range'_1] at he
    obtain ⟨k, hk, rfl⟩ := he
    simp only [ent]
    rw [keyEq_int, if_pos rfl]
    congr 1
    rw [beq_eq_false_iff_ne]
    omega
  have hkt : keyT Tryz.prog 3 (.int .i64 (n + 1 : Nat)) = true := by
    unfold keyT
    rw [Tryz.underlying3]
  obtain ⟨d, hd, hs⟩ := sameNow_of hkt hlack
  have hfn := findNow_none (entsN n).toList 0 hs
  refine ⟨{ w' with heap := w'.heap.setIfInBounds w.heap.size (.map ((entsN n).push ⟨.int .i64 (n + 1 : Nat), .int .i64 (wordsOf (n + 1)), n⟩) (n + 1)) }, ?_, ⟨?_, h.env.trans ⟨rfl, rfl, rfl⟩⟩⟩
  · simp only [Instr.mapUpdate, Sem.run_bind, run_und Tryz.underlying206, Result.andThen_ok, run_getObj h1 (by simp), checkKey_run hkt, Instr.findKey, run_und hd, hfn, Sem.run_pure, run_setObj h1 (by simp)]
  · show w'.heap.setIfInBounds _ _ = _
    rw [h.heap]
    have : (entsN n).push ⟨.int .i64 (n + 1 : Nat), .int .i64 (wordsOf (n + 1)), n⟩ = entsN (n + 1) := entsN_push n
    rw [this]
    apply Array.ext_getElem?
    intro i
    by_cases hi : i = w.heap.size
    · subst hi; simp
    · rw [Array.getElem?_setIfInBounds_ne (Ne.symm hi), Array.getElem?_push, Array.getElem?_push, if_neg hi, if_neg hi]
def rows2 : List (Op × Option Nat) := [(.makeMap 206 none, some 47)] ++ ((List.range' 1 8).map fun k => (.insert 206 (.tmp 47) (.const (.int .i64 (.ofNat k))) (.const (.int .i64 (.ofNat (wordsOf k)))), none)) ++ [(.move (.tmp 47), some 48), (.range 206 (.tmp 48), some 49)]
theorem rows2_eq : ops2.toList.map (fun o => (o.op, o.dst)) = rows2 := by kernel_rfl
theorem rows2_plain : (ops2.toList.map fun o => o.guard) = List.replicate 11 none := by kernel_rfl
theorem rowIn {ops : Array Oper} {rows : List (Op × Option Nat)} {m : Nat} (he : ops.toList.map (fun o => (o.op, o.dst)) = rows) (hp : (ops.toList.map fun o => o.guard) = List.replicate m none) {k : Nat} {X : Op} {d : Option Nat} (h : rows[k]? = some (X, d)) : ∃ o, ops[k]? = some o ∧ o.op = X ∧ o.dst = d ∧ o.guard = none := by
  have h1 : (ops.toList.map fun o => (o.op, o.dst))[k]? = some (X, d) := by rw [he]; exact h
  rw [List.getElem?_map] at h1
  cases ho : ops.toList[k]? with
  | none => rw [ho] at h1; cases h1
  | some o =>
    rw [ho] at h1
    have h2 : (o.op, o.dst) = (X, d) := Option.some.inj h1
    have h3 : (ops.toList.map fun o => o.guard)[k]? = some o.guard := by rw [List.getElem?_map, ho]; rfl
    rw [hp, List.getElem?_replicate] at h3
    split at h3
    · exact ⟨o, by simpa using ho, congrArg Prod.fst h2, congrArg Prod.snd h2, (Option.some.inj h3).symm⟩
    · cases h3
/-- One operation of a row. -/
theorem wpOps_step {ops : Array Oper} {Q : Exit → Act → World → Prop} {k : Nat} {rest : List Nat} {a : Act} {w : World} {o : Oper} (ho : ops[k]? = some o) (hg : o.guard = none) (h : o.wp Tryz.prog a w (wpOps Tryz.prog ops Q rest) Q) : wpOps Tryz.prog ops Q (k :: rest) a w := by
  rw [wpOps_cons]
  unfold wpOp
  rw [ho]
  simp only [Region.wanted, hg]
  exact .inl h
theorem wp_val {o : Oper} {a : Act} {w w' : World} {v : Value} {K : Act → World → Prop} {Q : Exit → Act → World → Prop} (hr : (execOp a.eval o).run Tryz.prog w = .ok (.value v) w') (hk : K (a.put o.dst v) w') : o.wp Tryz.prog a w K Q := by
  unfold Oper.wp
  rw [hr]; exact hk
theorem wp_skip' {o : Oper} {a : Act} {w w' : World} {K : Act → World → Prop} {Q : Exit → Act → World → Prop} (hr : (execOp a.eval o).run Tryz.prog w = .ok .skip w') (hk : K (a.put o.dst undef) w') : o.wp Tryz.prog a w K Q := by
  unfold Oper.wp
  rw [hr]; exact hk
theorem ins2 {Q : Exit → Act → World → Prop} {a : Act} {w : World} (hM : a.tmps[47]? = some (.map (some w.heap.size))) (hk : ∀ w', W2 w 8 w' → wpOps Tryz.prog ops2 Q [9, 10] a w') :
    ∀ (m n : Nat) (w' : World), n + m = 8 → W2 w n w' → wpOps Tryz.prog ops2 Q (List.range' (n + 1) m ++ [9, 10]) a w'
  | 0, n, w', hn, h => by
    have : n = 8 := by omega
    subst this
    exact hk w' h
  | m + 1, n, w', hn, h => by
    obtain ⟨w2, hrun, h2⟩ := h.ins (by omega)
    have hrow : rows2[n + 1]? = some (.insert 206 (.tmp 47) (.const (.int .i64 (.ofNat (n + 1)))) (.const (.int .i64 (.ofNat (wordsOf (n + 1))))), none) := by
      have : n < 8 := by omega
      rcases n with _ | _ | _ | _ | _ | _ | _ | _ | n <;> first | rfl | omega
    obtain ⟨o, ho, hop, hd, hg⟩ := rowIn rows2_eq rows2_plain hrow
    rw [List.range'_succ, List.cons_append]
    refine wpOps_step ho hg (wp_skip' (w' := w2) ?_ ?_)
    · simp only [execOp, hop, eval_of hM]
      exact run_unit hrun
    · rw [hd]
      exact ins2 hM hk m (n + 1) w2 (by omega) h2
theorem region2 {a : Act} {w : World} {Q : Exit → Act → World → Prop} (hsz : a.tmps.size = 63)
    (hQ : ∀ (a' : Act) (w' : World), a'.tmps.size = 63 → a'.defers = a.defers → (∀ n, n ≠ 47 → n ≠ 48 → n ≠ 49 → a'.tmps[n]? = a.tmps[n]?) → a'.tmps[49]? = some (.pointer (some ⟨w.heap.size + 1, 0, none⟩)) →
      w'.heap = (w.heap.push (.map (entsN 8) 8)).push (.mapIter (some w.heap.size) 8 #[] 8) → Env w w' → Q .normal a' w') :
    (Code.region 2 ops2 false).wp Tryz.prog Q a w := by
  refine wp_region ?_
  have hsize : ops2.size = 11 := by kernel_rfl
  rw [hsize, List.range_eq_range', show List.range' 0 11 = 0 :: (List.range' (0 + 1) 8 ++ [9, 10]) from rfl]
  obtain ⟨o, ho, hop, hd, hg⟩ := rowIn rows2_eq rows2_plain (k := 0) (X := .makeMap 206 none) (d := some 47) (by rfl)
  refine wpOps_step ho hg (wp_val (v := .map (some w.heap.size)) (w' := w.alloc (.map #[] 0)) ?_ ?_)
  · simp only [execOp, hop]
    refine run_value ?_
    simp [Instr.makeMap]
  rw [hd]
  have s1 : (a.put (some 47) (.map (some w.heap.size))).tmps.size = 63 := by simp [Act.put, hsz]
  have e1 : (a.put (some 47) (.map (some w.heap.size))).tmps[47]? = some (.map (some w.heap.size)) := by rw [put_get, if_pos ⟨rfl, by omega⟩]
  refine ins2 e1 (fun w2 h2 => ?_) 8 0 _ rfl ⟨rfl, ⟨rfl, rfl, rfl⟩⟩
  obtain ⟨o, ho, hop, hd, hg⟩ := rowIn rows2_eq rows2_plain (k := 9) (X := .move (.tmp 47)) (d := some 48) (by rfl)
  refine wpOps_step ho hg (wp_val (v := .map (some w.heap.size)) (w' := w2) ?_ ?_)
  · simp only [execOp, hop, eval_of e1]; rfl
  rw [hd]
  generalize hb : (a.put (some 47) (.map (some w.heap.size))).put (some 48) (.map (some w.heap.size)) = b
  have s2 : b.tmps.size = 63 := by rw [← hb]; simp [Act.put, hsz]
  have e2 : b.tmps[48]? = some (.map (some w.heap.size)) := by rw [← hb, put_get, if_pos ⟨rfl, by omega⟩]
  obtain ⟨o, ho, hop, hd, hg⟩ := rowIn rows2_eq rows2_plain (k := 10) (X := .range 206 (.tmp 48)) (d := some 49) (by rfl)
  have hM : w2.heap[w.heap.size]? = some (.map (entsN 8) 8) := by rw [h2.heap]; exact heap_push_new
  have hsz2 : w2.heap.size = w.heap.size + 1 := by rw [h2.heap]; simp
  refine wpOps_step ho hg (wp_val (v := .pointer (some ⟨w.heap.size + 1, 0, none⟩)) (w' := w2.alloc (.mapIter (some w.heap.size) 8 #[] 8)) ?_ ?_)
  · simp only [execOp, hop, eval_of e2]
    refine run_value ?_
    rw [run_range_map w2 206 3 3 w.heap.size (entsN 8) 8 Tryz.underlying206 hM, hsz2]
  rw [hd]
  refine hQ _ _ (by simp [Act.put, s2]) (by rw [← hb]; rfl) (fun n h47 h48 h49 => ?_) (by rw [put_get, if_pos ⟨rfl, by omega⟩]) ?_ (h2.env.trans ⟨rfl, rfl, rfl⟩)
  · rw [put_get, if_neg (fun q => h49 q.1.symm), ← hb, put_get, if_neg (fun q => h48 q.1.symm), put_get, if_neg (fun q => h47 q.1.symm)]
  · show w2.heap.push _ = _
    rw [h2.heap]
end Go.Proofs.YtohnakjamlhhkaaGreatDoor
