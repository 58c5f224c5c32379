/- lines.commands, whole. -/
import Derived.Test.YtohnakjamlhhkaaGreatDoorKM
namespace Go.Proofs.YtohnakjamlhhkaaGreatDoor
open Go Go.Proofs Go.RowKit
set_option maxRecDepth 100000
set_option linter.unusedVariables false
set_option linter.unusedSimpArgs false
section
variable {D : List Deferred} {w1 : World} {pb po qb R M : Nat} {a : Act} {w : World}
theorem rounds91 (hq : w1.cell? ⟨qb, 0, none⟩ = some (.pointer (some ⟨pb, po, none⟩))) (hq1 : qb < w1.heap.size) {Q : Exit → Act → World → Prop}
    (hend : ∀ a' w' done seen, J D w1 pb po qb R M done seen a' w' → (leftOf (entsN 8) seen).size = 0 → Q (.exit 0) a' w')
    {c : Code} (hc : c = Code.seq (.region 3 ops3 false) (.seq (.cond (.tmp 51) .skip (.exit 0)) (.block 1 (.seq (.region 4 ops4 false) (.region 5 ops5 true))))) :
    ∀ (n : Nat) (done : Done) (seen : Array Nat) (a : Act) (w : World), (leftOf (entsN 8) seen).size < n → J D w1 pb po qb R M done seen a w → Code.rounds Tryz.prog c Q n a w := by
  intro n
  induction n with
  | zero => intro done seen a w hn; omega
  | succ n ih =>
    intro done seen a w hn h
    have hr := round91 (Q := Exit.then (Code.rounds Tryz.prog c Q n) Q) h hq hq1 (fun a' h' h0 => hend a' w done seen h' h0) (fun a' w' k m h' hlt => ih _ _ a' w' (by omega) h')
    rw [← hc] at hr
    exact hr
/-- What lines.commands leaves behind. -/
structure CmdEnd (w : World) (pb po : Nat) (v : Value) (w' : World) : Prop where
  out : ∃ (qb R : Nat) (done : Done), v = .map (some R) ∧ Grew w w' ∧ w.heap.size ≤ qb ∧ w.heap.size ≤ R ∧ qb ≠ R ∧ w'.heap[qb]? = some (.cells #[.pointer (some ⟨pb, po, none⟩)] 119 (0, 0)) ∧ MapHas w' R (doneSpecs done ++ specs15 qb) ∧
    (∀ d ∈ done, AskRows w' pb po d.2 d.1 ∧ qb < d.2 ∧ R < d.2 ∧ 1 ≤ d.1 ∧ d.1 ≤ 8) ∧ (done.Pairwise fun a b => b.2 + 4 ≤ a.2 ∧ a.1 ≠ b.1) ∧ ∀ k, 1 ≤ k → k ≤ 8 → ∃ n, (k, n) ∈ done
def rows0 : List (Op × Option Nat) := [(.box 119 (.tmp 0), some 1), (.assign (.const (.map none)), some 2)]
theorem rows0_eq : ops0.toList.map (fun o => (o.op, o.dst)) = rows0 := by kernel_rfl
theorem rows0_plain : (ops0.toList.map fun o => o.guard) = List.replicate 2 none := by kernel_rfl
def rows6 : List (Op × Option Nat) := [(.move (.tmp 3), some 62), (.assign (.tmp 62), some 2)]
theorem rows6_eq : ops6.toList.map (fun o => (o.op, o.dst)) = rows6 := by kernel_rfl
theorem rows6_plain : (ops6.toList.map fun o => o.guard) = List.replicate 2 none := by kernel_rfl
theorem results_tmp' {fn : Func} {t : Tmp} {tmps : Array Value} {v : Value} {w : World} (hr : fn.results = #[.tmp t]) (ht : tmps[t]? = some v) : (results fn tmps).run Tryz.prog w = .ok v w := by
  rw [results_eq, hr]
  simp [resF, getD_of ht]
theorem cmd_calls (pb po : Nat) (x1 x2 : Value) (w : World) (o1 : x1.oneCell' = true) (o2 : x2.oneCell' = true) (h1 : w.cell? ((⟨pb, po, none⟩ : Addr).add 1) = some x1) (h2 : w.cell? ((⟨pb, po, none⟩ : Addr).add 2) = some x2) :
    Does Tryz.prog 91 #[.pointer (some ⟨pb, po, none⟩)] w (CmdEnd w pb po) := by
  refine does_of_calls Tryz.func91 code91_eq (by kernel_rfl) fun R' hR' => ?_
  refine calls_of_wp Tryz.func91 code91_eq ?_
  have hnt : Tryz.f91.ntmps = 63 := by kernel_rfl
  have hrs : Tryz.f91.results = #[.tmp 2] := by kernel_rfl
  rw [hnt]
  generalize ha0 : (⟨#[.pointer (some ⟨pb, po, none⟩)] ++ Array.replicate (63 - (#[.pointer (some ⟨pb, po, none⟩)] : Array Value).size) undef, []⟩ : Act) = a0
  have s0 : a0.tmps.size = 63 := by rw [← ha0]; simp
  have d0 : a0.defers = [] := by rw [← ha0]
  have t0 : a0.tmps[0]? = some (.pointer (some ⟨pb, po, none⟩)) := by rw [← ha0]; simp
  refine wp_seq (wp_region ?_)
  rw [show ops0.size = 2 by kernel_rfl, show List.range 2 = [0, 1] from rfl]
  obtain ⟨p0, g0, g0p, g0d, g0g⟩ := rowIn rows0_eq rows0_plain (k := 0) (X := .box 119 (.tmp 0)) (d := some 1) (by rfl)
  obtain ⟨p1, g1, g1p, g1d, g1g⟩ := rowIn rows0_eq rows0_plain (k := 1) (X := .assign (.const (.map none))) (d := some 2) (by rfl)
  generalize hw1 : w.alloc (.cells #[.pointer (some ⟨pb, po, none⟩)] 119) = w1
  have hheap1 : w1.heap = w.heap.push (.cells #[.pointer (some ⟨pb, po, none⟩)] 119) := by rw [← hw1]; rfl
  have hgr1 : Grew w w1 := ⟨by rw [hheap1]; simp, fun B hB => by rw [hheap1]; exact heap_push_old hB, by rw [← hw1]; exact ⟨rfl, rfl, rfl⟩⟩
  have hq1 : w1.heap[w.heap.size]? = some (.cells #[.pointer (some ⟨pb, po, none⟩)] 119) := by rw [hheap1]; exact heap_push_new
  have hlt1 : w.heap.size < w1.heap.size := by rw [hheap1]; simp
  have hc1 : w1.cell? ⟨w.heap.size, 0, none⟩ = some (.pointer (some ⟨pb, po, none⟩)) := by simp [World.cell?, hq1]
  refine wpOps_step g0 g0g (wp_val (v := .pointer (some ⟨w.heap.size, 0, none⟩)) (w' := w1) ?_ ?_)
  · simp only [execOp, g0p, eval_of t0]
    refine run_value ?_
    rw [← hw1]
    simp [Instr.box, newVar, Value.cells, newRow, Tryz.sizeOf119]
  rw [g0d]
  refine wpOps_step g1 g1g (wp_val (v := .map none) (w' := w1) (by simp only [execOp, g1p]; rfl) ?_)
  rw [g1d]
  generalize hb : (a0.put (some 1) (.pointer (some ⟨w.heap.size, 0, none⟩))).put (some 2) (.map none) = b
  have bsz : b.tmps.size = 63 := by rw [← hb]; exact put_sz (put_sz s0)
  have bdf : b.defers = [] := by rw [← hb]; exact d0
  have b1 : b.tmps[1]? = some (.pointer (some ⟨w.heap.size, 0, none⟩)) := by rw [← hb]; exact keep_put (by omega) (put_at (by rw [s0]; omega))
  refine wp_seq (region1 (D := []) o1 o2 bsz bdf b1 hc1 (cell_old hgr1 h1) (cell_old hgr1 h2) fun a2 w2 R s2 f2 k1 k3 hR1 hg2 hm2 => ?_)
  refine wp_seq (wp_seq (region2 s2 fun a3 w3 s3 f3 k3' k49 hh3 he3 => wp_block (wp_loop_rounds 9 ?_)))
  have hsz3 : w3.heap.size = w2.heap.size + 2 := by rw [hh3]; simp
  have hold3 : ∀ B, B < w2.heap.size → w3.heap[B]? = w2.heap[B]? := fun B hB => by
    rw [hh3, Array.getElem?_push, if_neg (by simp only [Array.size_push]; omega), Array.getElem?_push, if_neg (by omega)]
  have hRlt := hm2.lt
  have hg3 : Grew w1 w3 := ⟨by have := hg2.size; omega, fun B hB => (hold3 B (Nat.lt_of_lt_of_le hB hg2.size)).trans (hg2.old B hB), hg2.env.trans he3⟩
  have hJ : J [] w1 pb po w.heap.size R w2.heap.size [] #[] a3 w3 := by
    refine ⟨s3, f3.trans f2, (k3' 1 (by omega) (by omega) (by omega)).trans k1, (k3' 3 (by omega) (by omega) (by omega)).trans k3, k49, hg3, hR1, hRlt, by omega, ?_, ⟨8, ?_, Nat.le_refl _⟩, ?_, fun d hd => (by cases hd), fun b hb => (by simp at hb), .nil⟩
    · rw [hh3, Array.getElem?_push, if_neg (by simp only [Array.size_push]; omega)]; exact heap_push_new
    · rw [hh3, Array.getElem?_push, if_pos (by simp)]
    · exact hm2.congr (hold3 R hRlt)
  have hleft : (leftOf (entsN 8) #[]).size < 9 := by
    have h1 : (leftOf (entsN 8) #[]).size ≤ (entsN 8).size := Array.size_filter_le
    have h2 : (entsN 8).size = 8 := rfl
    omega
  refine rounds91 hc1 hlt1 (fun a4 w4 done seen hJ4 h0 => ?_) rfl 9 [] #[] a3 w3 hleft hJ
  refine wp_seq (wp_region ?_)
  rw [show ops6.size = 2 by kernel_rfl, show List.range 2 = [0, 1] from rfl]
  obtain ⟨p0, g0, g0p, g0d, g0g⟩ := rowIn rows6_eq rows6_plain (k := 0) (X := .move (.tmp 3)) (d := some 62) (by rfl)
  obtain ⟨p1, g1, g1p, g1d, g1g⟩ := rowIn rows6_eq rows6_plain (k := 1) (X := .assign (.tmp 62)) (d := some 2) (by rfl)
  refine wpOps_step g0 g0g (wp_val (mv_run hJ4.t3 p0 g0p) ?_)
  rw [g0d]
  have e62 := put_at (a := a4) (d := 62) (v := .map (some R)) (by rw [hJ4.sz]; omega)
  refine wpOps_step g1 g1g (wp_val (as_run e62 p1 g1p) ?_)
  rw [g1d]
  refine wp_ret ⟨hJ4.df, .map (some R), results_tmp' hrs (put_at (by rw [put_sz hJ4.sz]; omega)), hR' _ _ ⟨w.heap.size, R, done, rfl, ?_, Nat.le_refl _, by omega, by omega, ?_, hJ4.mh, fun d hd => ?_, hJ4.nd, fun k hk1 hk2 => ?_⟩⟩
  · exact ⟨Nat.le_trans hgr1.size hJ4.gw.size, fun B hB => (hJ4.gw.old B (by omega)).trans (hgr1.old B hB), hgr1.env.trans hJ4.gw.env⟩
  · rw [hJ4.gw.old _ hlt1]; exact hq1
  · obtain ⟨q1, q2, q3, q4, q5, q6⟩ := hJ4.rows d hd
    exact ⟨q1, by omega, by omega, q4, q5⟩
  · have hs := all_seen (entsN 8) seen h0 (ent k) (ents_in hk1 hk2)
    obtain ⟨d, hd, he⟩ := hJ4.seen _ hs
    have : d.1 = k := by rw [he]; show k - 1 + 1 = k; omega
    exact ⟨d.2, by rw [← this]; exact hd⟩
end
end Go.Proofs.YtohnakjamlhhkaaGreatDoor
