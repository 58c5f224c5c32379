/- lines.Line: what it leaves to be done at its end; the whole. -/
import Derived.Test.YtohnakjamlhhkaaGreatDoorKP
import Derived.Defers
import Derived.Recover
import Derived.Tactics
import Derived.Tactics2
namespace Go.Proofs.YtohnakjamlhhkaaGreatDoor
open Go Go.Proofs Go.RowKit
set_option maxRecDepth 100000
set_option linter.unusedVariables false
set_option linter.unusedSimpArgs false
theorem assert_none (w : World) : (Instr.typeAssert .nilIface 20 172 true).run Tryz.prog w = .ok (.tuple #[.agg #[], .bool false]) w := by
  simp [Instr.typeAssert, Tryz.zeroValue172]
theorem last_calls (b : Addr) (w : World) : CallsD Tryz.prog 90 #[.pointer (some b)] .returning w fun e u' w' => (∃ v, e = .returned v) ∧ u' = .returning ∧ w' = w.alloc (.cells #[] 172) := by
  refine callsD_of_wpS Tryz.func90 rfl fun c₀ cs hu => ?_
  refine wpS_seq (wpS_region ?_)
  simp [wpOpsS, go_sem, recoverD, hu, Tryz.ntmps90, Exit.thenS, assert_none]
  refine wpS_seq (wpS_region ?_)
  simp [wpOpsS, go_sem, Exit.thenS]
  refine wpS_cond (t := false) (by simp [Act.eval, Array.replicate]) ?_
  simp only [Bool.false_eq_true, if_false]
  refine wpS_of_wp (wp_skip ?_)
  cases c₀
  simp_all [bodyPostS, results, Tryz.results90]
noncomputable def code57 : Code := match Tryz.f57.body with
  | some c => c
  | none => .skip
noncomputable def l0 : Code := fstC code57
noncomputable def l1 : Code := fstC (sndC code57)
noncomputable def l2 : Code := fstC (sndC (sndC code57))
noncomputable def ops57 : Array Oper := opsOf (fstC (sndC (sndC (sndC code57))))
noncomputable def l5 : Code := sndC (sndC (sndC (sndC code57)))
theorem code57_eq : Tryz.f57.body = some (.seq l0 (.seq l1 (.seq l2 (.seq (.region 4 ops57 false) l5)))) := by kernel_rfl
noncomputable def lineRun (K : Con) (args : List Value) (A : AH) : Option (Value × AH) := match AFr.enter 43 args with
  | none => none
  | some F => match (codeC Tryz.prog l0).run K F A with
    | some ⟨.normal, F, A⟩ => match (codeC Tryz.prog l1).run K F A with
      | some ⟨.normal, F, A⟩ => match (codeC Tryz.prog l2).run K F A with
        | some ⟨.ret, F, A⟩ => endA Tryz.prog Tryz.f57 (some ⟨.ret, F, A⟩)
        | some ⟨.normal, F, A⟩ => match (getC 12 4).run F, (setC 12 13).run unk F with
          | some (.pointer (some _)), some F => match (codeC Tryz.prog l5).run K F A with
            | some ⟨.ret, F, A⟩ => endA Tryz.prog Tryz.f57 (some ⟨.ret, F, A⟩)
            | _ => none
          | _, _ => none
        | _ => none
      | _ => none
    | _ => none
noncomputable def lineC (K C : Con) : Con := fun g args A => match Nat.beq g 57 with
  | true => lineRun K args A
  | false => C g args A
def rowsL : List (Op × Option Nat) := [(.makeFunc (.func 90) #[] #[.tmp 4], some 13), (.defer { callee := .value (.tmp 13), args := #[], argTypes := #[] }, none)]
theorem rowsL_eq : ops57.toList.map (fun o => (o.op, o.dst)) = rowsL := by kernel_rfl
theorem rowsL_plain : (ops57.toList.map fun o => o.guard) = List.replicate 2 none := by kernel_rfl
theorem lineC_ok {V : Nat → Value} {K C : Con} (hK : ConOK Tryz.prog V K) (hC : ConOK Tryz.prog V C) : ConOK Tryz.prog V (lineC K C) := by
  intro g args A v A' h E w args' hV ha hR
  unfold lineC at h
  split at h
  · rename_i hg
    have := Nat.eq_of_beq_eq_true hg
    subst this
    unfold lineRun at h
    have hcode := codes_ok 57 _ _ Tryz.func57 code57_eq (by decide)
    simp only [codeB, Bool.and_eq_true] at hcode
    obtain ⟨cb0, cb1, cb2, _, cb5⟩ := hcode
    have hnt : Tryz.f57.ntmps = 43 := by kernel_rfl
    refine does_of_calls Tryz.func57 code57_eq (by kernel_rfl) fun R' hR' => ?_
    refine calls_of_wp_defers Tryz.func57 code57_eq ?_
    rw [hnt]
    split at h <;> first | (cases h; done) | skip
    rename_i F0 hF0
    split at h <;> first | (cases h; done) | skip
    rename_i F1 A1 h1
    split at h <;> first | (cases h; done) | skip
    rename_i F2 A2 h2
    -- what the end says
    have fin : ∀ (F : FT) (A3 : AH) (a : Act) (w3 : World) (E3 : Em), endA Tryz.prog Tryz.f57 (some ⟨.ret, F, A3⟩) = some (v, A') → Stp E A w E3 A3 w3 → FRel E3 F a.tmps → ∃ u, (results Tryz.f57 a.tmps).run Tryz.prog w3 = .ok u w3 ∧ R' (.returned u) w3 := fun F A3 a w3 E3 he hs hf => by
      obtain ⟨rfl, _, u, q1, q2⟩ := endA_ok he hs.rel hf
      exact ⟨u, q1, hR' u w3 ⟨E3, hs, q2⟩⟩
    refine wp_seq (wp_mono (codeC_ok mixed_ok hK l0 cb0 F0 A E _ w _ hV h1 hR (enter_ok ha hF0) rfl) fun e a1 w1 hq => ?_)
    obtain ⟨e1, E1, s1, f1, d1⟩ := hq
    cases e <;> first | exact e1.elim | skip
    refine wp_seq (wp_mono (codeC_ok mixed_ok hK l1 cb1 F1 A1 E1 _ w1 _ (s1.le.val.trans hV) h2 s1.rel f1 d1) fun e a2 w2 hq => ?_)
    obtain ⟨e2, E2, s2, f2, d2⟩ := hq
    cases e <;> first | exact e2.elim | skip
    have s12 := s1.trans s2
    split at h <;> first | (cases h; done) | skip
    · rename_i F3 A3 h3
      refine wp_seq (wp_mono (codeC_ok mixed_ok hK l2 cb2 F2 A2 E2 _ w2 _ (s12.le.val.trans hV) h3 s2.rel f2 d2) fun e a3 w3 hq => ?_)
      obtain ⟨e3, E3, s3, f3, d3⟩ := hq
      cases e <;> first | exact e3.elim | skip
      show Leaves _ _ _ _ a3.defers _ _
      rw [d3]
      exact fin F3 A3 a3 w3 E3 h (s12.trans s3) f3
    · rename_i F3 A3 h3
      split at h <;> first | (cases h; done) | skip
      rename_i b F4 hb4 hF4
      split at h <;> first | (cases h; done) | skip
      rename_i F5 A5 h5
      refine wp_seq (wp_mono (codeC_ok mixed_ok hK l2 cb2 F2 A2 E2 _ w2 _ (s12.le.val.trans hV) h3 s2.rel f2 d2) fun e a3 w3 hq => ?_)
      obtain ⟨e3, E3, s3, f3, d3⟩ := hq
      cases e <;> first | exact e3.elim | skip
      have s123 := s12.trans s3
      obtain ⟨p', hp', hpr⟩ := f3 4 _ hb4
      obtain ⟨B, s, _, _, rfl⟩ := hpr.ptr_inv
      refine wp_seq (wp_region ?_)
      rw [show ops57.size = 2 by kernel_rfl, show List.range 2 = [0, 1] from rfl]
      obtain ⟨p0, g0, g0p, g0d, g0g⟩ := rowIn rowsL_eq rowsL_plain (k := 0) (X := .makeFunc (.func 90) #[] #[.tmp 4]) (d := some 13) (by rfl)
      obtain ⟨p1, g1, g1p, g1d, g1g⟩ := rowIn rowsL_eq rowsL_plain (k := 1) (X := .defer { callee := .value (.tmp 13), args := #[], argTypes := #[] }) (d := none) (by rfl)
      refine wpOps_step g0 g0g (wp_val (mf_run2 hp' p0 g0p) ?_)
      rw [g0d]
      have hf4 : FRel E3 F4 (a3.put (some 13) (.func (.func 90) #[] #[.pointer (some ⟨B, b.off + s, none⟩)])).tmps := f3.put (VRel.unk _) hF4
      have e13 : (a3.put (some 13) (.func (.func 90) #[] #[.pointer (some ⟨B, b.off + s, none⟩)])).tmps[13]? = some (.func (.func 90) #[] #[.pointer (some ⟨B, b.off + s, none⟩)]) := by
        obtain ⟨u, hu⟩ := setC_get 12 13 _ _ _ hF4
        obtain ⟨u', hu', _⟩ := f3 13 _ hu
        exact put_at (Array.getElem?_eq_some_iff.1 hu').1
      generalize ha4 : a3.put (some 13) (.func (.func 90) #[] #[.pointer (some ⟨B, b.off + s, none⟩)]) = a4 at hf4 e13
      have d4 : a4.defers = [] := by rw [← ha4]; exact d3
      refine wpOps_step g1 g1g ?_
      unfold Oper.wp
      have hrun : (execOp a4.eval p1).run Tryz.prog w3 = .ok (.defer { target := .fn (.func 90) #[.pointer (some ⟨B, b.off + s, none⟩)], args := #[] }) w3 := by
        simp [execOp, g1p, resolve, eval_of e13, Deferred.ofValue]
      rw [hrun, Oper.upon_defer, g1d]
      show Exit.then _ _ .normal _ _
      refine wp_mono (codeC_ok (D := [{ target := .fn (.func 90) #[.pointer (some ⟨B, b.off + s, none⟩)], args := #[] }]) mixed_ok hK l5 cb5 F4 A3 E3 _ w3 _ (s123.le.val.trans hV) h5 s3.rel hf4 (by show _ :: a4.defers = _; rw [d4])) fun e a5 w5 hq => ?_
      obtain ⟨e5, E5, s5, f5, d5⟩ := hq
      cases e <;> first | exact e5.elim | skip
      show Leaves _ _ _ _ a5.defers _ _
      rw [d5]
      refine leaves_cons (f := 90) (args := #[.pointer (some ⟨B, b.off + s, none⟩)]) (by simp) (by simp [go_sem]) ?_
      refine (last_calls _ w5).mono ?_
      rintro e u' w6 ⟨⟨u, rfl⟩, rfl, rfl⟩
      have hg6 : Grew w5 (w5.alloc (.cells #[] 172)) := ⟨by show _ ≤ (w5.heap.push _).size; rw [Array.size_push]; omega, fun B hB => heap_push_old hB, rfl, rfl, rfl⟩
      exact fin F5 A5 a5 _ E5 h ((s123.trans s5).trans (.grew s5.rel hg6)) f5
  · exact hC _ _ A v A' h E w args' hV ha hR
end Go.Proofs.YtohnakjamlhhkaaGreatDoor
