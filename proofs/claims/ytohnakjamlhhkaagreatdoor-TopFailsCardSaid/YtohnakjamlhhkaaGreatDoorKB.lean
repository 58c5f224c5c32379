/- The contracts that all four statements use. -/
import Derived.Test.YtohnakjamlhhkaaGreatDoorKT
import Derived.Test.YtohnakjamlhhkaaGreatDoorKR
import Derived.Laws.Externs
namespace Go.Proofs.YtohnakjamlhhkaaGreatDoor
open Go Go.RowKit
set_option linter.unusedVariables false
set_option linter.unusedSimpArgs false
set_option maxRecDepth 100000

/-- Sums with a carry. -/
def add64C (C : Con) : Con := fun g args A => match Nat.beq g 336, args with
  | true, [.int .u64 (.ofNat x), .int .u64 (.ofNat y), .int .u64 (.ofNat c)] => match Nat.ble c 1 with
    | true => some (.tuple #[.int .u64 (.ofNat (Nat.mod (x + y + c) 18446744073709551616)), .int .u64 (.ofNat (Nat.div (x + y + c) 18446744073709551616))], A)
    | false => none
  | _, _ => C g args A
theorem add64_run (x y c : Nat) (hc : c ≤ 1) (w : World) : (callFunc 336 #[.int .u64 x, .int .u64 y, .int .u64 c]).run Tryz.prog w =
    .ok (.value (.tuple #[.int .u64 (((x + y + c) % 18446744073709551616 : Nat) : Int), .int .u64 (((x + y + c) / 18446744073709551616 : Nat) : Int)])) w := by
  rw [run_callFunc_extern Tryz.func336 (by kernel_rfl) (by kernel_rfl) (by kernel_rfl) (e := add64Entry) (by kernel_rfl), run_add64 x y c (by omega) (by omega) (by omega) (by omega)]
  simp only [Result.andThen]
  congr 5 <;> omega
theorem add64C_ok {V : Nat → Value} {C : Con} (hC : ConOK Tryz.prog V C) : ConOK Tryz.prog V (add64C C) := by
  intro g args A v A' h E w args' hV ha hR
  unfold add64C at h
  split at h
  · rename_i x y c hg
    split at h <;> first | (cases h; done) | skip
    rename_i hc
    have := Nat.eq_of_beq_eq_true hg
    subst this
    cases h
    cases ha with
    | cons _ x' _ _ hx ht =>
      cases ht with
      | cons _ y' _ _ hy ht =>
        cases ht with
        | cons _ c' _ _ hcc ht =>
          cases ht
          rw [int_inv hx, int_inv hy, int_inv hcc]
          intro o a next Q hk
          have hrun := add64_run x y c (Nat.le_of_ble_eq_true hc) w
          rw [show (callFunc 336 [Value.int .u64 (.ofNat x), .int .u64 (.ofNat y), .int .u64 (.ofNat c)].toArray).run Tryz.prog w = _ from hrun]
          exact hk _ w ⟨E, .refl hR, flat_refl rfl⟩
  · exact hC _ _ A v A' h E w args' hV ha hR
/-- What is not said of beforehand: the table, sums, the example. -/
def baseC : Con := addC 15 isNil (.bool true) (addC 231 isNil crcV (add64C noC))
/-- The example answers true. -/
def AliveOK : Prop := ∀ w, Does Tryz.prog 15 #[] w fun v' w' => v' = .bool true ∧ Grew w w'
theorem baseC_ok (hal : AliveOK) {V : Nat → Value} (hV : ∀ k, (V k).oneCell' = true) : ConOK Tryz.prog V baseC := by
  refine addC_ok (addC_ok (add64C_ok noC_ok) crcV_flat ?_) rfl ?_
  · intro E args args' w _ ht ha
    cases ha with
    | nil => exact table_does V hV w
    | cons => cases ht
  · intro E args args' w _ ht ha
    cases ha with
    | nil => exact hal w
    | cons => cases ht
/-- Around, of a number that is not known and one that is. -/
def arArgs (j m : Nat) : List Value → Bool
  | [.chan (some i), .int .i64 (.ofNat n)] => Nat.beq i j && Nat.beq n m
  | _ => false
theorem arC_ok {V : Nat → Value} {C : Con} (hC : ConOK Tryz.prog V C) {j m k : Nat} {x : Int} (hV : V j = .int .i64 x) (hx : -9223372036854775808 ≤ x) (hx' : x ≤ 9223372036854775807) (hm : 0 < m) (hm' : m ≤ 1000) (hk : ar x m = k) :
    ConOK Tryz.prog V (addC 7 (arArgs j m) (.int .i64 (.ofNat k)) C) := by
  refine addC_ok hC rfl ?_
  intro E args args' w hE ht ha
  unfold arArgs at ht
  split at ht
  · rename_i i n
    simp only [Bool.and_eq_true] at ht
    have h1 := Nat.eq_of_beq_eq_true ht.1
    have h2 := Nat.eq_of_beq_eq_true ht.2
    subst h1; subst h2
    cases ha with
    | cons _ x' _ _ hxr ht2 =>
      cases ht2 with
      | cons _ y' _ _ hy ht3 =>
        cases ht3
        rw [int_inv hy]
        cases hxr with
        | opq =>
          rw [hE, hV]
          refine does_of_calls Tryz.func7 (by rfl) (by kernel_rfl) fun R' hR' => ?_
          refine (around_any x n w (by omega) (by omega) hx hx').mono fun e w' ⟨he, hw⟩ => ?_
          subst he; subst hw
          exact hR' _ _ ⟨by rw [hk]; rfl, .refl w⟩
  · cases ht
/-- A call, out of what is said of it. -/
theorem calls_of_does {f : FuncId} {fn : Func} {c : Code} (hf : Tryz.prog.funcs[f]? = some fn) (hb : fn.body = some c) (hn : (fn.name == "runtime.NumGoroutine") = false) {args : Array Value} {w : World} {R : Value → World → Prop} (h : Does Tryz.prog f args w R) :
    Calls Tryz.prog f args w fun | .returned v, w' => R v w' | _, _ => False := by
  have h1 := h { (default : Oper) with dst := some 0 } ⟨#[undef], []⟩ (fun a w' => R (a.tmps.getD 0 undef) w') (fun _ _ _ => False) (fun v' w' hv => by simpa [Act.put] using hv)
  have : (callFunc f args).run Tryz.prog w = .ok (.enter f args) w := by
    simp only [callFunc, Sem.run_bind, run_program, Result.andThen_ok, hf, hn, hb]
    rfl
  rw [this] at h1
  refine Calls.mono (show Calls Tryz.prog f args w _ from h1) fun e w' he => ?_
  cases e with
  | returned v => simpa [Act.put] using he
  | panicked c => exact he
  | outgrown => obtain ⟨_, _, h2⟩ := he; exact h2
theorem Grew.below {w w' : World} (h : Grew w w') : Below w.heap.size w w' := ⟨h.env.os, h.env.tape, h.env.output, h.size, h.old⟩
/-- What the evaluator answers. -/
def isT : Option (Value × AH) → Bool
  | some (.bool true, _) => true
  | _ => false
/-- Two numbers that are not known. -/
def twoV (x y : Value) : Nat → Value := withV x y 0 0
theorem top_calls {f : FuncId} {fn : Func} {c : Code} (hf : Tryz.prog.funcs[f]? = some fn) (hb : fn.body = some c) (hn : (fn.name == "runtime.NumGoroutine") = false) {x y : Value} (hx : x.oneCell' = true) (hy : y.oneCell' = true) {C : Con} (hC : ConOK Tryz.prog (twoV x y) C) {n : Nat}
    (h : isT (ev Tryz.prog 91 C n f [.chan (some 0), .chan (some 1)] ⟨.leaf, 0⟩) = true) (w : World) :
    Calls Tryz.prog f #[x, y] w fun e w' => e = .returned (.bool true) ∧ Below w.heap.size w w' := by
  have hV : ∀ k, (twoV x y k).oneCell' = true := withV_one hx hy 0 0
  unfold isT at h
  split at h
  · rename_i A' he
    have hd := pure_does hV (withV_opq x y 0 0) (ev_ok mixed_ok names_ok codes_ok hC n) he (args' := [x, y]) (.cons _ _ _ _ (.opq 0) (.cons _ _ _ _ (.opq 1) .nil)) rfl w
    refine (calls_of_does hf hb hn hd).mono fun e w' he => ?_
    cases e with
    | returned v => exact ⟨by rw [he.1], he.2.below⟩
    | panicked c => exact he.elim
    | outgrown => exact he.elim
  · cases h
end Go.Proofs.YtohnakjamlhhkaaGreatDoor
