/- crc.Sum of a sector that holds a byte that is not known: a number that hangs on the byte alone. -/
import Derived.Test.YtohnakjamlhhkaaGreatDoorKU
namespace Go.Proofs.YtohnakjamlhhkaaGreatDoor
open Go Go.RowKit
set_option linter.unusedVariables false
set_option linter.unusedSimpArgs false
set_option maxRecDepth 100000
/-- The check of such a sector is value 14. -/
noncomputable def sumC (C : Con) : Con := fun g args A => match Nat.beq g 116, args with
  | true, [.slice (some a) 16 c] => match A.obj a.block with
    | some (.row _ cs _) => match slice_ cs a.off 16 with
      | some r => match cellsEq r bodyL with
        | true => some (.chan (some 14), A)
        | false => C g args A
      | none => C g args A
    | _ => C g args A
  | _, _ => C g args A
/-- The sector's bytes. -/
def secB (b : Int) (k : Nat) : Int := if k = 9 then b else 0
/-- Its check. -/
def secS (b : Int) : Int := bits .xor .u32 IntKind.u32.max (stI 0 (secB b) 16)
theorem sumC_ok {V : Nat → Value} {C : Con} (hC : ConOK Tryz.prog V C) {b : Int} (h7 : V 7 = .int .u8 b) (h14 : V 14 = .int .u32 (secS b)) : ConOK Tryz.prog V (sumC C) := by
  intro g args A v A' h E w args' hV ha hR
  have old := hC g args A v A'
  unfold sumC at h
  split at h
  · rename_i a c hg
    have := Nat.eq_of_beq_eq_true hg
    subst this
    split at h
    · rename_i e cs m ho
      split at h
      · rename_i r hr
        split at h
        · rename_i heq
          have hb := cellsEq_eq heq
          subst hb
          cases h
          cases ha with
          | cons _ x' _ _ hx ht =>
            cases ht
            cases hx with
            | slc bb o n c1 c' B s sz hbl hn hc hrm =>
              obtain ⟨r', h1, h2, h3, h4⟩ := hR.range ho hbl hr
              have h5 := h1.subs (show bodyL.all plainC = true from rfl)
              rw [hV] at h5
              have hB : B < w.heap.size := hR.lt _ _ _ hbl
              refine does_of_calls Tryz.func116 (by rfl) (by kernel_rfl) fun R' hR' => ?_
              refine (sum_any B (o + s) c' (secB b) w hB fun k hk => ?_).mono fun e w' ⟨he, hg⟩ => ?_
              · refine h4 k _ ?_
                rw [h5]
                match k, hk with
                | 0, _ => rfl
                | 1, _ => rfl
                | 2, _ => rfl
                | 3, _ => rfl
                | 4, _ => rfl
                | 5, _ => rfl
                | 6, _ => rfl
                | 7, _ => rfl
                | 8, _ => rfl
                | 9, _ => show some (V 7) = _; rw [h7]; rfl
                | 10, _ => rfl
                | 11, _ => rfl
                | 12, _ => rfl
                | 13, _ => rfl
                | 14, _ => rfl
                | 15, _ => rfl
                | k + 16, h => exact absurd h (by omega)
              · subst he
                refine hR' _ _ ⟨E, .grew hR hg, ?_⟩
                have : VRel E (.chan (some 14)) (E.val 14) := .opq 14
                rw [hV, h14] at this
                exact this
        · exact old h E w args' hV ha hR
      · exact old h E w args' hV ha hR
    · exact old h E w args' hV ha hR
  · exact old h E w args' hV ha hR
/-- What is said of the calls of TopFails. -/
noncomputable def failsC (k : Nat) : Con := sumC (addC 7 (arArgs 0 4) (.int .i64 (.ofNat k)) baseC)
end Go.Proofs.YtohnakjamlhhkaaGreatDoor
