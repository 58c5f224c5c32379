/- Operations, one by one: operators, slices, builds. -/
import Derived.Test.YtohnakjamlhhkaaGreatDoorSo5
namespace Go.Proofs.YtohnakjamlhhkaaGreatDoor
open Go
set_option linter.unusedVariables false
set_option linter.unusedSimpArgs false

theorem sameK_eq {j k : IntKind} (h : sameK j k = true) : j = k := by
  cases j <;> cases k <;> first | rfl | (exact absurd h (by decide))
theorem wrap_max (k : IntKind) (n : Nat) (h : n ≤ maxK k) : k.wrap (n : Int) = n := by
  cases k <;> simp [IntKind.wrap, IntKind.bits, IntKind.signed, maxK] at h ⊢ <;> omega
theorem maxK_bits (k : IntKind) : ∃ j, j ≤ k.bits ∧ maxK k + 1 = 2 ^ j := by
  cases k
  · exact ⟨7, by decide, by decide⟩
  · exact ⟨15, by decide, by decide⟩
  · exact ⟨31, by decide, by decide⟩
  · exact ⟨63, by decide, by decide⟩
  · exact ⟨8, by decide, by decide⟩
  · exact ⟨16, by decide, by decide⟩
  · exact ⟨32, by decide, by decide⟩
  · exact ⟨64, by decide, by decide⟩
theorem sumN_inv {k : IntKind} {r : Nat} {v : Value} (h : force (sumN k) r = some v) : r ≤ maxK k ∧ v = .int k r := by
  rw [force_eq] at h
  unfold sumN at h
  cases h1 : Nat.ble r (maxK k) with
  | false => rw [h1] at h; cases h
  | true => rw [h1] at h; cases h; exact ⟨Nat.le_of_ble_eq_true h1, rfl⟩
theorem bool_rec_inv {b : Bool} {x : Option Value} {v : Value} (h : Bool.rec none x b = some v) : b = true ∧ x = some v := by
  cases b with
  | false => cases h
  | true => exact ⟨rfl, h⟩

/-- Bits of two small numbers. -/
theorem small_mod {k : IntKind} {a : Nat} (h : a ≤ maxK k) : a % 2 ^ k.bits = a := by
  obtain ⟨j, hj, e⟩ := maxK_bits k
  exact Nat.mod_eq_of_lt (Nat.lt_of_lt_of_le (by omega) (Nat.pow_le_pow_right (by decide) hj))
section
variable {P : Program} {E : Em} {F : FT} {A : AH} {a : Act} {w : World} {out : Out}
theorem fast_run {op : BinOp} {k j : IntKind} {m n : Nat} {v : Value} (h : (fastC op).run k m j n = some v) (t : TypeId) (xo yo : Operand) :
    flat v = true ∧ ((do eqGuard op t xo yo (.int k m) (.int j n); binOp op t (.int k m) (.int j n)) : Sem Value).run P w = .ok v w := by
  have hg : ∀ op, eqGuard op t xo yo (.int k m) (.int j n) = pure () := fun op => by cases op <;> rfl
  rw [hg]
  cases op <;> first | (cases h; done) | skip
  case shr =>
    have h' : Bool.rec none (Bool.rec none (force (sumN k) (Nat.shiftRight m n)) (Nat.ble n 7)) (Nat.ble m (maxK k)) = some v := h
    obtain ⟨h1, h2⟩ := bool_rec_inv h'
    obtain ⟨h3, h4⟩ := bool_rec_inv h2
    obtain ⟨h5, rfl⟩ := sumN_inv h4
    have hn : n ≤ 7 := Nat.le_of_ble_eq_true h3
    have hb : min (n : Int).toNat k.bits = n := by
      have : 8 ≤ k.bits := by cases k <;> decide
      simp; omega
    have h0 : ¬ ((n : Int) < 0) := by omega
    refine ⟨rfl, ?_⟩
    simp only [binOp, Op.shift, if_neg h0, hb, pure_bind, Sem.run_pure]
    have : ((m : Int).fdiv (2 ^ n)) = ((m >>> n : Nat) : Int) := by
      rw [Nat.shiftRight_eq_div_pow]
      have : ((2 : Int) ^ n) = ((2 ^ n : Nat) : Int) := by simp
      rw [this, Int.ofNat_fdiv]
    simp only [this]; rfl
  all_goals
    obtain ⟨hk, hq⟩ := bool_rec_inv (show Bool.rec none _ (sameK k j) = some v from h)
    have hk := sameK_eq hk
    subst hk
    clear h
    have h := hq
    clear hq
  case add =>
    obtain ⟨h5, rfl⟩ := sumN_inv h
    exact ⟨rfl, by simp [binOp, Op.intArith, ← Int.natCast_add]; exact wrap_max k _ h5⟩
  case sub =>
    obtain ⟨h1, h2⟩ := bool_rec_inv h
    obtain ⟨h5, rfl⟩ := sumN_inv h2
    have hle : n ≤ m := Nat.le_of_ble_eq_true h1
    have : (m : Int) - (n : Int) = ((m - n : Nat) : Int) := by omega
    exact ⟨rfl, by simp [binOp, Op.intArith, this]; exact wrap_max k _ h5⟩
  case mul =>
    obtain ⟨h5, rfl⟩ := sumN_inv h
    exact ⟨rfl, by simp [binOp, Op.intArith, ← Int.natCast_mul]; exact wrap_max k _ h5⟩
  case and =>
    obtain ⟨h1, h2⟩ := bool_rec_inv h
    obtain ⟨h3, h4⟩ := bool_rec_inv h2
    obtain ⟨h5, rfl⟩ := sumN_inv h4
    have e1 := small_mod (Nat.le_of_ble_eq_true h1); have e2 := small_mod (Nat.le_of_ble_eq_true h3)
    exact ⟨rfl, by simp [binOp, Op.intBits, BitVec.ofInt_natCast, BitVec.toNat_and, BitVec.toNat_ofNat, e1, e2]; exact wrap_max k _ h5⟩
  case or =>
    obtain ⟨h1, h2⟩ := bool_rec_inv h
    obtain ⟨h3, h4⟩ := bool_rec_inv h2
    obtain ⟨h5, rfl⟩ := sumN_inv h4
    have e1 := small_mod (Nat.le_of_ble_eq_true h1); have e2 := small_mod (Nat.le_of_ble_eq_true h3)
    exact ⟨rfl, by simp [binOp, Op.intBits, BitVec.ofInt_natCast, BitVec.toNat_or, BitVec.toNat_ofNat, e1, e2]; exact wrap_max k _ h5⟩
  case xor =>
    obtain ⟨h1, h2⟩ := bool_rec_inv h
    obtain ⟨h3, h4⟩ := bool_rec_inv h2
    obtain ⟨h5, rfl⟩ := sumN_inv h4
    have e1 := small_mod (Nat.le_of_ble_eq_true h1); have e2 := small_mod (Nat.le_of_ble_eq_true h3)
    exact ⟨rfl, by simp [binOp, Op.intBits, BitVec.ofInt_natCast, BitVec.toNat_xor, BitVec.toNat_ofNat, e1, e2]; exact wrap_max k _ h5⟩
  case eql =>
    cases h
    refine ⟨rfl, ?_⟩
    have : ((m : Int) == (n : Int)) = Nat.beq m n := by
      rw [Bool.eq_iff_iff]; simp; omega
    simp [binOp, Op.intCmp, this]
  case neq =>
    cases h
    refine ⟨rfl, ?_⟩
    have : ((m : Int) != (n : Int)) = (Bool.rec true false (Nat.beq m n)) := by
      have h2 : ((m : Int) == (n : Int)) = Nat.beq m n := by
        rw [Bool.eq_iff_iff]; simp; omega
      rw [bne, h2]; cases Nat.beq m n <;> rfl
    simp [binOp, Op.intCmp, this]
  case lss =>
    cases h
    refine ⟨rfl, ?_⟩
    have : decide ((m : Int) < (n : Int)) = Nat.ble (Nat.succ m) n := by
      rw [Bool.eq_iff_iff]; simp [Nat.succ_le_iff]
    simp [binOp, Op.intCmp]
    simpa using this
  case leq =>
    cases h
    refine ⟨rfl, ?_⟩
    simp [binOp, Op.intCmp]
    rw [Bool.eq_iff_iff]; simp
  case gtr =>
    cases h
    refine ⟨rfl, ?_⟩
    simp [binOp, Op.intCmp]
    rw [Bool.eq_iff_iff]; simp [Nat.succ_le_iff]
  case geq =>
    cases h
    refine ⟨rfl, ?_⟩
    simp [binOp, Op.intCmp]
    rw [Bool.eq_iff_iff]; simp
theorem smallOf_inv {v : Value} {k : IntKind} {n : Nat} (h : smallOf v = some (k, n)) : v = .int k (.ofNat n) := by
  cases v <;> first | (cases h; done) | skip
  rename_i k' i
  cases i with
  | ofNat m => cases h; rfl
  | negSucc m => cases h
theorem bytes_beq (s t : ByteArray) : (s == t) = true ↔ s = t := by
  cases s with | mk s => cases t with | mk t =>
  show (s == t) = true ↔ _
  simp
instance : LawfulBEq ByteArray where
  eq_of_beq h := (bytes_beq _ _).1 h
  rfl := (bytes_beq _ _).2 rfl
theorem opq_text {i : Nat} (h : (Nat.beq i 8 || Nat.beq i 13) = true) : ∃ s, E.val i = .string s := by
  simp only [Bool.or_eq_true] at h
  rcases h with h | h
  · obtain ⟨ns, _, h2⟩ := E.opq.text [.chan (some 7)] 8 rfl
    exact ⟨_, by rw [Nat.eq_of_beq_eq_true h]; exact h2⟩
  · obtain ⟨ns, _, h2⟩ := E.opq.text sealL 13 rfl
    exact ⟨_, by rw [Nat.eq_of_beq_eq_true h]; exact h2⟩
theorem eqIn_run {t : TypeId} {x y x' y' : Value} {r : Bool} (h : eqA P t x y = some r) (hx : VRel E x x') (hy : VRel E y y') (d : Nat) : (Op.equalIn (d + 1) t x' y').run P w = .ok r w := by
  unfold eqA at h
  split at h <;> first | (cases h; done) | skip
  case h_9 hu =>
    split at h <;> first | (cases h; done) | skip
    rename_i hb
    cases h
    simp only [Bool.and_eq_true] at hb
    cases hx; cases hy
    obtain ⟨s, hs⟩ := opq_text (E := E) hb.2
    rw [← Nat.eq_of_beq_eq_true hb.1, hs]
    simp [Op.equalIn, run_und hu, (bytes_beq s s).2 rfl]
  all_goals
    rename_i hu
    cases h
    cases hx <;> cases hy
    all_goals simp [Op.equalIn, run_und hu]
theorem eqGuard_A {t : TypeId} {x y x' y' : Value} {r : Bool} (h : eqA P t x y = some r) (hx : VRel E x x') (hy : VRel E y y') (xo yo : Operand) (op : BinOp) : eqGuard op t xo yo x' y' = pure () := by
  unfold eqA at h
  split at h <;> first | (cases h; done) | skip
  case h_9 =>
    split at h <;> first | (cases h; done) | skip
    rename_i hb
    simp only [Bool.and_eq_true] at hb
    cases hx; cases hy
    obtain ⟨s, hs⟩ := opq_text (E := E) hb.2
    rw [← Nat.eq_of_beq_eq_true hb.1, hs]
    cases op <;> rfl
  all_goals
    cases hx <;> cases hy
    all_goals cases op <;> rfl
theorem eqA_run {t : TypeId} {x y x' y' : Value} {r : Bool} (h : eqA P t x y = some r) (hx : VRel E x x') (hy : VRel E y y') (xo yo : Operand) (op : BinOp) (hop : op = .eql ∨ op = .neq) :
    ((do eqGuard op t xo yo x' y'; binOp op t x' y') : Sem Value).run P w = .ok (.bool (if op = .eql then r else !r)) w := by
  have he : (Op.equal t x' y').run P w = .ok r w := eqIn_run h hx hy 9999
  rw [eqGuard_A h hx hy]
  by_cases hs : ∃ i j, x = .chan (some i) ∧ y = .chan (some j)
  · obtain ⟨i, j, rfl, rfl⟩ := hs
    clear he
    unfold eqA at h
    split at h <;> first | (cases h; done) | contradiction | skip
    rename_i i' j' hu q1 q2
    cases q1; cases q2
    split at h <;> first | (cases h; done) | skip
    rename_i hb
    cases h
    simp only [Bool.and_eq_true] at hb
    cases hx; cases hy
    obtain ⟨s, hs⟩ := opq_text (E := E) hb.2
    rw [← Nat.eq_of_beq_eq_true hb.1, hs]
    rcases hop with rfl | rfl <;> simp [binOp, Op.stringOp]
  have hb : binOp .eql t x' y' = (do pure (.bool (← Op.equal t x' y'))) ∧ binOp .neq t x' y' = (do pure (.bool (!(← Op.equal t x' y')))) := by
    clear he
    unfold eqA at h
    split at h <;> first | (cases h; done) | skip
    case h_9 => exact absurd ⟨_, _, rfl, rfl⟩ hs
    all_goals
      cases hx <;> cases hy
      all_goals exact ⟨rfl, rfl⟩
  rcases hop with rfl | rfl
  · rw [hb.1]; simp [he]
  · rw [hb.2]; simp [he]
theorem valO_out {A : AH} {q : Option Value} {out : Out} (h : valO A q = some out) : ∃ v, q = some v ∧ out = .val v A := by
  cases q with
  | none => cases h
  | some v => cases h; exact ⟨v, rfl, rfl⟩
theorem shrA_run {t : TypeId} {x y x' y' r : Value} (h : shrA x y = some r) (hx : VRel E x x') (hy : VRel E y y') (xo yo : Operand) :
    ∃ r', VRel E r r' ∧ ((do eqGuard .shr t xo yo x' y'; binOp .shr t x' y') : Sem Value).run P w = .ok r' w := by
  unfold shrA at h
  split at h <;> first | (cases h; done) | skip
  rename_i k kk
  split at h <;> first | (cases h; done) | skip
  rename_i hb
  cases h
  simp only [Bool.and_eq_true] at hb
  have h1 := Nat.le_of_ble_eq_true hb.1
  have h2 := Nat.le_of_ble_eq_true hb.2
  obtain ⟨n, e1, _, e3⟩ := E.opq.low (k - 14) (by omega)
  rw [show 14 + (k - 14) = k by omega] at e1
  rw [show 15 + (k - 14) = Nat.succ k by omega] at e3
  rw [int_inv hy]
  cases hx
  refine ⟨_, .opq _, ?_⟩
  rw [e1, e3]
  have : Int.fdiv (n : Int) 256 = ((n / 256 : Nat) : Int) := by
    rw [Int.fdiv_eq_ediv_of_nonneg _ (by decide)]
    simp
  show (binOp .shr t (.int .u32 n) (.int kk 8)).run P w = _
  simp [binOp, Op.shift, IntKind.bits, this]
theorem ok_binOp (hR : Rel E A w) (hF : FRel E F a.tmps) {op : BinOp} {t : TypeId} {x y : Operand} (h : (opBinOp P op t x y).run F A = some out) :
    OutOK P E A w ((do pure (Next.value (← (do eqGuard op t x y (a.eval x) (a.eval y); binOp op t (a.eval x) (a.eval y)))) : Sem Next).run P w) out := by
  have h' : Option.rec none (fun u => Option.rec none (fun v => (binC P op t x y).run u v F A) ((evC y).run F)) ((evC x).run F) = some out := h
  cases h1 : (evC x).run F with
  | none => rw [h1] at h'; cases h'
  | some u =>
    rw [h1] at h'
    cases h2 : (evC y).run F with
    | none => simp only [h2] at h'; cases h'
    | some v =>
      simp only [h2] at h'
      have hu := evC_rel hF h1
      have hv := evC_rel hF h2
      have h3 : Option.rec (binSlow P F A op t x y u v) (fun v => some (Out.val v A)) (opFast op u v) = some out := h'
      cases h4 : opFast op u v with
      | some r =>
        rw [h4] at h3
        cases h3
        have h5 : Option.rec none (fun p => Prod.rec (fun k a => Option.rec none (fun q => Prod.rec (fun j b => (fastC op).run k a j b) q) (smallOf v)) p) (smallOf u) = some r := h4
        cases h6 : smallOf u with
        | none => rw [h6] at h5; cases h5
        | some p =>
          obtain ⟨k, m⟩ := p
          rw [h6] at h5
          cases h7 : smallOf v with
          | none => simp only [h7] at h5; cases h5
          | some q =>
            obtain ⟨j, n⟩ := q
            simp only [h7] at h5
            have e1 := smallOf_inv h6; have e2 := smallOf_inv h7
            subst e1; subst e2
            rw [int_inv hu, int_inv hv]
            obtain ⟨hf, hr⟩ := fast_run (P := P) (w := w) h5 t x y
            exact .same hR (flat_refl hf) (run_value hr)
      | none =>
        rw [h4] at h3
        have h3' : binSlow P F A op t x y u v = some out := h3
        unfold binSlow at h3'
        split at h3'
        · rename_i hf
          simp only [Bool.and_eq_true] at hf
          obtain ⟨r, hr, hfr, rfl⟩ := flatR_inv h3'
          rw [flat_eq hf.1 hu, flat_eq hf.2 hv]
          exact .same hR (flat_refl hfr) (peval_value hr)
        · split at h3'
          · split at h3'
            · rename_i r hr
              cases h3'
              exact .same hR (.bool _) (run_value (by simpa using eqA_run hr hu hv x y .eql (.inl rfl)))
            · cases h3'
          · split at h3'
            · rename_i r hr
              cases h3'
              exact .same hR (.bool _) (run_value (by simpa using eqA_run hr hu hv x y .neq (.inr rfl)))
            · cases h3'
          · obtain ⟨r, hr, e⟩ := valO_out h3'
            subst e
            obtain ⟨r', h8, h9⟩ := shrA_run (P := P) (w := w) (t := t) hr hu hv x y
            exact .same hR h8 (run_value h9)
          · cases h3'

/-! ### Slices -/
theorem bound_run {x : Value} {n y : Nat} (h : natV x = some n) (hy : n ≤ y) {x' : Value} (hx : VRel E x x') (c : BoundsCode) : (Instr.sliceBound x' y c).run P w = .ok n w := by
  obtain ⟨k, rfl⟩ := natV_inv h
  rw [int_inv hx]
  have : (0 : Int) ≤ Int.ofNat n ∧ Int.ofNat n ≤ (y : Int) := ⟨Int.natCast_nonneg n, by simpa using hy⟩
  simp only [Instr.sliceBound, asIntOf, Sem.run_bind, Sem.run_pure, Result.andThen_ok, if_pos this]
  rfl
/-- Bounds that are given, or not. -/
inductive ORel (E : Em) : Option Value → Option Value → Prop where
  | none : ORel E none none
  | some (v v' : Value) (h : VRel E v v') : ORel E (some v) (some v')
theorem boundsA_inv {n c : Nat} {lo hi : Option Value} {l h : Nat} (hb : boundsA n c lo hi = some (l, h)) :
    l ≤ h ∧ h ≤ c ∧ (match hi with | some v => natV v = some h | none => h = n) ∧ (match lo with | some v => natV v = some l | none => l = 0) := by
  unfold boundsA at hb
  cases hi with
  | none =>
    simp only at hb
    split at hb
    · rename_i h1
      cases lo with
      | none =>
        simp only at hb
        split at hb
        · rename_i h2; cases hb; exact ⟨Nat.le_of_ble_eq_true h2, Nat.le_of_ble_eq_true h1, rfl, rfl⟩
        · cases hb
      | some v =>
        simp only at hb
        split at hb
        · rename_i q hq
          split at hb
          · rename_i h2; cases hb; exact ⟨Nat.le_of_ble_eq_true h2, Nat.le_of_ble_eq_true h1, rfl, hq⟩
          · cases hb
        · cases hb
    · cases hb
  | some u =>
    simp only at hb
    split at hb
    · rename_i p hp
      split at hb
      · rename_i h1
        cases lo with
        | none =>
          simp only at hb
          split at hb
          · rename_i h2; cases hb; exact ⟨Nat.le_of_ble_eq_true h2, Nat.le_of_ble_eq_true h1, hp, rfl⟩
          · cases hb
        | some v =>
          simp only at hb
          split at hb
          · rename_i q hq
            split at hb
            · rename_i h2; cases hb; exact ⟨Nat.le_of_ble_eq_true h2, Nat.le_of_ble_eq_true h1, hp, hq⟩
            · cases hb
          · cases hb
      · cases hb
    · cases hb
theorem bounds_run {n c c' : Nat} {lo hi lo' hi' : Option Value} {l h : Nat} (hb : boundsA n c lo hi = some (l, h)) (hc : c ≤ c') (hl : ORel E lo lo') (hh : ORel E hi hi') (s : Bool) :
    (Instr.sliceBounds s n c' lo' hi' none).run P w = .ok (l, h, c') w := by
  obtain ⟨h1, h2, h3, h4⟩ := boundsA_inv hb
  cases hh with
  | none =>
    simp only at h3; subst h3
    cases hl with
    | none => simp only at h4; subst h4; simp [Instr.sliceBounds]
    | some v v' hv => simp only at h4; simp [Instr.sliceBounds, bound_run h4 h1 hv]
  | some u u' hu =>
    simp only at h3
    cases hl with
    | none => simp only at h4; subst h4; simp [Instr.sliceBounds, bound_run h3 (Nat.le_trans h2 hc) hu]
    | some v v' hv => simp only at h4; simp [Instr.sliceBounds, bound_run h3 (Nat.le_trans h2 hc) hu, bound_run h4 h1 hv]
theorem bounds3_run {n m c' : Nat} {lo lo' : Option Value} {u u' x x' : Value} {l h : Nat} (hb : boundsA n m lo (some u) = some (l, h)) (hm : natV x = some m) (hmc : m ≤ c') (hx : VRel E x x') (hl : ORel E lo lo') (hu : VRel E u u') :
    (Instr.sliceBounds true n c' lo' (some u') (some x')).run P w = .ok (l, h, m) w := by
  obtain ⟨h1, h2, h3, h4⟩ := boundsA_inv hb
  simp only at h3
  cases hl with
  | none => simp only at h4; subst h4; simp [Instr.sliceBounds, bound_run hm hmc hx, bound_run h3 h2 hu]
  | some v v' hv => simp only at h4; simp [Instr.sliceBounds, bound_run hm hmc hx, bound_run h3 h2 hu, bound_run h4 h1 hv]
theorem spotIs_eq {b : Addr} {sz : Nat} (h : spotIs b sz = true) : b.spot = some sz := by
  unfold spotIs at h
  split at h
  · rename_i k hk; rw [hk, Nat.eq_of_beq_eq_true h]
  · cases h
/-- A part of a row. -/
theorem slc_part {b : Addr} {B s l h c sz m : Nat} (hb : E.blk b.block = some (B, s)) (hlh : l ≤ h) (hhc : h ≤ c) (hcm : c ≤ m) (hr : b.off + s + m * sz ≤ E.room B) :
    VRel E (.slice (some ⟨b.block, b.off + l * sz, some sz⟩) (h - l) (c - l)) (.slice (some (if m = l then ⟨B, b.off + s, none⟩ else (⟨B, b.off + s, none⟩ : Addr).add (l * sz))) (h - l) (m - l)) := by
  by_cases hml : m = l
  · have h1 : h - l = 0 := by omega
    have h2 : c - l = 0 := by omega
    have h3 : m - l = 0 := by omega
    rw [h1, h2, h3]
    exact .slc0 _ _ _ _
  · rw [if_neg hml, addr_add, show b.off + s + l * sz = b.off + l * sz + s by omega]
    refine .slc _ _ _ _ _ _ _ _ hb (by omega) (by omega) ?_
    have : l * sz + (m - l) * sz = m * sz := by rw [← Nat.add_mul]; congr 1; omega
    omega
theorem sliceOp_run (hR : Rel E A w) {t : TypeId} {x x' : Value} {lo hi lo' hi' : Option Value} {v : Value} (h : sliceOp P A t x lo hi = some v) (hx : VRel E x x') (hl : ORel E lo lo') (hh : ORel E hi hi') :
    ∃ v', (Instr.sliceAt t x' lo' hi' none).run P w = .ok v' w ∧ VRel E v v' := by
  unfold sliceOp at h
  split at h
  · rename_i e b n c hu
    split at h
    · rename_i l hh' sz hb hsz
      split at h
      · rename_i hsp
        cases h
        have hsp := spotIs_eq hsp
        obtain ⟨h1, h2, _, _⟩ := boundsA_inv hb
        cases hx with
        | slc bb o n c c' B s sz' hbl hn hc hr =>
          cases hsp
          have := bounds_run (P := P) (w := w) hb hc hl hh true
          refine ⟨_, ?_, slc_part (b := ⟨bb, o, some sz⟩) hbl h1 h2 hc hr⟩
          simp only [Instr.sliceAt, Instr.slice, Sem.run_bind, run_und hu, Result.andThen_ok, this, run_size hsz, Sem.run_pure]
          by_cases hq : c' = l <;> simp [hq]
        | slc0 bb o sz' b' =>
          cases hsp
          have := bounds_run (P := P) (w := w) hb (Nat.le_refl 0) hl hh true
          have hl0 : l = 0 := by omega
          have hh0 : hh' = 0 := by omega
          subst hl0; subst hh0
          refine ⟨.slice (some b') 0 0, ?_, .slc0 _ _ _ _⟩
          simp [Instr.sliceAt, Instr.slice, run_und hu, this, run_size hsz]
      · cases h
    · cases h
  · rename_i e hu
    split at h
    · rename_i p sz hb hsz
      cases h
      obtain ⟨l, hh'⟩ := p
      obtain ⟨h1, h2, _, _⟩ := boundsA_inv hb
      cases hx
      have := bounds_run (P := P) (w := w) hb (Nat.le_refl 0) hl hh true
      have hl0 : l = 0 := by omega
      have hh0 : hh' = 0 := by omega
      subst hl0; subst hh0
      refine ⟨.slice none 0 0, ?_, .slcNil⟩
      simp [Instr.sliceAt, Instr.slice, run_und hu, this, run_size hsz]
    · cases h
  · rename_i n e b hu
    split at h
    · rename_i l hh' sz e' cs m hb hsz ho
      split at h
      · cases h
      · rename_i q hq
        split at h
        · rename_i y hy
          cases h
          obtain ⟨h1, h2, _, _⟩ := boundsA_inv hb
          obtain ⟨B, s, _, hbl, rfl⟩ := hx.ptr_inv
          rw [nth_eq] at hy
          obtain ⟨c, hrow, hsize, hcs⟩ := hR.rowAt ho hbl
          obtain ⟨_, y', hy', _⟩ := hcs _ _ hy
          have hlt := (Array.getElem?_eq_some_iff.1 hy').1
          have := bounds_run (P := P) (w := w) hb (Nat.le_refl n) hl hh false
          refine ⟨_, ?_, slc_part hbl h1 h2 (Nat.le_refl n) (by omega)⟩
          simp [Instr.sliceAt, run_und hu, Instr.sureAddr, this, run_size hsz]
        · cases h
    · cases h
  · rename_i s hu
    split at h
    · rename_i l hh' hb
      cases h
      rw [str_inv hx]
      have := bounds_run (P := P) (w := w) hb (Nat.le_refl _) hl hh false
      refine ⟨.string (s.extract l hh'), ?_, .string _⟩
      simp [Instr.sliceAt, Instr.slice, run_und hu, this]
    · cases h
  · cases h
theorem slice3_run {t : TypeId} {x x' : Value} {lo hi lo' hi' : Option Value} {q q' : Value} {m : Nat} {v : Value} (h : slice3 P t x lo hi m = some v) (hq : natV q = some m) (hqr : VRel E q q') (hx : VRel E x x') (hl : ORel E lo lo') (hh : ORel E hi hi') :
    ∃ v', (Instr.sliceAt t x' lo' hi' (some q')).run P w = .ok v' w ∧ VRel E v v' := by
  unfold slice3 at h
  split at h
  · rename_i e b n c u hu
    cases hh with
    | some _ u' hur =>
    split at h
    · rename_i hm
      have hm := Nat.le_of_ble_eq_true hm
      split at h
      · rename_i l hh' sz hb hsz
        split at h
        · rename_i hsp
          cases h
          have hsp := spotIs_eq hsp
          obtain ⟨h1, h2, _, _⟩ := boundsA_inv hb
          cases hx with
          | slc bb o n c c' B s sz' hbl hn hc hr =>
            cases hsp
            have := bounds3_run (P := P) (w := w) hb hq (Nat.le_trans hm hc) hqr hl hur
            have hle : m * sz ≤ c' * sz := Nat.mul_le_mul_right _ (Nat.le_trans hm hc)
            refine ⟨_, ?_, slc_part (b := ⟨bb, o, some sz⟩) hbl h1 h2 (Nat.le_refl m) (by show o + s + m * sz ≤ _; omega)⟩
            simp only [Instr.sliceAt, Instr.slice, Sem.run_bind, run_und hu, Result.andThen_ok, this, run_size hsz, Sem.run_pure]
            by_cases hq : m = l <;> simp [hq]
          | slc0 bb o sz' b' =>
            cases hsp
            have hm0 : m = 0 := by omega
            subst hm0
            have := bounds3_run (P := P) (w := w) hb hq (Nat.le_refl 0) hqr hl hur
            have hl0 : l = 0 := by omega
            have hh0 : hh' = 0 := by omega
            subst hl0; subst hh0
            refine ⟨.slice (some b') 0 0, ?_, .slc0 _ _ _ _⟩
            simp [Instr.sliceAt, Instr.slice, run_und hu, this, run_size hsz]
        · cases h
      · cases h
    · cases h
  · rename_i e u hu
    cases hh with
    | some _ u' hur =>
    split at h
    · rename_i p sz hb hsz
      cases h
      obtain ⟨l, hh'⟩ := p
      obtain ⟨h1, h2, _, _⟩ := boundsA_inv hb
      cases hx
      have := bounds3_run (P := P) (w := w) hb hq (Nat.le_refl 0) hqr hl hur
      have hl0 : l = 0 := by omega
      have hh0 : hh' = 0 := by omega
      subst hl0; subst hh0
      refine ⟨.slice none 0 0, ?_, .slcNil⟩
      simp [Instr.sliceAt, Instr.slice, run_und hu, this, run_size hsz]
    · cases h
  · cases h
theorem opt_rel (hF : FRel E F a.tmps) {lo : Option Operand} {r : Option Value} (h : (match lo with | none => some none | some l => (AFr.eval F l).map some) = some r) : ORel E r (lo.map a.eval) := by
  cases lo with
  | none => cases h; exact .none
  | some l =>
    simp only at h
    cases h1 : AFr.eval F l with
    | none => rw [h1] at h; cases h
    | some v => rw [h1] at h; cases h; exact .some _ _ (evC_rel hF (eval_some h1))
theorem ok_slice (hR : Rel E A w) (hF : FRel E F a.tmps) {t : TypeId} {x : Operand} {lo hi : Option Operand} (h : opSlice P F A t x lo hi = some out) :
    OutOK P E A w ((do pure (Next.value (← Instr.sliceAt t (a.eval x) (lo.map a.eval) (hi.map a.eval) none)) : Sem Next).run P w) out := by
  unfold opSlice at h
  split at h
  · rename_i v hx
    split at h
    · rename_i l u hl hu
      split at h
      · rename_i r hr
        cases h
        obtain ⟨v', h1, h2⟩ := sliceOp_run hR hr (evC_rel hF (eval_some hx)) (opt_rel hF hl) (opt_rel hF hu)
        exact .same hR h2 (run_value h1)
      · cases h
    · cases h
  · cases h
theorem ok_slice3 (hR : Rel E A w) (hF : FRel E F a.tmps) {t : TypeId} {x : Operand} {lo hi : Option Operand} {mx : Operand} (h : opSlice3 P F A t x lo hi mx = some out) :
    OutOK P E A w ((do pure (Next.value (← Instr.sliceAt t (a.eval x) (lo.map a.eval) (hi.map a.eval) (some (a.eval mx)))) : Sem Next).run P w) out := by
  unfold opSlice3 at h
  split at h
  · rename_i v q hx hq
    split at h
    · rename_i l u m hl hu hm
      split at h
      · rename_i r hr
        cases h
        obtain ⟨v', h1, h2⟩ := slice3_run (w := w) hr hm (evC_rel hF (eval_some hq)) (evC_rel hF (eval_some hx)) (opt_rel hF hl) (opt_rel hF hu)
        exact .same hR h2 (run_value h1)
      · cases h
    · cases h
  · cases h
end
end Go.Proofs.YtohnakjamlhhkaaGreatDoor
