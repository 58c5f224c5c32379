/- The relation between what the evaluator holds and the world. -/
import Derived.Test.YtohnakjamlhhkaaGreatDoorEv
import Derived.Laws.CopyRow
import Derived.Laws.AppendOwn
namespace Go.Proofs.YtohnakjamlhhkaaGreatDoor
open Go
set_option linter.unusedVariables false
set_option linter.unusedSimpArgs false

/-- What stands for a value that is not known. -/
def subV (f : Nat → Value) : Value → Value
  | .chan (some k) => f k
  | v => v
def textOf (ns : List Int) : Value := .string ⟨(ns.map fun n => UInt8.ofNat n.toNat).toArray⟩
/-- The byte, its check, and their texts. -/
structure Opq (f : Nat → Value) : Prop where
  low : ∀ i, i < 4 → ∃ n : Nat, f (14 + i) = .int .u32 n ∧ f (9 + i) = .int .u8 (n % 256 : Nat) ∧ f (15 + i) = .int .u32 (n / 256 : Nat)
  text : ∀ r k, strK r = some k → ∃ ns : List Int, r.map (subV f) = ns.map (.int .u8) ∧ f k = textOf ns
/-- Two values of a law, a byte and its check. -/
def withV (x y : Value) (b s : Nat) : Nat → Value
  | 0 => x
  | 1 => y
  | 7 => .int .u8 b
  | 8 => textOf [(b : Int)]
  | 9 => .int .u8 (s % 256 : Nat)
  | 10 => .int .u8 (s / 256 % 256 : Nat)
  | 11 => .int .u8 (s / 256 / 256 % 256 : Nat)
  | 12 => .int .u8 (s / 256 / 256 / 256 % 256 : Nat)
  | 13 => textOf ([0, 0, 0, 0, 0, 0, 0, 0, 0, (b : Int), 0, 0, 0, 0, 0, 0, (s % 256 : Nat), (s / 256 % 256 : Nat), (s / 256 / 256 % 256 : Nat), (s / 256 / 256 / 256 % 256 : Nat)])
  | 14 => .int .u32 s
  | 15 => .int .u32 (s / 256 : Nat)
  | 16 => .int .u32 (s / 256 / 256 : Nat)
  | 17 => .int .u32 (s / 256 / 256 / 256 : Nat)
  | 18 => .int .u32 (s / 256 / 256 / 256 / 256 : Nat)
  | _ => .int .i64 0
theorem cellEq_eq {v u : Value} (h : cellEq v u = true) : v = u := by
  unfold cellEq at h
  split at h
  · rw [Nat.eq_of_beq_eq_true h]
  · rw [Nat.eq_of_beq_eq_true h]
  · cases h
theorem cellsEq_eq : ∀ {l m : List Value}, cellsEq l m = true → l = m
  | [], [], _ => rfl
  | a :: l, b :: m, h => by
    simp only [cellsEq, Bool.and_eq_true] at h
    rw [cellEq_eq h.1, cellsEq_eq h.2]
  | [], _ :: _, h => by cases h
  | _ :: _, [], h => by cases h
theorem strK_inv {r : List Value} {k : Nat} (h : strK r = some k) : (r = [.chan (some 7)] ∧ k = 8) ∨ (r = sealL ∧ k = 13) := by
  unfold strK at h
  split at h
  · rename_i hq
    cases h
    exact .inl ⟨cellsEq_eq hq, rfl⟩
  · split at h
    · rename_i hq
      cases h
      exact .inr ⟨cellsEq_eq hq, rfl⟩
    · cases h
theorem withV_opq (x y : Value) (b s : Nat) : Opq (withV x y b s) := by
  refine ⟨fun i hi => ?_, fun r k h => ?_⟩
  · match i, hi with
    | 0, _ => exact ⟨s, rfl, rfl, rfl⟩
    | 1, _ => exact ⟨s / 256, rfl, rfl, rfl⟩
    | 2, _ => exact ⟨s / 256 / 256, rfl, rfl, rfl⟩
    | 3, _ => exact ⟨s / 256 / 256 / 256, rfl, rfl, rfl⟩
  · rcases strK_inv h with ⟨rfl, rfl⟩ | ⟨rfl, rfl⟩
    · exact ⟨[(b : Int)], rfl, rfl⟩
    · exact ⟨[0, 0, 0, 0, 0, 0, 0, 0, 0, (b : Int), 0, 0, 0, 0, 0, 0, (s % 256 : Nat), (s / 256 % 256 : Nat), (s / 256 / 256 % 256 : Nat), (s / 256 / 256 / 256 % 256 : Nat)], rfl, rfl⟩
theorem withV_one {x y : Value} (hx : x.oneCell' = true) (hy : y.oneCell' = true) (b s : Nat) : ∀ k, (withV x y b s k).oneCell' = true := fun k => by
  unfold withV
  split <;> first | exact hx | exact hy | rfl
/-- Where the evaluator's rows lie, and what its opaque values are. -/
structure Em where
  blk : Nat → Option (Nat × Nat)
  val : Nat → Value
  one : ∀ k, (val k).oneCell' = true
  opq : Opq val
  /-- How many cells a block of the world has. -/
  room : Nat → Nat

mutual
inductive VRel (E : Em) : Value → Value → Prop where
  | unk (v : Value) : VRel E (.chan none) v
  | opq (k : Nat) : VRel E (.chan (some k)) (E.val k)
  | bool (b : Bool) : VRel E (.bool b) (.bool b)
  | int (k : IntKind) (n : Int) : VRel E (.int k n) (.int k n)
  | float (k : FloatKind) (n : Nat) : VRel E (.float k n) (.float k n)
  | complex (k : FloatKind) (n m : Nat) : VRel E (.complex k n m) (.complex k n m)
  | string (s : ByteArray) : VRel E (.string s) (.string s)
  | ptrNil : VRel E (.pointer none) (.pointer none)
  | slcNil : VRel E (.slice none 0 0) (.slice none 0 0)
  | mapNil : VRel E (.map none) (.map none)
  | ptr (b o B s : Nat) (h : E.blk b = some (B, s)) : VRel E (.pointer (some ⟨b, o, none⟩)) (.pointer (some ⟨B, o + s, none⟩))
  | slc (b o n c c' B s sz : Nat) (h : E.blk b = some (B, s)) (hn : n ≤ c) (hc : c ≤ c') (hr : o + s + c' * sz ≤ E.room B) :
    VRel E (.slice (some ⟨b, o, some sz⟩) n c) (.slice (some ⟨B, o + s, none⟩) n c')
  /-- Without room nobody knows where it stands. -/
  | slc0 (b o sz : Nat) (a : Addr) : VRel E (.slice (some ⟨b, o, some sz⟩) 0 0) (.slice (some a) 0 0)
  | map (r R : Nat) (h : E.blk r = some (R, 0)) : VRel E (.map (some r)) (.map (some R))
  | func (f : Fn) (a c a' c' : Array Value) (ha : VRels E a.toList a'.toList) (hc : VRels E c.toList c'.toList) : VRel E (.func f a c) (.func f a' c')
  | nilFunc : VRel E .nilFunc .nilFunc
  | iface (t : TypeId) (v v' : Value) (h : VRel E v v') : VRel E (.iface t v) (.iface t v')
  | nilIface : VRel E .nilIface .nilIface
  | agg (a a' : Array Value) (h : VRels E a.toList a'.toList) : VRel E (.agg a) (.agg a')
  | tuple (a a' : Array Value) (h : VRels E a.toList a'.toList) : VRel E (.tuple a) (.tuple a')
inductive VRels (E : Em) : List Value → List Value → Prop where
  | nil : VRels E [] []
  | cons (v v' : Value) (l l' : List Value) (h : VRel E v v') (t : VRels E l l') : VRels E (v :: l) (v' :: l')
end

/-- E' knows what E knows. -/
structure Em.le (E E' : Em) : Prop where
  blk : ∀ b p, E.blk b = some p → E'.blk b = some p
  val : E'.val = E.val
  room : ∀ b B s, E.blk b = some (B, s) → E'.room B = E.room B

mutual
theorem VRel.mono {E E' : Em} (h : E.le E') : ∀ {v v' : Value}, VRel E v v' → VRel E' v v'
  | _, _, .unk v => .unk v
  | _, _, .opq k => by rw [← h.val]; exact .opq k
  | _, _, .bool b => .bool b
  | _, _, .int k n => .int k n
  | _, _, .float k n => .float k n
  | _, _, .complex k n m => .complex k n m
  | _, _, .string s => .string s
  | _, _, .ptrNil => .ptrNil
  | _, _, .slcNil => .slcNil
  | _, _, .slc0 b o sz a => .slc0 b o sz a
  | _, _, .mapNil => .mapNil
  | _, _, .ptr b o B s hb => .ptr b o B s (h.blk _ _ hb)
  | _, _, .slc b o n c c' B s sz hb hn hc hr => .slc b o n c c' B s sz (h.blk _ _ hb) hn hc (by rw [h.room b B s hb]; exact hr)
  | _, _, .map r R hb => .map r R (h.blk _ _ hb)
  | _, _, .func f a c a' c' ha hc => .func f a c a' c' (VRels.mono h ha) (VRels.mono h hc)
  | _, _, .nilFunc => .nilFunc
  | _, _, .iface t v v' hv => .iface t v v' (VRel.mono h hv)
  | _, _, .nilIface => .nilIface
  | _, _, .agg a a' ha => .agg a a' (VRels.mono h ha)
  | _, _, .tuple a a' ha => .tuple a a' (VRels.mono h ha)
theorem VRels.mono {E E' : Em} (h : E.le E') : ∀ {l l' : List Value}, VRels E l l' → VRels E' l l'
  | _, _, .nil => .nil
  | _, _, .cons v v' l l' hv ht => .cons v v' l l' (VRel.mono h hv) (VRels.mono h ht)
end

theorem VRels.length {E : Em} : ∀ {l l' : List Value}, VRels E l l' → l.length = l'.length
  | _, _, .nil => rfl
  | _, _, .cons _ _ _ _ _ ht => by simp [VRels.length ht]

theorem VRels.get {E : Em} : ∀ {l l' : List Value} {i : Nat} {v : Value}, VRels E l l' → l[i]? = some v → ∃ v', l'[i]? = some v' ∧ VRel E v v'
  | _, _, _, _, .nil, h => by simp at h
  | _, _, 0, v, .cons _ v' _ _ hv _, h => by simp at h; subst h; exact ⟨v', rfl, hv⟩
  | _, _, i + 1, v, .cons _ _ _ _ _ ht, h => by simpa using VRels.get ht (by simpa using h)

theorem VRels.append {E : Em} : ∀ {l l' m m' : List Value}, VRels E l l' → VRels E m m' → VRels E (l ++ m) (l' ++ m')
  | _, _, _, _, .nil, hm => hm
  | _, _, _, _, .cons v v' _ _ hv ht, hm => .cons _ _ _ _ hv (VRels.append ht hm)

/-- Numbers and values that are not known. -/
def plainC : Value → Bool
  | .int _ _ => true
  | .chan (some _) => true
  | _ => false
theorem VRel.subs {E : Em} {v v' : Value} (hp : plainC v = true) (h : VRel E v v') : v' = subV E.val v := by
  cases h <;> first | rfl | cases hp
theorem VRels.subs {E : Em} : ∀ {l l' : List Value}, VRels E l l' → l.all plainC = true → l' = l.map (subV E.val)
  | _, _, .nil, _ => rfl
  | _, _, .cons v v' l l' hv ht, h => by
    simp only [List.all_cons, Bool.and_eq_true] at h
    rw [hv.subs h.1, ht.subs h.2]
    rfl
theorem strK_plain {r : List Value} {k : Nat} (h : strK r = some k) : r.all plainC = true := by
  rcases strK_inv h with ⟨rfl, _⟩ | ⟨rfl, _⟩ <;> rfl
/-! ### Values without addresses stand for themselves -/
theorem flats_eq {E : Em} {k : Nat} (ih : ∀ v v', flatN k v = true → VRel E v v' → v' = v) : ∀ {l l' : List Value}, VRels E l l' → l.all (flatN k) = true → l' = l
  | _, _, .nil, _ => rfl
  | _, _, .cons v v' l l' hv ht, h => by
    simp only [List.all_cons, Bool.and_eq_true] at h
    rw [ih _ _ h.1 hv, flats_eq ih ht h.2]

theorem flatN_eq {E : Em} : ∀ (k : Nat) (v v' : Value), flatN k v = true → VRel E v v' → v' = v := by
  intro k
  induction k with
  | zero => intro v v' h; simp [flatN] at h
  | succ k ih =>
    intro v v' h hr
    cases hr <;> first | rfl | (simp [flatN] at h; done) | skip
    case func f a c a' c' ha hc =>
      simp only [flatN, Bool.and_eq_true, List.isEmpty_iff] at h
      obtain ⟨h1, h2⟩ := h
      rw [h1] at ha; rw [h2] at hc
      cases a' with | mk a' => cases c' with | mk c' =>
      cases a with | mk a => cases c with | mk c =>
      simp at h1 h2 ha hc
      subst h1 h2
      cases ha; cases hc; rfl
    case iface t v v' hv => rw [ih v v' (by simpa [flatN] using h) hv]
    case agg a a' ha =>
      cases a' with | mk a' => cases a with | mk a =>
      have := flats_eq ih ha (by simpa [flatN] using h)
      simp at this; subst this; rfl
    case tuple a a' ha =>
      cases a' with | mk a' => cases a with | mk a =>
      have := flats_eq ih ha (by simpa [flatN] using h)
      simp at this; subst this; rfl
theorem flat_eq {E : Em} {v v' : Value} (h : flat v = true) (hr : VRel E v v') : v' = v := flatN_eq 6 v v' h hr

theorem flats_refl {E : Em} {k : Nat} (ih : ∀ v, flatN k v = true → VRel E v v) : ∀ {l : List Value}, l.all (flatN k) = true → VRels E l l
  | [], _ => .nil
  | v :: l, h => by
    simp only [List.all_cons, Bool.and_eq_true] at h
    exact .cons _ _ _ _ (ih v h.1) (flats_refl ih h.2)
theorem flatN_refl {E : Em} : ∀ (k : Nat) (v : Value), flatN k v = true → VRel E v v := by
  intro k
  induction k with
  | zero => intro v h; simp [flatN] at h
  | succ k ih =>
    intro v h
    unfold flatN at h
    split at h <;> first | constructor | skip
    all_goals first | (simp only [Bool.and_eq_true, List.isEmpty_iff] at h; rw [h.1]; exact .nil) | (simp only [Bool.and_eq_true, List.isEmpty_iff] at h; rw [h.2]; exact .nil) | exact ih _ h | exact flats_refl ih h | cases h
theorem flat_refl {E : Em} {v : Value} (h : flat v = true) : VRel E v v := flatN_refl 6 v h

/-- What asks no world comes to the same in every world. -/
theorem peval_run {α : Type} {P : Program} : ∀ (s : Sem α) (a : α), peval P s = some a → ∀ w, s.run P w = .ok a w := by
  intro s
  induction s with
  | pure a => intro b h w; simp [peval] at h; subst h; rfl
  | program k ih => intro b h w; simp only [peval] at h; have := ih P b h w; simpa [Sem.run] using this
  | mark m k ih => intro b h w; simp only [peval] at h; have := ih b h w; simpa [Sem.run] using this
  | _ => intro b h; simp [peval] at h
end Go.Proofs.YtohnakjamlhhkaaGreatDoor
