/- lines.commands: what it lays down first, in whatever order. -/
import Derived.Test.YtohnakjamlhhkaaGreatDoorKG
namespace Go.Proofs.YtohnakjamlhhkaaGreatDoor
open Go Go.Proofs Go.RowKit
set_option linter.unusedVariables false
set_option linter.unusedSimpArgs false
set_option maxRecDepth 100000

/-- Each operation, and where its value goes. -/
def rows1 : List (Op × Option Nat) := [(Op.makeMap 178 none, some 6),
  (Op.load 119 (Operand.tmp 1), some 7),
  (Op.nilCheck (Operand.tmp 7), some 8),
  (Op.fieldAddr 169 (Operand.tmp 8) 1, some 9),
  (Op.load 57 (Operand.tmp 9), some 10),
  (Op.call { callee := Callee.value (Operand.func 135), args := #[Operand.tmp 10], argTypes := #[57] }, some 11),
  (Op.insert 178 (Operand.tmp 6) (Operand.const (Value.string { data := #[102, 97, 105, 108, 115] })) (Operand.tmp 11), none),
  (Op.load 119 (Operand.tmp 1), some 12),
  (Op.nilCheck (Operand.tmp 12), some 13),
  (Op.fieldAddr 169 (Operand.tmp 13) 2, some 14),
  (Op.load 57 (Operand.tmp 14), some 15),
  (Op.call { callee := Callee.value (Operand.func 135), args := #[Operand.tmp 15], argTypes := #[57] }, some 16),
  (Op.insert 178 (Operand.tmp 6) (Operand.const (Value.string { data := #[107, 101, 101, 112, 115] })) (Operand.tmp 16), none),
  (Op.load 119 (Operand.tmp 1), some 17),
  (Op.makeFunc (Fn.func 136) #[Operand.tmp 17] #[], some 18),
  (Op.build 176 #[(0, Operand.const (Value.int IntKind.i64 (-1))), (1, Operand.tmp 18)], some 19),
  (Op.insert 178 (Operand.tmp 6) (Operand.const (Value.string { data := #[112, 111, 111, 108] })) (Operand.tmp 19), none),
  (Op.load 119 (Operand.tmp 1), some 20),
  (Op.makeFunc (Fn.func 137) #[Operand.tmp 20] #[], some 21),
  (Op.build 176 #[(0, Operand.const (Value.int IntKind.i64 (-1))), (1, Operand.tmp 21)], some 22),
  (Op.insert 178 (Operand.tmp 6) (Operand.const (Value.string { data := #[109, 105, 110, 116] })) (Operand.tmp 22), none),
  (Op.load 119 (Operand.tmp 1), some 23),
  (Op.makeFunc (Fn.func 138) #[Operand.tmp 23] #[], some 24),
  (Op.build 176 #[(0, Operand.const (Value.int IntKind.i64 0)), (1, Operand.tmp 24)], some 25),
  (Op.insert 178 (Operand.tmp 6) (Operand.const (Value.string { data := #[97, 116] })) (Operand.tmp 25), none),
  (Op.makeFunc (Fn.func 139) #[] #[Operand.tmp 1], some 26),
  (Op.build 176 #[(0, Operand.const (Value.int IntKind.i64 1)), (1, Operand.tmp 26)], some 27),
  (Op.insert 178 (Operand.tmp 6) (Operand.const (Value.string { data := #[114, 111, 111, 116] })) (Operand.tmp 27), none),
  (Op.makeFunc (Fn.func 142) #[] #[Operand.tmp 1], some 28),
  (Op.build 176 #[(0, Operand.const (Value.int IntKind.i64 5)), (1, Operand.tmp 28)], some 29),
  (Op.insert 178 (Operand.tmp 6) (Operand.const (Value.string { data := #[114, 101, 118, 111, 107, 101] })) (Operand.tmp 29), none),
  (Op.makeFunc (Fn.func 146) #[] #[Operand.tmp 1], some 30),
  (Op.build 176 #[(0, Operand.const (Value.int IntKind.i64 2)), (1, Operand.tmp 30)], some 31),
  (Op.insert 178 (Operand.tmp 6) (Operand.const (Value.string { data := #[114, 97, 119] })) (Operand.tmp 31), none),
  (Op.makeFunc (Fn.func 149) #[] #[Operand.tmp 1], some 32),
  (Op.build 176 #[(0, Operand.const (Value.int IntKind.i64 1)), (1, Operand.tmp 32)], some 33),
  (Op.insert 178 (Operand.tmp 6) (Operand.const (Value.string { data := #[116, 105, 99, 107] })) (Operand.tmp 33), none),
  (Op.makeFunc (Fn.func 152) #[] #[Operand.tmp 1], some 34),
  (Op.build 176 #[(0, Operand.const (Value.int IntKind.i64 0)), (1, Operand.tmp 34)], some 35),
  (Op.insert 178 (Operand.tmp 6) (Operand.const (Value.string { data := #[99, 114, 97, 115, 104] })) (Operand.tmp 35), none),
  (Op.makeFunc (Fn.func 153) #[] #[Operand.tmp 1], some 36),
  (Op.build 176 #[(0, Operand.const (Value.int IntKind.i64 5)), (1, Operand.tmp 36)], some 37),
  (Op.insert 178 (Operand.tmp 6) (Operand.const (Value.string { data := #[116, 117, 114, 110] })) (Operand.tmp 37), none),
  (Op.makeFunc (Fn.func 155) #[] #[Operand.tmp 1], some 38),
  (Op.build 176 #[(0, Operand.const (Value.int IntKind.i64 3)), (1, Operand.tmp 38)], some 39),
  (Op.insert 178 (Operand.tmp 6) (Operand.const (Value.string { data := #[108, 97, 115, 116, 105, 110, 103] })) (Operand.tmp 39), none),
  (Op.makeFunc (Fn.func 158) #[] #[Operand.tmp 1], some 40),
  (Op.build 176 #[(0, Operand.const (Value.int IntKind.i64 1)), (1, Operand.tmp 40)], some 41),
  (Op.insert 178 (Operand.tmp 6) (Operand.const (Value.string { data := #[111, 117, 116] })) (Operand.tmp 41), none),
  (Op.makeFunc (Fn.func 161) #[] #[Operand.tmp 1], some 42),
  (Op.build 176 #[(0, Operand.const (Value.int IntKind.i64 1)), (1, Operand.tmp 42)], some 43),
  (Op.insert 178 (Operand.tmp 6) (Operand.const (Value.string { data := #[99, 111, 117, 110, 116] })) (Operand.tmp 43), none),
  (Op.makeFunc (Fn.func 163) #[] #[Operand.tmp 1], some 44),
  (Op.build 176 #[(0, Operand.const (Value.int IntKind.i64 1)), (1, Operand.tmp 44)], some 45),
  (Op.insert 178 (Operand.tmp 6) (Operand.const (Value.string { data := #[116, 101, 110, 97, 110, 116] })) (Operand.tmp 45), none),
  (Op.move (Operand.tmp 6), some 46),
  (Op.assign (Operand.tmp 46), some 3)]
theorem rows1_eq : ops1.toList.map (fun o => (o.op, o.dst)) = rows1 := by kernel_rfl
theorem rows1_plain : (ops1.toList.map fun o => o.guard) = List.replicate 57 none := by kernel_rfl
/-- What each comes to. -/
def val1 (pb po qb : Nat) (x1 x2 : Value) : Nat → Value
  | 1 => .pointer (some ⟨pb, po, none⟩)
  | 2 => .pointer (some ⟨pb, po, none⟩)
  | 3 => .pointer (some ((⟨pb, po, none⟩ : Addr).add 1))
  | 4 => x1
  | 7 => .pointer (some ⟨pb, po, none⟩)
  | 8 => .pointer (some ⟨pb, po, none⟩)
  | 9 => .pointer (some ((⟨pb, po, none⟩ : Addr).add 2))
  | 10 => x2
  | 13 => .pointer (some ⟨pb, po, none⟩)
  | 14 => .func (.func 136) #[.pointer (some ⟨pb, po, none⟩)] #[]
  | 15 => .agg #[.int .i64 (-1), .func (.func 136) #[.pointer (some ⟨pb, po, none⟩)] #[]]
  | 17 => .pointer (some ⟨pb, po, none⟩)
  | 18 => .func (.func 137) #[.pointer (some ⟨pb, po, none⟩)] #[]
  | 19 => .agg #[.int .i64 (-1), .func (.func 137) #[.pointer (some ⟨pb, po, none⟩)] #[]]
  | 21 => .pointer (some ⟨pb, po, none⟩)
  | 22 => .func (.func 138) #[.pointer (some ⟨pb, po, none⟩)] #[]
  | 23 => .agg #[.int .i64 (0), .func (.func 138) #[.pointer (some ⟨pb, po, none⟩)] #[]]
  | 25 => .func (.func 139) #[] #[.pointer (some ⟨qb, 0, none⟩)]
  | 26 => .agg #[.int .i64 (1), .func (.func 139) #[] #[.pointer (some ⟨qb, 0, none⟩)]]
  | 28 => .func (.func 142) #[] #[.pointer (some ⟨qb, 0, none⟩)]
  | 29 => .agg #[.int .i64 (5), .func (.func 142) #[] #[.pointer (some ⟨qb, 0, none⟩)]]
  | 31 => .func (.func 146) #[] #[.pointer (some ⟨qb, 0, none⟩)]
  | 32 => .agg #[.int .i64 (2), .func (.func 146) #[] #[.pointer (some ⟨qb, 0, none⟩)]]
  | 34 => .func (.func 149) #[] #[.pointer (some ⟨qb, 0, none⟩)]
  | 35 => .agg #[.int .i64 (1), .func (.func 149) #[] #[.pointer (some ⟨qb, 0, none⟩)]]
  | 37 => .func (.func 152) #[] #[.pointer (some ⟨qb, 0, none⟩)]
  | 38 => .agg #[.int .i64 (0), .func (.func 152) #[] #[.pointer (some ⟨qb, 0, none⟩)]]
  | 40 => .func (.func 153) #[] #[.pointer (some ⟨qb, 0, none⟩)]
  | 41 => .agg #[.int .i64 (5), .func (.func 153) #[] #[.pointer (some ⟨qb, 0, none⟩)]]
  | 43 => .func (.func 155) #[] #[.pointer (some ⟨qb, 0, none⟩)]
  | 44 => .agg #[.int .i64 (3), .func (.func 155) #[] #[.pointer (some ⟨qb, 0, none⟩)]]
  | 46 => .func (.func 158) #[] #[.pointer (some ⟨qb, 0, none⟩)]
  | 47 => .agg #[.int .i64 (1), .func (.func 158) #[] #[.pointer (some ⟨qb, 0, none⟩)]]
  | 49 => .func (.func 161) #[] #[.pointer (some ⟨qb, 0, none⟩)]
  | 50 => .agg #[.int .i64 (1), .func (.func 161) #[] #[.pointer (some ⟨qb, 0, none⟩)]]
  | 52 => .func (.func 163) #[] #[.pointer (some ⟨qb, 0, none⟩)]
  | 53 => .agg #[.int .i64 (1), .func (.func 163) #[] #[.pointer (some ⟨qb, 0, none⟩)]]
  | _ => undef
def pureIx : List (Nat × Nat) := [(1, 7), (2, 8), (3, 9), (4, 10), (7, 12), (8, 13), (9, 14), (10, 15), (13, 17), (14, 18), (15, 19), (17, 20), (18, 21), (19, 22), (21, 23), (22, 24), (23, 25), (25, 26), (26, 27), (28, 28), (29, 29), (31, 30), (32, 31), (34, 32), (35, 33), (37, 34), (38, 35), (40, 36), (41, 37), (43, 38), (44, 39), (46, 40), (47, 41), (49, 42), (50, 43), (52, 44), (53, 45)]
/-- What is laid into the map, and when. -/
def insIx : List (Nat × ByteArray × Nat) := [(6, ⟨#[102, 97, 105, 108, 115]⟩, 5), (12, ⟨#[107, 101, 101, 112, 115]⟩, 11), (16, ⟨#[112, 111, 111, 108]⟩, 15), (20, ⟨#[109, 105, 110, 116]⟩, 19), (24, ⟨#[97, 116]⟩, 23), (27, ⟨#[114, 111, 111, 116]⟩, 26), (30, ⟨#[114, 101, 118, 111, 107, 101]⟩, 29), (33, ⟨#[114, 97, 119]⟩, 32), (36, ⟨#[116, 105, 99, 107]⟩, 35), (39, ⟨#[99, 114, 97, 115, 104]⟩, 38), (42, ⟨#[116, 117, 114, 110]⟩, 41), (45, ⟨#[108, 97, 115, 116, 105, 110, 103]⟩, 44), (48, ⟨#[111, 117, 116]⟩, 47), (51, ⟨#[99, 111, 117, 110, 116]⟩, 50), (54, ⟨#[116, 101, 110, 97, 110, 116]⟩, 53)]
/-- What an entry holds. -/
def spec1 (qb : Nat) : Nat → Value → Prop
  | 36, v => v = .agg #[.int .i64 1, .func (.func 149) #[] #[.pointer (some ⟨qb, 0, none⟩)]]
  | 48, v => v = .agg #[.int .i64 1, .func (.func 158) #[] #[.pointer (some ⟨qb, 0, none⟩)]]
  | _, _ => True
def insSpecs (qb : Nat) (L : Array Bool) : Specs := (insIx.filter fun r => L.getD r.1 false).map fun r => (r.2.1, spec1 qb r.1)
def okPut (k d : Nat) : Bool := pureIx.all (fun r => (Nat.beq r.1 k && Nat.beq r.2 d) || (!(Nat.beq r.1 k) && !(Nat.beq r.2 d))) && !(Nat.beq d 1) && !(Nat.beq d 6) && !(Nat.beq d 46) && !(Nat.beq d 3) && Nat.blt d 63 && !(Nat.beq k 0) && insIx.all (fun r => !(Nat.beq r.1 k)) && !(Nat.beq k 55) && !(Nat.beq k 56)
/-- Between the operations. -/
structure R1 (D : List Deferred) (w1 : World) (pb po qb : Nat) (x1 x2 : Value) (L : Array Bool) (a : Act) (w : World) : Prop where
  lsz : L.size = 57
  sz : a.tmps.size = 63
  df : a.defers = D
  t1 : a.tmps[1]? = some (.pointer (some ⟨qb, 0, none⟩))
  grew : Grew w1 w
  q : w1.cell? ⟨qb, 0, none⟩ = some (.pointer (some ⟨pb, po, none⟩))
  c1 : w1.cell? ((⟨pb, po, none⟩ : Addr).add 1) = some x1
  c2 : w1.cell? ((⟨pb, po, none⟩ : Addr).add 2) = some x2
  pu : ∀ r ∈ pureIx, L.getD r.1 false = true → a.tmps[r.2]? = some (val1 pb po qb x1 x2 r.1)
  cl : L.getD 0 false = false → L.getD 55 false = false ∧ L.getD 56 false = false ∧ ∀ r ∈ insIx, L.getD r.1 false = false
  mp : L.getD 0 false = true → ∃ R, w1.heap.size ≤ R ∧ a.tmps[6]? = some (.map (some R)) ∧ (L.getD 55 false = true → a.tmps[46]? = some (.map (some R))) ∧ (L.getD 56 false = true → a.tmps[3]? = some (.map (some R))) ∧ MapHas w R (insSpecs qb L)
theorem cell_old {w1 w : World} (h : Grew w1 w) {b : Addr} {v : Value} (hc : w1.cell? b = some v) : w.cell? b = some v := by
  have hlt : b.block < w1.heap.size := by
    unfold World.cell? at hc
    rcases Nat.lt_or_ge b.block w1.heap.size with h1 | h1
    · exact h1
    · simp [Array.getElem?_eq_none h1] at hc
  unfold World.cell? at hc ⊢
  rw [h.old _ hlt]; exact hc
section
variable {D : List Deferred} {w1 : World} {pb po qb : Nat} {x1 x2 : Value} {L : Array Bool} {a : Act} {w : World} {Q : Exit → Act → World → Prop}
theorem row_at {k : Nat} {X : Op} {d : Option Nat} (h : rows1[k]? = some (X, d)) : ∃ o, ops1[k]? = some o ∧ o.op = X ∧ o.dst = d ∧ o.guard = none := by
  have h1 : (ops1.toList.map fun o => (o.op, o.dst))[k]? = some (X, d) := by rw [rows1_eq]; exact h
  rw [List.getElem?_map] at h1
  cases ho : ops1.toList[k]? with
  | none => rw [ho] at h1; cases h1
  | some o =>
    rw [ho] at h1
    have h2 : (o.op, o.dst) = (X, d) := Option.some.inj h1
    have h3 : (ops1.toList.map fun o => o.guard)[k]? = some o.guard := by rw [List.getElem?_map, ho]; rfl
    rw [rows1_plain, List.getElem?_replicate] at h3
    split at h3
    · exact ⟨o, by simpa using ho, congrArg Prod.fst h2, congrArg Prod.snd h2, (Option.some.inj h3).symm⟩
    · cases h3
theorem wpOp_of {k : Nat} {o : Oper} (ho : ops1[k]? = some o) (hg : o.guard = none) {K : Act → World → Prop} (h : o.wp Tryz.prog a w K Q) : wpOp Tryz.prog ops1 Q k K a w := by
  unfold wpOp
  rw [ho]
  simp only [Region.wanted, hg]
  exact .inl h
theorem eval_of {t : Nat} {v : Value} (h : a.tmps[t]? = some v) : a.eval (.tmp t) = v := getD_of h
/-- A value that an operation waits for. -/
theorem R1.at_ (h : R1 D w1 pb po qb x1 x2 L a w) {k : Nat} (hr : k ∈ Region.ready .any ops1 L) {j t : Nat} (hj : (match ops1[k]? with | some o => memN (directOn o) j | none => false) = true) (hp : (pureIx.any fun r => Nat.beq r.1 j && Nat.beq r.2 t) = true) : a.tmps[t]? = some (val1 pb po qb x1 x2 j) := by
  obtain ⟨_, o, ho, hall⟩ := mem_ready.1 hr
  rw [ho] at hj
  simp only at hj
  obtain ⟨⟨j', t'⟩, hmem, hjt⟩ := List.any_eq_true.1 hp
  simp only [Bool.and_eq_true] at hjt
  have e1 := Nat.eq_of_beq_eq_true hjt.1
  have e2 := Nat.eq_of_beq_eq_true hjt.2
  subst e1; subst e2
  refine h.pu (j', t') hmem ?_
  have hm := memN_eq.1 hj
  simp only [directOn, List.mem_filterMap] at hm
  obtain ⟨e, he, h2⟩ := hm
  split at h2
  · rename_i hb
    cases h2
    exact hall e (by simpa using he) hb
  · cases h2
theorem getD_at {L : Array Bool} {i : Nat} (h : i < L.size) : (L.setIfInBounds i true).getD i false = true := by simp [h]
theorem insSpecs_other {k : Nat} (h : (insIx.all fun r => !(Nat.beq r.1 k)) = true) : insSpecs qb (L.setIfInBounds k true) = insSpecs qb L := by
  unfold insSpecs
  congr 1
  refine List.filter_congr fun r hr => ?_
  have := List.all_eq_true.1 h r hr
  have hne : k ≠ r.1 := fun q => by subst q; simp at this
  rw [getD_set_ne false hne]
theorem insPair : insIx.Pairwise fun r q => r.1 ≠ q.1 := by decide
theorem insSpecs_add {k : Nat} {s : ByteArray × Nat} : ∀ (tab : List (Nat × ByteArray × Nat)), (k, s) ∈ tab → (tab.Pairwise fun r q => r.1 ≠ q.1) → k < L.size → L.getD k false = false →
    ((tab.filter fun r => (L.setIfInBounds k true).getD r.1 false).map fun r => (r.2.1, spec1 qb r.1)).Perm ((s.1, spec1 qb k) :: ((tab.filter fun r => L.getD r.1 false).map fun r => (r.2.1, spec1 qb r.1)))
  | [], h, _, _, _ => by simp at h
  | r :: tab, h, hp, hk, hL => by
    obtain ⟨hp1, hp2⟩ := List.pairwise_cons.1 hp
    rcases List.mem_cons.1 h with rfl | h
    · have hsame : (tab.filter fun r => (L.setIfInBounds k true).getD r.1 false) = tab.filter fun r => L.getD r.1 false := List.filter_congr fun q hq => by
        rw [getD_set_ne false (hp1 q hq)]
      rw [List.filter_cons_of_pos (by exact getD_at hk), List.filter_cons_of_neg (by simp only [hL]; simp), hsame]
      exact .refl _
    · have hne : k ≠ r.1 := fun q => hp1 _ h q.symm
      have ih := insSpecs_add tab h hp2 hk hL
      cases hr : L.getD r.1 false with
      | true =>
        rw [List.filter_cons_of_pos (by rw [getD_set_ne false hne]; exact hr), List.filter_cons_of_pos (by exact hr)]
        exact (ih.cons _).trans (.swap _ _ _)
      | false =>
        rw [List.filter_cons_of_neg (by rw [getD_set_ne false hne]; simp [hr]), List.filter_cons_of_neg (by simp [hr])]
        exact ih
theorem put_get {d t : Nat} {v : Value} : (a.put (some d) v).tmps[t]? = if d = t ∧ d < a.tmps.size then some v else a.tmps[t]? := by
  show (a.tmps.setIfInBounds d v)[t]? = _
  rw [Array.getElem?_setIfInBounds]
  by_cases h : d = t
  · subst h
    by_cases h2 : d < a.tmps.size
    · simp [h2]
    · simp [h2, Array.getElem?_eq_none (Nat.le_of_not_lt h2)]
  · simp [h]
/-- A value that is written into its place. -/
theorem R1.put (h : R1 D w1 pb po qb x1 x2 L a w) {k d : Nat} {v : Value} {w' : World} (hok : okPut k d = true) (hv : (pureIx.any fun r => Nat.beq r.1 k) = true → v = val1 pb po qb x1 x2 k) (hg : Grew w w') :
    R1 D w1 pb po qb x1 x2 (L.setIfInBounds k true) (a.put (some d) v) w' := by
  simp only [okPut, Bool.and_eq_true] at hok
  obtain ⟨⟨⟨⟨⟨⟨⟨⟨⟨c1, c2⟩, c3⟩, c4⟩, c5⟩, c6⟩, c7⟩, c8⟩, c9⟩, c10⟩ := hok
  have nb : ∀ {x y : Nat}, (!(Nat.beq x y)) = true → x ≠ y := fun h q => by subst q; simp at h
  have keep : ∀ {t u : Value} {n : Nat}, d ≠ n → a.tmps[n]? = some t → (a.put (some d) v).tmps[n]? = some t := fun hn ht => by
    rw [put_get, if_neg (fun q => hn q.1)]; exact ht
  have hget : ∀ j, k ≠ j → (L.setIfInBounds k true).getD j false = L.getD j false := fun j hj => getD_set_ne false hj
  refine ⟨by simp [h.lsz], by simp [Act.put, h.sz], h.df, keep (u := v) (nb c2) h.t1, ⟨Nat.le_trans h.grew.size hg.size, fun B hB => (hg.old B (Nat.lt_of_lt_of_le hB h.grew.size)).trans (h.grew.old B hB), h.grew.env.trans hg.env⟩, h.q, h.c1, h.c2, ?_, ?_, ?_⟩
  · intro r hr hl
    have := List.all_eq_true.1 c1 r hr
    simp only [Bool.or_eq_true, Bool.and_eq_true] at this
    rcases this with ⟨e1, e2⟩ | ⟨e1, e2⟩
    · have e1 := Nat.eq_of_beq_eq_true e1
      have e2 := Nat.eq_of_beq_eq_true e2
      have hd : d < a.tmps.size := by have := Nat.le_of_ble_eq_true c6; have := h.sz; omega
      rw [put_get, if_pos ⟨e2.symm, hd⟩, e1, hv (List.any_eq_true.2 ⟨r, hr, by rw [e1]; simp⟩)]
    · rw [hget _ (Ne.symm (nb e1))] at hl
      exact keep (u := v) (Ne.symm (nb e2)) (h.pu r hr hl)
  · intro hl
    rw [hget _ (nb c7)] at hl
    obtain ⟨q1, q2, q3⟩ := h.cl hl
    refine ⟨by rw [hget _ (nb c9)]; exact q1, by rw [hget _ (nb c10)]; exact q2, fun r hr => ?_⟩
    rw [hget _ (fun q => nb (List.all_eq_true.1 c8 r hr) q.symm)]
    exact q3 r hr
  · intro hl
    rw [hget _ (nb c7)] at hl
    obtain ⟨R, g1, g2, g3, g4, g5⟩ := h.mp hl
    refine ⟨R, g1, keep (u := v) (nb c3) g2, fun q => ?_, fun q => ?_, ?_⟩
    · rw [hget _ (nb c9)] at q; exact keep (u := v) (nb c4) (g3 q)
    · rw [hget _ (nb c10)] at q; exact keep (u := v) (nb c5) (g4 q)
    · rw [insSpecs_other c8]
      have g6 := g5
      obtain ⟨ents, clock, l', q1, _⟩ := g6
      exact MapHas.congr g5 (hg.old R (Array.getElem?_eq_some_iff.1 q1).1)
theorem R1.pure (h : R1 D w1 pb po qb x1 x2 L a w) {k d : Nat} {X : Op} {v : Value} (hr : k ∈ Region.ready .any ops1 L) (hrow : rows1[k]? = some (X, some d)) (hok : okPut k d = true)
    (hrun : ∀ o : Oper, o.op = X → (execOp a.eval o).run Tryz.prog w = .ok (.value v) w) (hv : v = val1 pb po qb x1 x2 k) : wpOp Tryz.prog ops1 Q k (R1 D w1 pb po qb x1 x2 (L.setIfInBounds k true)) a w := by
  obtain ⟨o, ho, hop, hd, hg⟩ := row_at hrow
  refine wpOp_of ho hg ?_
  unfold Oper.wp
  rw [hrun o hop]
  show R1 _ _ _ _ _ _ _ _ (a.put o.dst v) w
  rw [hd]
  exact h.put hok (fun _ => hv) (.refl w)
theorem R1.call (h : R1 D w1 pb po qb x1 x2 L a w) {k s d : Nat} {x : Value} (hr : k ∈ Region.ready .any ops1 L) (hrow : rows1[k]? = some (.call { callee := .value (.func 135), args := #[.tmp s], argTypes := #[57] }, some d)) (hok : (okPut k d && !(pureIx.any fun r => Nat.beq r.1 k)) = true)
    (hx : a.tmps[s]? = some x) (hone : x.oneCell' = true) (hD : ∀ x w, x.oneCell' = true → Does Tryz.prog 135 #[x] w fun _ w' => Grew w w') : wpOp Tryz.prog ops1 Q k (R1 D w1 pb po qb x1 x2 (L.setIfInBounds k true)) a w := by
  obtain ⟨o, ho, hop, hd, hg⟩ := row_at hrow
  simp only [Bool.and_eq_true, Bool.not_eq_true'] at hok
  refine wpOp_of ho hg ?_
  unfold Oper.wp
  have hrun : (execOp a.eval o).run Tryz.prog w = (callFunc 135 #[x]).run Tryz.prog w := by
    have e : a.eval (.tmp s) = x := eval_of hx
    simp only [execOp, hop, resolve, Deferred.ofValue, invoke, pure_bind, Sem.run_bind, Sem.run_pure, Result.andThen_ok, Act.eval]
    simp only [Act.eval] at e
    simp [e]
    exact e
  rw [hrun]
  refine hD x w hone o a _ Q fun v' w' hw => ?_
  rw [hd]
  exact h.put hok.1 (fun q => by rw [hok.2] at q; cases q) hw
theorem load1_run (h : R1 D w1 pb po qb x1 x2 L a w) : ∀ o : Oper, o.op = .load 119 (.tmp 1) → (execOp a.eval o).run Tryz.prog w = .ok (.value (.pointer (some ⟨pb, po, none⟩))) w := by
  intro o ho
  have e := eval_of h.t1
  have hc := cell_old h.grew h.q
  simp only [execOp, ho, e]
  refine run_value ?_
  simp [Instr.loadAt, Instr.sureAddr, loadVar, Tryz.isAgg119, run_load, hc]
theorem loadx_run {t : Nat} {b : Addr} {x : Value} {w0 : World} (hg : Grew w0 w) (hc : w0.cell? b = some x) (h : a.tmps[t]? = some (.pointer (some b))) : ∀ o : Oper, o.op = .load 57 (.tmp t) → (execOp a.eval o).run Tryz.prog w = .ok (.value x) w := by
  intro o ho
  have e := eval_of h
  have hc := cell_old hg hc
  simp only [execOp, ho, e]
  refine run_value ?_
  simp [Instr.loadAt, Instr.sureAddr, loadVar, Tryz.isAgg57, run_load, hc]
theorem nil_run {t : Nat} {b : Addr} (h : a.tmps[t]? = some (.pointer (some b))) : ∀ o : Oper, o.op = .nilCheck (.tmp t) → (execOp a.eval o).run Tryz.prog w = .ok (.value (.pointer (some b))) w := by
  intro o ho
  have e := eval_of h
  simp only [execOp, ho, e]; rfl
theorem fa1_run {t : Nat} {b : Addr} (h : a.tmps[t]? = some (.pointer (some b))) : ∀ o : Oper, o.op = .fieldAddr 169 (.tmp t) 1 → (execOp a.eval o).run Tryz.prog w = .ok (.value (.pointer (some (b.add 1)))) w := by
  intro o ho
  have e := eval_of h
  simp only [execOp, ho, e]
  refine run_value ?_
  simp [Instr.fieldAt, run_und Tryz.underlying169, Instr.sureAddr, fieldPlace, Tryz.sizeOf57]
theorem fa2_run {t : Nat} {b : Addr} (h : a.tmps[t]? = some (.pointer (some b))) : ∀ o : Oper, o.op = .fieldAddr 169 (.tmp t) 2 → (execOp a.eval o).run Tryz.prog w = .ok (.value (.pointer (some (b.add 2)))) w := by
  intro o ho
  have e := eval_of h
  simp only [execOp, ho, e]
  refine run_value ?_
  simp [Instr.fieldAt, run_und Tryz.underlying169, Instr.sureAddr, fieldPlace, Tryz.sizeOf57]
theorem mf_run1 {t : Nat} {f : Fn} {x : Value} (h : a.tmps[t]? = some x) : ∀ o : Oper, o.op = .makeFunc f #[.tmp t] #[] → (execOp a.eval o).run Tryz.prog w = .ok (.value (.func f #[x] #[])) w := by
  intro o ho
  have e := eval_of h
  simp only [execOp, ho]
  refine run_value ?_
  simp [Instr.makeFunc, e]
theorem mf_run2 {t : Nat} {f : Fn} {x : Value} (h : a.tmps[t]? = some x) : ∀ o : Oper, o.op = .makeFunc f #[] #[.tmp t] → (execOp a.eval o).run Tryz.prog w = .ok (.value (.func f #[] #[x])) w := by
  intro o ho
  have e := eval_of h
  simp only [execOp, ho]
  refine run_value ?_
  simp [Instr.makeFunc, e]
theorem build176 (c : Int) (w : World) (f : Fn) (x y : Array Value) : (Instr.build 176 #[(0, .int .i64 c), (1, .func f x y)]).run Tryz.prog w = .ok (.agg #[.int .i64 c, .func f x y]) w := by
  simp [Instr.build, Tryz.zeroValue176, run_underlying Tryz.underlying176, Value.cells, Instr.fill]
theorem bd_run {t : Nat} {c : Int} {f : Fn} {x y : Array Value} (h : a.tmps[t]? = some (.func f x y)) : ∀ o : Oper, o.op = .build 176 #[(0, .const (.int .i64 c)), (1, .tmp t)] → (execOp a.eval o).run Tryz.prog w = .ok (.value (.agg #[.int .i64 c, .func f x y])) w := by
  intro o ho
  have e := eval_of h
  simp only [execOp, ho]
  refine run_value ?_
  have : (#[(0, Operand.const (.int .i64 c)), (1, .tmp t)].map fun (p : Nat × Operand) => (p.1, a.eval p.2)) = #[(0, .int .i64 c), (1, .func f x y)] := by simp [e]; rfl
  rw [show (#[(0, Operand.const (.int .i64 c)), (1, .tmp t)].map fun (i, x) => (i, a.eval x)) = #[(0, .int .i64 c), (1, .func f x y)] from this]
  exact build176 c w f x y
theorem ready_lt {k : Nat} (hr : k ∈ Region.ready .any ops1 L) (hL : L.size = 57) : k < 57 ∧ L.getD k false = false := by
  obtain ⟨h1, _⟩ := mem_ready.1 hr
  refine ⟨?_, getD_both h1⟩
  rcases Nat.lt_or_ge k L.size with h3 | h3
  · omega
  · simp [Array.getElem?_eq_none h3] at h1
theorem R1.dep (h : R1 D w1 pb po qb x1 x2 L a w) {k : Nat} (hr : k ∈ Region.ready .any ops1 L) {j : Nat} (hj : (match ops1[k]? with | some o => memN (directOn o) j | none => false) = true) : L.getD j false = true := by
  obtain ⟨_, o, ho, hall⟩ := mem_ready.1 hr
  rw [ho] at hj
  simp only at hj
  have hm := memN_eq.1 hj
  simp only [directOn, List.mem_filterMap] at hm
  obtain ⟨e, he, h2⟩ := hm
  split at h2
  · rename_i hb
    cases h2
    exact hall e (by simpa using he) hb
  · cases h2
theorem pu_at (k : Nat) (hk : (pureIx.all fun r => !(Nat.beq r.1 k)) = true) (r : Nat × Nat) (hr : r ∈ pureIx) : k ≠ r.1 := fun q => by
  have := List.all_eq_true.1 hk r hr
  rw [← q] at this
  simp at this
theorem pu_dst (d : Nat) (hk : (pureIx.all fun r => !(Nat.beq r.2 d)) = true) (r : Nat × Nat) (hr : r ∈ pureIx) : d ≠ r.2 := fun q => by
  have := List.all_eq_true.1 hk r hr
  rw [← q] at this
  simp at this
theorem ins_at (k : Nat) (hk : (insIx.all fun r => !(Nat.beq r.1 k)) = true) (r : Nat × ByteArray × Nat) (hr : r ∈ insIx) : k ≠ r.1 := fun q => by
  have := List.all_eq_true.1 hk r hr
  rw [← q] at this
  simp at this
theorem R1.new (h : R1 D w1 pb po qb x1 x2 L a w) (hr : 0 ∈ Region.ready .any ops1 L) : wpOp Tryz.prog ops1 Q 0 (R1 D w1 pb po qb x1 x2 (L.setIfInBounds 0 true)) a w := by
  obtain ⟨o, ho, hop, hd, hg⟩ := row_at (k := 0) (X := .makeMap 178 none) (d := some 6) (by kernel_rfl)
  obtain ⟨hk, hf⟩ := ready_lt hr h.lsz
  refine wpOp_of ho hg ?_
  unfold Oper.wp
  have hrun : (execOp a.eval o).run Tryz.prog w = .ok (.value (.map (some w.heap.size))) (w.alloc (.map #[] 0)) := by
    simp only [execOp, hop]
    refine run_value ?_
    simp [Instr.makeMap]
  rw [hrun]
  show R1 _ _ _ _ _ _ _ _ (a.put o.dst _) _
  rw [hd]
  have hsz : w1.heap.size ≤ w.heap.size := h.grew.size
  have keep : ∀ {t : Value} {n : Nat}, 6 ≠ n → a.tmps[n]? = some t → (a.put (some 6) (.map (some w.heap.size))).tmps[n]? = some t := fun hn ht => by
    rw [put_get, if_neg (fun q => hn q.1)]; exact ht
  have h6 : (a.put (some 6) (.map (some w.heap.size))).tmps[6]? = some (.map (some w.heap.size)) := by
    rw [put_get, if_pos ⟨rfl, by rw [h.sz]; omega⟩]
  obtain ⟨q1, q2, q3⟩ := h.cl hf
  refine ⟨by simp [h.lsz], by simp [Act.put, h.sz], h.df, keep (by decide) h.t1, ⟨by show _ ≤ (w.heap.push _).size; rw [Array.size_push]; omega, fun B hB => ?_, h.grew.env.trans ⟨rfl, rfl, rfl⟩⟩, h.q, h.c1, h.c2, ?_, ?_, ?_⟩
  · rw [← h.grew.old B hB]
    exact heap_push_old (by omega)
  · intro r hr hl
    rw [getD_set_ne false (pu_at 0 (by kernel_rfl) r hr)] at hl
    exact keep (pu_dst 6 (by kernel_rfl) r hr) (h.pu r hr hl)
  · intro hl
    rw [getD_at (by rw [h.lsz]; omega)] at hl
    cases hl
  · intro _
    refine ⟨w.heap.size, hsz, h6, fun q => ?_, fun q => ?_, ?_⟩
    · rw [getD_set_ne false (by decide), q1] at q; cases q
    · rw [getD_set_ne false (by decide), q2] at q; cases q
    · rw [insSpecs_other (by kernel_rfl)]
      have : insSpecs qb L = [] := by
        unfold insSpecs
        rw [List.filter_eq_nil_iff.2 (fun r hr => by rw [q3 r hr]; simp)]
        rfl
      rw [this]
      exact ⟨#[], 0, [], heap_push_new, .nil, .refl _⟩
theorem R1.ins (h : R1 D w1 pb po qb x1 x2 L a w) {k s : Nat} (key : ByteArray) {j : Nat} (hr : k ∈ Region.ready .any ops1 L) (hrow : rows1[k]? = some (.insert 178 (.tmp 6) (.const (.string key)) (.tmp s), none))
    (h0 : (match ops1[k]? with | some o => memN (directOn o) 0 | none => false) = true)
    (hk : (pureIx.all (fun r => !(Nat.beq r.1 k)) && !(Nat.beq k 0) && !(Nat.beq k 55) && !(Nat.beq k 56) && insIx.any (fun r => Nat.beq r.1 k && decide (r.2.1 = key)) && insIx.all (fun r => !(decide (r.2.1 = key)) || Nat.beq r.1 k)) = true)
    (hx : spec1 qb k (a.eval (.tmp s))) : wpOp Tryz.prog ops1 Q k (R1 D w1 pb po qb x1 x2 (L.setIfInBounds k true)) a w := by
  obtain ⟨o, ho, hop, hd, hg⟩ := row_at hrow
  simp only [Bool.and_eq_true] at hk
  obtain ⟨⟨⟨⟨⟨c1, c2⟩, c3⟩, c4⟩, c5⟩, c6⟩ := hk
  have nb : ∀ {x y : Nat}, (!(Nat.beq x y)) = true → x ≠ y := fun h q => by subst q; simp at h
  obtain ⟨hk57, hf⟩ := ready_lt hr h.lsz
  have hl0 := h.dep hr h0
  obtain ⟨R, g1, g2, g3, g4, g5⟩ := h.mp hl0
  obtain ⟨⟨k', key', j'⟩, hmem, hkk⟩ := List.any_eq_true.1 c5
  simp only [Bool.and_eq_true, decide_eq_true_eq] at hkk
  obtain ⟨e1, rfl⟩ := hkk
  have e1 := Nat.eq_of_beq_eq_true e1
  subst e1
  have hkeys : ∀ s ∈ insSpecs qb L, s.1 ≠ key' := fun s hs => by
    unfold insSpecs at hs
    obtain ⟨r, hr2, rfl⟩ := List.mem_map.1 hs
    obtain ⟨hr3, hr4⟩ := List.mem_filter.1 hr2
    intro q
    have := List.all_eq_true.1 c6 r hr3
    simp only [Bool.or_eq_true, Bool.not_eq_true', decide_eq_false_iff_not] at this
    rcases this with this | this
    · exact this q
    · rw [Nat.eq_of_beq_eq_true this, hf] at hr4; cases hr4
  obtain ⟨w', hrun, m1, m2, m3, m4⟩ := g5.insert hkeys hx
  refine wpOp_of ho hg ?_
  unfold Oper.wp
  have e6 : a.eval (.tmp 6) = .map (some R) := eval_of g2
  have hrun2 : (execOp a.eval o).run Tryz.prog w = .ok .skip w' := by
    simp only [execOp, hop, e6]
    refine run_unit ?_
    exact hrun
  rw [hrun2]
  show R1 _ _ _ _ _ _ _ _ (a.put o.dst _) _
  rw [hd]
  show R1 _ _ _ _ _ _ _ _ a _
  have hget : ∀ j, k' ≠ j → (L.setIfInBounds k' true).getD j false = L.getD j false := fun j hj => getD_set_ne false hj
  refine ⟨by simp [h.lsz], h.sz, h.df, h.t1, ⟨by rw [m3]; exact h.grew.size, fun B hB => by rw [m2 B (by omega)]; exact h.grew.old B hB, h.grew.env.trans m4⟩, h.q, h.c1, h.c2, ?_, ?_, ?_⟩
  · intro r hr hl
    rw [hget _ (pu_at k' c1 r hr)] at hl
    exact h.pu r hr hl
  · intro hl
    rw [hget _ (nb c2), hl0] at hl
    cases hl
  · intro _
    refine ⟨R, g1, g2, fun q => ?_, fun q => ?_, ?_⟩
    · rw [hget _ (nb c3)] at q; exact g3 q
    · rw [hget _ (nb c4)] at q; exact g4 q
    · exact m1.perm (insSpecs_add insIx hmem insPair (by rw [h.lsz]; exact hk57) hf).symm
theorem R1.mv55 (h : R1 D w1 pb po qb x1 x2 L a w) (hr : 55 ∈ Region.ready .any ops1 L) : wpOp Tryz.prog ops1 Q 55 (R1 D w1 pb po qb x1 x2 (L.setIfInBounds 55 true)) a w := by
  obtain ⟨o, ho, hop, hd, hg⟩ := row_at (k := 55) (X := .move (.tmp 6)) (d := some 46) (by kernel_rfl)
  have hl0 := h.dep hr (j := 0) (by kernel_rfl)
  obtain ⟨hk57, hf⟩ := ready_lt hr h.lsz
  obtain ⟨R, g1, g2, g3, g4, g5⟩ := h.mp hl0
  refine wpOp_of ho hg ?_
  unfold Oper.wp
  have e6 : a.eval (.tmp 6) = .map (some R) := eval_of g2
  have hrun : (execOp a.eval o).run Tryz.prog w = .ok (.value (.map (some R))) w := by
    simp only [execOp, hop, e6]
    rfl
  rw [hrun]
  show R1 _ _ _ _ _ _ _ _ (a.put o.dst _) _
  rw [hd]
  have keep : ∀ {t : Value} {n : Nat}, 46 ≠ n → a.tmps[n]? = some t → (a.put (some 46) (.map (some R))).tmps[n]? = some t := fun hn ht => by
    rw [put_get, if_neg (fun q => hn q.1)]; exact ht
  refine ⟨by simp [h.lsz], by simp [Act.put, h.sz], h.df, keep (by decide) h.t1, h.grew, h.q, h.c1, h.c2, ?_, ?_, ?_⟩
  · intro r hr hl
    rw [getD_set_ne false (pu_at 55 (by kernel_rfl) r hr)] at hl
    exact keep (pu_dst 46 (by kernel_rfl) r hr) (h.pu r hr hl)
  · intro hl
    rw [getD_set_ne false (by decide), hl0] at hl
    cases hl
  · intro _
    refine ⟨R, g1, keep (by decide) g2, fun _ => ?_, fun q => ?_, ?_⟩
    · rw [put_get, if_pos ⟨rfl, by rw [h.sz]; omega⟩]
    · rw [getD_set_ne false (by decide)] at q; exact keep (by decide) (g4 q)
    · rw [insSpecs_other (by kernel_rfl)]; exact g5
theorem R1.mv56 (h : R1 D w1 pb po qb x1 x2 L a w) (hr : 56 ∈ Region.ready .any ops1 L) : wpOp Tryz.prog ops1 Q 56 (R1 D w1 pb po qb x1 x2 (L.setIfInBounds 56 true)) a w := by
  obtain ⟨o, ho, hop, hd, hg⟩ := row_at (k := 56) (X := .assign (.tmp 46)) (d := some 3) (by kernel_rfl)
  have hl0 := h.dep hr (j := 0) (by kernel_rfl)
  have hl55 := h.dep hr (j := 55) (by kernel_rfl)
  obtain ⟨hk57, hf⟩ := ready_lt hr h.lsz
  obtain ⟨R, g1, g2, g3, g4, g5⟩ := h.mp hl0
  refine wpOp_of ho hg ?_
  unfold Oper.wp
  have e6 : a.eval (.tmp 46) = .map (some R) := eval_of (g3 hl55)
  have hrun : (execOp a.eval o).run Tryz.prog w = .ok (.value (.map (some R))) w := by
    simp only [execOp, hop, e6]
    rfl
  rw [hrun]
  show R1 _ _ _ _ _ _ _ _ (a.put o.dst _) _
  rw [hd]
  have keep : ∀ {t : Value} {n : Nat}, 3 ≠ n → a.tmps[n]? = some t → (a.put (some 3) (.map (some R))).tmps[n]? = some t := fun hn ht => by
    rw [put_get, if_neg (fun q => hn q.1)]; exact ht
  refine ⟨by simp [h.lsz], by simp [Act.put, h.sz], h.df, keep (by decide) h.t1, h.grew, h.q, h.c1, h.c2, ?_, ?_, ?_⟩
  · intro r hr hl
    rw [getD_set_ne false (pu_at 56 (by kernel_rfl) r hr)] at hl
    exact keep (pu_dst 3 (by kernel_rfl) r hr) (h.pu r hr hl)
  · intro hl
    rw [getD_set_ne false (by decide), hl0] at hl
    cases hl
  · intro _
    refine ⟨R, g1, keep (by decide) g2, fun _ => keep (by decide) (g3 hl55), fun q => ?_, ?_⟩
    · rw [put_get, if_pos ⟨rfl, by rw [h.sz]; omega⟩]
    · rw [insSpecs_other (by kernel_rfl)]; exact g5

theorem step1_0 (h : R1 D w1 pb po qb x1 x2 L a w) (hr : 0 ∈ Region.ready .any ops1 L) : wpOp Tryz.prog ops1 Q 0 (R1 D w1 pb po qb x1 x2 (L.setIfInBounds 0 true)) a w := by
  exact h.new hr
theorem step1_1 (h : R1 D w1 pb po qb x1 x2 L a w) (hr : 1 ∈ Region.ready .any ops1 L) : wpOp Tryz.prog ops1 Q 1 (R1 D w1 pb po qb x1 x2 (L.setIfInBounds 1 true)) a w := by
  exact h.pure hr (X := .load 119 (.tmp 1)) (d := 7) (by kernel_rfl) (by rfl) (load1_run h) (by rfl)
theorem step1_2 (h : R1 D w1 pb po qb x1 x2 L a w) (hr : 2 ∈ Region.ready .any ops1 L) : wpOp Tryz.prog ops1 Q 2 (R1 D w1 pb po qb x1 x2 (L.setIfInBounds 2 true)) a w := by
  exact h.pure hr (X := .nilCheck (.tmp 7)) (d := 8) (by kernel_rfl) (by rfl) (nil_run (h.at_ hr (j := 1) (by kernel_rfl) (by rfl))) (by rfl)
theorem step1_3 (h : R1 D w1 pb po qb x1 x2 L a w) (hr : 3 ∈ Region.ready .any ops1 L) : wpOp Tryz.prog ops1 Q 3 (R1 D w1 pb po qb x1 x2 (L.setIfInBounds 3 true)) a w := by
  exact h.pure hr (X := .fieldAddr 169 (.tmp 8) 1) (d := 9) (by kernel_rfl) (by rfl) (fa1_run (h.at_ hr (j := 2) (by kernel_rfl) (by rfl))) (by rfl)
theorem step1_4 (h : R1 D w1 pb po qb x1 x2 L a w) (hr : 4 ∈ Region.ready .any ops1 L) : wpOp Tryz.prog ops1 Q 4 (R1 D w1 pb po qb x1 x2 (L.setIfInBounds 4 true)) a w := by
  exact h.pure hr (X := .load 57 (.tmp 9)) (d := 10) (by kernel_rfl) (by rfl) (loadx_run h.grew h.c1 (h.at_ hr (j := 3) (by kernel_rfl) (by rfl))) (by rfl)
theorem step1_5 (h : R1 D w1 pb po qb x1 x2 L a w) (hr : 5 ∈ Region.ready .any ops1 L) (ho : x1.oneCell' = true) (hD : ∀ x w, x.oneCell' = true → Does Tryz.prog 135 #[x] w fun _ w' => Grew w w') : wpOp Tryz.prog ops1 Q 5 (R1 D w1 pb po qb x1 x2 (L.setIfInBounds 5 true)) a w := by
  exact h.call hr (s := 10) (d := 11) (by kernel_rfl) (by rfl) (h.at_ hr (j := 4) (by kernel_rfl) (by rfl)) ho hD
theorem step1_6 (h : R1 D w1 pb po qb x1 x2 L a w) (hr : 6 ∈ Region.ready .any ops1 L) : wpOp Tryz.prog ops1 Q 6 (R1 D w1 pb po qb x1 x2 (L.setIfInBounds 6 true)) a w := by
  exact h.ins ⟨#[102, 97, 105, 108, 115]⟩ (j := 0) hr (s := 11) (by kernel_rfl) (by kernel_rfl) (by kernel_rfl) trivial
theorem step1_7 (h : R1 D w1 pb po qb x1 x2 L a w) (hr : 7 ∈ Region.ready .any ops1 L) : wpOp Tryz.prog ops1 Q 7 (R1 D w1 pb po qb x1 x2 (L.setIfInBounds 7 true)) a w := by
  exact h.pure hr (X := .load 119 (.tmp 1)) (d := 12) (by kernel_rfl) (by rfl) (load1_run h) (by rfl)
theorem step1_8 (h : R1 D w1 pb po qb x1 x2 L a w) (hr : 8 ∈ Region.ready .any ops1 L) : wpOp Tryz.prog ops1 Q 8 (R1 D w1 pb po qb x1 x2 (L.setIfInBounds 8 true)) a w := by
  exact h.pure hr (X := .nilCheck (.tmp 12)) (d := 13) (by kernel_rfl) (by rfl) (nil_run (h.at_ hr (j := 7) (by kernel_rfl) (by rfl))) (by rfl)
theorem step1_9 (h : R1 D w1 pb po qb x1 x2 L a w) (hr : 9 ∈ Region.ready .any ops1 L) : wpOp Tryz.prog ops1 Q 9 (R1 D w1 pb po qb x1 x2 (L.setIfInBounds 9 true)) a w := by
  exact h.pure hr (X := .fieldAddr 169 (.tmp 13) 2) (d := 14) (by kernel_rfl) (by rfl) (fa2_run (h.at_ hr (j := 8) (by kernel_rfl) (by rfl))) (by rfl)
theorem step1_10 (h : R1 D w1 pb po qb x1 x2 L a w) (hr : 10 ∈ Region.ready .any ops1 L) : wpOp Tryz.prog ops1 Q 10 (R1 D w1 pb po qb x1 x2 (L.setIfInBounds 10 true)) a w := by
  exact h.pure hr (X := .load 57 (.tmp 14)) (d := 15) (by kernel_rfl) (by rfl) (loadx_run h.grew h.c2 (h.at_ hr (j := 9) (by kernel_rfl) (by rfl))) (by rfl)
theorem step1_11 (h : R1 D w1 pb po qb x1 x2 L a w) (hr : 11 ∈ Region.ready .any ops1 L) (ho : x2.oneCell' = true) (hD : ∀ x w, x.oneCell' = true → Does Tryz.prog 135 #[x] w fun _ w' => Grew w w') : wpOp Tryz.prog ops1 Q 11 (R1 D w1 pb po qb x1 x2 (L.setIfInBounds 11 true)) a w := by
  exact h.call hr (s := 15) (d := 16) (by kernel_rfl) (by rfl) (h.at_ hr (j := 10) (by kernel_rfl) (by rfl)) ho hD
theorem step1_12 (h : R1 D w1 pb po qb x1 x2 L a w) (hr : 12 ∈ Region.ready .any ops1 L) : wpOp Tryz.prog ops1 Q 12 (R1 D w1 pb po qb x1 x2 (L.setIfInBounds 12 true)) a w := by
  exact h.ins ⟨#[107, 101, 101, 112, 115]⟩ (j := 0) hr (s := 16) (by kernel_rfl) (by kernel_rfl) (by kernel_rfl) trivial
theorem step1_13 (h : R1 D w1 pb po qb x1 x2 L a w) (hr : 13 ∈ Region.ready .any ops1 L) : wpOp Tryz.prog ops1 Q 13 (R1 D w1 pb po qb x1 x2 (L.setIfInBounds 13 true)) a w := by
  exact h.pure hr (X := .load 119 (.tmp 1)) (d := 17) (by kernel_rfl) (by rfl) (load1_run h) (by rfl)
theorem step1_14 (h : R1 D w1 pb po qb x1 x2 L a w) (hr : 14 ∈ Region.ready .any ops1 L) : wpOp Tryz.prog ops1 Q 14 (R1 D w1 pb po qb x1 x2 (L.setIfInBounds 14 true)) a w := by
  exact h.pure hr (X := .makeFunc (.func 136) #[.tmp 17] #[]) (d := 18) (by kernel_rfl) (by rfl) (mf_run1 (h.at_ hr (j := 13) (by kernel_rfl) (by rfl))) (by rfl)
theorem step1_15 (h : R1 D w1 pb po qb x1 x2 L a w) (hr : 15 ∈ Region.ready .any ops1 L) : wpOp Tryz.prog ops1 Q 15 (R1 D w1 pb po qb x1 x2 (L.setIfInBounds 15 true)) a w := by
  exact h.pure hr (X := .build 176 #[(0, .const (.int .i64 (-1))), (1, .tmp 18)]) (d := 19) (by kernel_rfl) (by rfl) (bd_run (h.at_ hr (j := 14) (by kernel_rfl) (by rfl))) (by rfl)
theorem step1_16 (h : R1 D w1 pb po qb x1 x2 L a w) (hr : 16 ∈ Region.ready .any ops1 L) : wpOp Tryz.prog ops1 Q 16 (R1 D w1 pb po qb x1 x2 (L.setIfInBounds 16 true)) a w := by
  exact h.ins ⟨#[112, 111, 111, 108]⟩ (j := 0) hr (s := 19) (by kernel_rfl) (by kernel_rfl) (by kernel_rfl) trivial
theorem step1_17 (h : R1 D w1 pb po qb x1 x2 L a w) (hr : 17 ∈ Region.ready .any ops1 L) : wpOp Tryz.prog ops1 Q 17 (R1 D w1 pb po qb x1 x2 (L.setIfInBounds 17 true)) a w := by
  exact h.pure hr (X := .load 119 (.tmp 1)) (d := 20) (by kernel_rfl) (by rfl) (load1_run h) (by rfl)
theorem step1_18 (h : R1 D w1 pb po qb x1 x2 L a w) (hr : 18 ∈ Region.ready .any ops1 L) : wpOp Tryz.prog ops1 Q 18 (R1 D w1 pb po qb x1 x2 (L.setIfInBounds 18 true)) a w := by
  exact h.pure hr (X := .makeFunc (.func 137) #[.tmp 20] #[]) (d := 21) (by kernel_rfl) (by rfl) (mf_run1 (h.at_ hr (j := 17) (by kernel_rfl) (by rfl))) (by rfl)
theorem step1_19 (h : R1 D w1 pb po qb x1 x2 L a w) (hr : 19 ∈ Region.ready .any ops1 L) : wpOp Tryz.prog ops1 Q 19 (R1 D w1 pb po qb x1 x2 (L.setIfInBounds 19 true)) a w := by
  exact h.pure hr (X := .build 176 #[(0, .const (.int .i64 (-1))), (1, .tmp 21)]) (d := 22) (by kernel_rfl) (by rfl) (bd_run (h.at_ hr (j := 18) (by kernel_rfl) (by rfl))) (by rfl)
theorem step1_20 (h : R1 D w1 pb po qb x1 x2 L a w) (hr : 20 ∈ Region.ready .any ops1 L) : wpOp Tryz.prog ops1 Q 20 (R1 D w1 pb po qb x1 x2 (L.setIfInBounds 20 true)) a w := by
  exact h.ins ⟨#[109, 105, 110, 116]⟩ (j := 0) hr (s := 22) (by kernel_rfl) (by kernel_rfl) (by kernel_rfl) trivial
theorem step1_21 (h : R1 D w1 pb po qb x1 x2 L a w) (hr : 21 ∈ Region.ready .any ops1 L) : wpOp Tryz.prog ops1 Q 21 (R1 D w1 pb po qb x1 x2 (L.setIfInBounds 21 true)) a w := by
  exact h.pure hr (X := .load 119 (.tmp 1)) (d := 23) (by kernel_rfl) (by rfl) (load1_run h) (by rfl)
theorem step1_22 (h : R1 D w1 pb po qb x1 x2 L a w) (hr : 22 ∈ Region.ready .any ops1 L) : wpOp Tryz.prog ops1 Q 22 (R1 D w1 pb po qb x1 x2 (L.setIfInBounds 22 true)) a w := by
  exact h.pure hr (X := .makeFunc (.func 138) #[.tmp 23] #[]) (d := 24) (by kernel_rfl) (by rfl) (mf_run1 (h.at_ hr (j := 21) (by kernel_rfl) (by rfl))) (by rfl)
theorem step1_23 (h : R1 D w1 pb po qb x1 x2 L a w) (hr : 23 ∈ Region.ready .any ops1 L) : wpOp Tryz.prog ops1 Q 23 (R1 D w1 pb po qb x1 x2 (L.setIfInBounds 23 true)) a w := by
  exact h.pure hr (X := .build 176 #[(0, .const (.int .i64 (0))), (1, .tmp 24)]) (d := 25) (by kernel_rfl) (by rfl) (bd_run (h.at_ hr (j := 22) (by kernel_rfl) (by rfl))) (by rfl)
theorem step1_24 (h : R1 D w1 pb po qb x1 x2 L a w) (hr : 24 ∈ Region.ready .any ops1 L) : wpOp Tryz.prog ops1 Q 24 (R1 D w1 pb po qb x1 x2 (L.setIfInBounds 24 true)) a w := by
  exact h.ins ⟨#[97, 116]⟩ (j := 0) hr (s := 25) (by kernel_rfl) (by kernel_rfl) (by kernel_rfl) trivial
theorem step1_25 (h : R1 D w1 pb po qb x1 x2 L a w) (hr : 25 ∈ Region.ready .any ops1 L) : wpOp Tryz.prog ops1 Q 25 (R1 D w1 pb po qb x1 x2 (L.setIfInBounds 25 true)) a w := by
  exact h.pure hr (X := .makeFunc (.func 139) #[] #[.tmp 1]) (d := 26) (by kernel_rfl) (by rfl) (mf_run2 h.t1) (by rfl)
theorem step1_26 (h : R1 D w1 pb po qb x1 x2 L a w) (hr : 26 ∈ Region.ready .any ops1 L) : wpOp Tryz.prog ops1 Q 26 (R1 D w1 pb po qb x1 x2 (L.setIfInBounds 26 true)) a w := by
  exact h.pure hr (X := .build 176 #[(0, .const (.int .i64 (1))), (1, .tmp 26)]) (d := 27) (by kernel_rfl) (by rfl) (bd_run (h.at_ hr (j := 25) (by kernel_rfl) (by rfl))) (by rfl)
theorem step1_27 (h : R1 D w1 pb po qb x1 x2 L a w) (hr : 27 ∈ Region.ready .any ops1 L) : wpOp Tryz.prog ops1 Q 27 (R1 D w1 pb po qb x1 x2 (L.setIfInBounds 27 true)) a w := by
  exact h.ins ⟨#[114, 111, 111, 116]⟩ (j := 0) hr (s := 27) (by kernel_rfl) (by kernel_rfl) (by kernel_rfl) trivial
theorem step1_28 (h : R1 D w1 pb po qb x1 x2 L a w) (hr : 28 ∈ Region.ready .any ops1 L) : wpOp Tryz.prog ops1 Q 28 (R1 D w1 pb po qb x1 x2 (L.setIfInBounds 28 true)) a w := by
  exact h.pure hr (X := .makeFunc (.func 142) #[] #[.tmp 1]) (d := 28) (by kernel_rfl) (by rfl) (mf_run2 h.t1) (by rfl)
theorem step1_29 (h : R1 D w1 pb po qb x1 x2 L a w) (hr : 29 ∈ Region.ready .any ops1 L) : wpOp Tryz.prog ops1 Q 29 (R1 D w1 pb po qb x1 x2 (L.setIfInBounds 29 true)) a w := by
  exact h.pure hr (X := .build 176 #[(0, .const (.int .i64 (5))), (1, .tmp 28)]) (d := 29) (by kernel_rfl) (by rfl) (bd_run (h.at_ hr (j := 28) (by kernel_rfl) (by rfl))) (by rfl)
theorem step1_30 (h : R1 D w1 pb po qb x1 x2 L a w) (hr : 30 ∈ Region.ready .any ops1 L) : wpOp Tryz.prog ops1 Q 30 (R1 D w1 pb po qb x1 x2 (L.setIfInBounds 30 true)) a w := by
  exact h.ins ⟨#[114, 101, 118, 111, 107, 101]⟩ (j := 0) hr (s := 29) (by kernel_rfl) (by kernel_rfl) (by kernel_rfl) trivial
theorem step1_31 (h : R1 D w1 pb po qb x1 x2 L a w) (hr : 31 ∈ Region.ready .any ops1 L) : wpOp Tryz.prog ops1 Q 31 (R1 D w1 pb po qb x1 x2 (L.setIfInBounds 31 true)) a w := by
  exact h.pure hr (X := .makeFunc (.func 146) #[] #[.tmp 1]) (d := 30) (by kernel_rfl) (by rfl) (mf_run2 h.t1) (by rfl)
theorem step1_32 (h : R1 D w1 pb po qb x1 x2 L a w) (hr : 32 ∈ Region.ready .any ops1 L) : wpOp Tryz.prog ops1 Q 32 (R1 D w1 pb po qb x1 x2 (L.setIfInBounds 32 true)) a w := by
  exact h.pure hr (X := .build 176 #[(0, .const (.int .i64 (2))), (1, .tmp 30)]) (d := 31) (by kernel_rfl) (by rfl) (bd_run (h.at_ hr (j := 31) (by kernel_rfl) (by rfl))) (by rfl)
theorem step1_33 (h : R1 D w1 pb po qb x1 x2 L a w) (hr : 33 ∈ Region.ready .any ops1 L) : wpOp Tryz.prog ops1 Q 33 (R1 D w1 pb po qb x1 x2 (L.setIfInBounds 33 true)) a w := by
  exact h.ins ⟨#[114, 97, 119]⟩ (j := 0) hr (s := 31) (by kernel_rfl) (by kernel_rfl) (by kernel_rfl) trivial
theorem step1_34 (h : R1 D w1 pb po qb x1 x2 L a w) (hr : 34 ∈ Region.ready .any ops1 L) : wpOp Tryz.prog ops1 Q 34 (R1 D w1 pb po qb x1 x2 (L.setIfInBounds 34 true)) a w := by
  exact h.pure hr (X := .makeFunc (.func 149) #[] #[.tmp 1]) (d := 32) (by kernel_rfl) (by rfl) (mf_run2 h.t1) (by rfl)
theorem step1_35 (h : R1 D w1 pb po qb x1 x2 L a w) (hr : 35 ∈ Region.ready .any ops1 L) : wpOp Tryz.prog ops1 Q 35 (R1 D w1 pb po qb x1 x2 (L.setIfInBounds 35 true)) a w := by
  exact h.pure hr (X := .build 176 #[(0, .const (.int .i64 (1))), (1, .tmp 32)]) (d := 33) (by kernel_rfl) (by rfl) (bd_run (h.at_ hr (j := 34) (by kernel_rfl) (by rfl))) (by rfl)
theorem step1_36 (h : R1 D w1 pb po qb x1 x2 L a w) (hr : 36 ∈ Region.ready .any ops1 L) : wpOp Tryz.prog ops1 Q 36 (R1 D w1 pb po qb x1 x2 (L.setIfInBounds 36 true)) a w := by
  exact h.ins ⟨#[116, 105, 99, 107]⟩ (j := 0) hr (s := 33) (by kernel_rfl) (by kernel_rfl) (by kernel_rfl) (eval_of (h.at_ hr (j := 35) (by kernel_rfl) (by rfl)))
theorem step1_37 (h : R1 D w1 pb po qb x1 x2 L a w) (hr : 37 ∈ Region.ready .any ops1 L) : wpOp Tryz.prog ops1 Q 37 (R1 D w1 pb po qb x1 x2 (L.setIfInBounds 37 true)) a w := by
  exact h.pure hr (X := .makeFunc (.func 152) #[] #[.tmp 1]) (d := 34) (by kernel_rfl) (by rfl) (mf_run2 h.t1) (by rfl)
theorem step1_38 (h : R1 D w1 pb po qb x1 x2 L a w) (hr : 38 ∈ Region.ready .any ops1 L) : wpOp Tryz.prog ops1 Q 38 (R1 D w1 pb po qb x1 x2 (L.setIfInBounds 38 true)) a w := by
  exact h.pure hr (X := .build 176 #[(0, .const (.int .i64 (0))), (1, .tmp 34)]) (d := 35) (by kernel_rfl) (by rfl) (bd_run (h.at_ hr (j := 37) (by kernel_rfl) (by rfl))) (by rfl)
theorem step1_39 (h : R1 D w1 pb po qb x1 x2 L a w) (hr : 39 ∈ Region.ready .any ops1 L) : wpOp Tryz.prog ops1 Q 39 (R1 D w1 pb po qb x1 x2 (L.setIfInBounds 39 true)) a w := by
  exact h.ins ⟨#[99, 114, 97, 115, 104]⟩ (j := 0) hr (s := 35) (by kernel_rfl) (by kernel_rfl) (by kernel_rfl) trivial
theorem step1_40 (h : R1 D w1 pb po qb x1 x2 L a w) (hr : 40 ∈ Region.ready .any ops1 L) : wpOp Tryz.prog ops1 Q 40 (R1 D w1 pb po qb x1 x2 (L.setIfInBounds 40 true)) a w := by
  exact h.pure hr (X := .makeFunc (.func 153) #[] #[.tmp 1]) (d := 36) (by kernel_rfl) (by rfl) (mf_run2 h.t1) (by rfl)
theorem step1_41 (h : R1 D w1 pb po qb x1 x2 L a w) (hr : 41 ∈ Region.ready .any ops1 L) : wpOp Tryz.prog ops1 Q 41 (R1 D w1 pb po qb x1 x2 (L.setIfInBounds 41 true)) a w := by
  exact h.pure hr (X := .build 176 #[(0, .const (.int .i64 (5))), (1, .tmp 36)]) (d := 37) (by kernel_rfl) (by rfl) (bd_run (h.at_ hr (j := 40) (by kernel_rfl) (by rfl))) (by rfl)
theorem step1_42 (h : R1 D w1 pb po qb x1 x2 L a w) (hr : 42 ∈ Region.ready .any ops1 L) : wpOp Tryz.prog ops1 Q 42 (R1 D w1 pb po qb x1 x2 (L.setIfInBounds 42 true)) a w := by
  exact h.ins ⟨#[116, 117, 114, 110]⟩ (j := 0) hr (s := 37) (by kernel_rfl) (by kernel_rfl) (by kernel_rfl) trivial
theorem step1_43 (h : R1 D w1 pb po qb x1 x2 L a w) (hr : 43 ∈ Region.ready .any ops1 L) : wpOp Tryz.prog ops1 Q 43 (R1 D w1 pb po qb x1 x2 (L.setIfInBounds 43 true)) a w := by
  exact h.pure hr (X := .makeFunc (.func 155) #[] #[.tmp 1]) (d := 38) (by kernel_rfl) (by rfl) (mf_run2 h.t1) (by rfl)
theorem step1_44 (h : R1 D w1 pb po qb x1 x2 L a w) (hr : 44 ∈ Region.ready .any ops1 L) : wpOp Tryz.prog ops1 Q 44 (R1 D w1 pb po qb x1 x2 (L.setIfInBounds 44 true)) a w := by
  exact h.pure hr (X := .build 176 #[(0, .const (.int .i64 (3))), (1, .tmp 38)]) (d := 39) (by kernel_rfl) (by rfl) (bd_run (h.at_ hr (j := 43) (by kernel_rfl) (by rfl))) (by rfl)
theorem step1_45 (h : R1 D w1 pb po qb x1 x2 L a w) (hr : 45 ∈ Region.ready .any ops1 L) : wpOp Tryz.prog ops1 Q 45 (R1 D w1 pb po qb x1 x2 (L.setIfInBounds 45 true)) a w := by
  exact h.ins ⟨#[108, 97, 115, 116, 105, 110, 103]⟩ (j := 0) hr (s := 39) (by kernel_rfl) (by kernel_rfl) (by kernel_rfl) trivial
theorem step1_46 (h : R1 D w1 pb po qb x1 x2 L a w) (hr : 46 ∈ Region.ready .any ops1 L) : wpOp Tryz.prog ops1 Q 46 (R1 D w1 pb po qb x1 x2 (L.setIfInBounds 46 true)) a w := by
  exact h.pure hr (X := .makeFunc (.func 158) #[] #[.tmp 1]) (d := 40) (by kernel_rfl) (by rfl) (mf_run2 h.t1) (by rfl)
theorem step1_47 (h : R1 D w1 pb po qb x1 x2 L a w) (hr : 47 ∈ Region.ready .any ops1 L) : wpOp Tryz.prog ops1 Q 47 (R1 D w1 pb po qb x1 x2 (L.setIfInBounds 47 true)) a w := by
  exact h.pure hr (X := .build 176 #[(0, .const (.int .i64 (1))), (1, .tmp 40)]) (d := 41) (by kernel_rfl) (by rfl) (bd_run (h.at_ hr (j := 46) (by kernel_rfl) (by rfl))) (by rfl)
theorem step1_48 (h : R1 D w1 pb po qb x1 x2 L a w) (hr : 48 ∈ Region.ready .any ops1 L) : wpOp Tryz.prog ops1 Q 48 (R1 D w1 pb po qb x1 x2 (L.setIfInBounds 48 true)) a w := by
  exact h.ins ⟨#[111, 117, 116]⟩ (j := 0) hr (s := 41) (by kernel_rfl) (by kernel_rfl) (by kernel_rfl) (eval_of (h.at_ hr (j := 47) (by kernel_rfl) (by rfl)))
theorem step1_49 (h : R1 D w1 pb po qb x1 x2 L a w) (hr : 49 ∈ Region.ready .any ops1 L) : wpOp Tryz.prog ops1 Q 49 (R1 D w1 pb po qb x1 x2 (L.setIfInBounds 49 true)) a w := by
  exact h.pure hr (X := .makeFunc (.func 161) #[] #[.tmp 1]) (d := 42) (by kernel_rfl) (by rfl) (mf_run2 h.t1) (by rfl)
theorem step1_50 (h : R1 D w1 pb po qb x1 x2 L a w) (hr : 50 ∈ Region.ready .any ops1 L) : wpOp Tryz.prog ops1 Q 50 (R1 D w1 pb po qb x1 x2 (L.setIfInBounds 50 true)) a w := by
  exact h.pure hr (X := .build 176 #[(0, .const (.int .i64 (1))), (1, .tmp 42)]) (d := 43) (by kernel_rfl) (by rfl) (bd_run (h.at_ hr (j := 49) (by kernel_rfl) (by rfl))) (by rfl)
theorem step1_51 (h : R1 D w1 pb po qb x1 x2 L a w) (hr : 51 ∈ Region.ready .any ops1 L) : wpOp Tryz.prog ops1 Q 51 (R1 D w1 pb po qb x1 x2 (L.setIfInBounds 51 true)) a w := by
  exact h.ins ⟨#[99, 111, 117, 110, 116]⟩ (j := 0) hr (s := 43) (by kernel_rfl) (by kernel_rfl) (by kernel_rfl) trivial
theorem step1_52 (h : R1 D w1 pb po qb x1 x2 L a w) (hr : 52 ∈ Region.ready .any ops1 L) : wpOp Tryz.prog ops1 Q 52 (R1 D w1 pb po qb x1 x2 (L.setIfInBounds 52 true)) a w := by
  exact h.pure hr (X := .makeFunc (.func 163) #[] #[.tmp 1]) (d := 44) (by kernel_rfl) (by rfl) (mf_run2 h.t1) (by rfl)
theorem step1_53 (h : R1 D w1 pb po qb x1 x2 L a w) (hr : 53 ∈ Region.ready .any ops1 L) : wpOp Tryz.prog ops1 Q 53 (R1 D w1 pb po qb x1 x2 (L.setIfInBounds 53 true)) a w := by
  exact h.pure hr (X := .build 176 #[(0, .const (.int .i64 (1))), (1, .tmp 44)]) (d := 45) (by kernel_rfl) (by rfl) (bd_run (h.at_ hr (j := 52) (by kernel_rfl) (by rfl))) (by rfl)
theorem step1_54 (h : R1 D w1 pb po qb x1 x2 L a w) (hr : 54 ∈ Region.ready .any ops1 L) : wpOp Tryz.prog ops1 Q 54 (R1 D w1 pb po qb x1 x2 (L.setIfInBounds 54 true)) a w := by
  exact h.ins ⟨#[116, 101, 110, 97, 110, 116]⟩ (j := 0) hr (s := 45) (by kernel_rfl) (by kernel_rfl) (by kernel_rfl) trivial
theorem step1_55 (h : R1 D w1 pb po qb x1 x2 L a w) (hr : 55 ∈ Region.ready .any ops1 L) : wpOp Tryz.prog ops1 Q 55 (R1 D w1 pb po qb x1 x2 (L.setIfInBounds 55 true)) a w := by
  exact h.mv55 hr
theorem step1_56 (h : R1 D w1 pb po qb x1 x2 L a w) (hr : 56 ∈ Region.ready .any ops1 L) : wpOp Tryz.prog ops1 Q 56 (R1 D w1 pb po qb x1 x2 (L.setIfInBounds 56 true)) a w := by
  exact h.mv56 hr
theorem step1 (o1 : x1.oneCell' = true) (o2 : x2.oneCell' = true) (hD : ∀ x w, x.oneCell' = true → Does Tryz.prog 135 #[x] w fun _ w' => Grew w w') : ∀ i, i < 57 → R1 D w1 pb po qb x1 x2 L a w → i ∈ Region.ready .any ops1 L → wpOp Tryz.prog ops1 Q i (R1 D w1 pb po qb x1 x2 (L.setIfInBounds i true)) a w
  | 0, _, h, hr => step1_0 h hr
  | 1, _, h, hr => step1_1 h hr
  | 2, _, h, hr => step1_2 h hr
  | 3, _, h, hr => step1_3 h hr
  | 4, _, h, hr => step1_4 h hr
  | 5, _, h, hr => step1_5 h hr o1 hD
  | 6, _, h, hr => step1_6 h hr
  | 7, _, h, hr => step1_7 h hr
  | 8, _, h, hr => step1_8 h hr
  | 9, _, h, hr => step1_9 h hr
  | 10, _, h, hr => step1_10 h hr
  | 11, _, h, hr => step1_11 h hr o2 hD
  | 12, _, h, hr => step1_12 h hr
  | 13, _, h, hr => step1_13 h hr
  | 14, _, h, hr => step1_14 h hr
  | 15, _, h, hr => step1_15 h hr
  | 16, _, h, hr => step1_16 h hr
  | 17, _, h, hr => step1_17 h hr
  | 18, _, h, hr => step1_18 h hr
  | 19, _, h, hr => step1_19 h hr
  | 20, _, h, hr => step1_20 h hr
  | 21, _, h, hr => step1_21 h hr
  | 22, _, h, hr => step1_22 h hr
  | 23, _, h, hr => step1_23 h hr
  | 24, _, h, hr => step1_24 h hr
  | 25, _, h, hr => step1_25 h hr
  | 26, _, h, hr => step1_26 h hr
  | 27, _, h, hr => step1_27 h hr
  | 28, _, h, hr => step1_28 h hr
  | 29, _, h, hr => step1_29 h hr
  | 30, _, h, hr => step1_30 h hr
  | 31, _, h, hr => step1_31 h hr
  | 32, _, h, hr => step1_32 h hr
  | 33, _, h, hr => step1_33 h hr
  | 34, _, h, hr => step1_34 h hr
  | 35, _, h, hr => step1_35 h hr
  | 36, _, h, hr => step1_36 h hr
  | 37, _, h, hr => step1_37 h hr
  | 38, _, h, hr => step1_38 h hr
  | 39, _, h, hr => step1_39 h hr
  | 40, _, h, hr => step1_40 h hr
  | 41, _, h, hr => step1_41 h hr
  | 42, _, h, hr => step1_42 h hr
  | 43, _, h, hr => step1_43 h hr
  | 44, _, h, hr => step1_44 h hr
  | 45, _, h, hr => step1_45 h hr
  | 46, _, h, hr => step1_46 h hr
  | 47, _, h, hr => step1_47 h hr
  | 48, _, h, hr => step1_48 h hr
  | 49, _, h, hr => step1_49 h hr
  | 50, _, h, hr => step1_50 h hr
  | 51, _, h, hr => step1_51 h hr
  | 52, _, h, hr => step1_52 h hr
  | 53, _, h, hr => step1_53 h hr
  | 54, _, h, hr => step1_54 h hr
  | 55, _, h, hr => step1_55 h hr
  | 56, _, h, hr => step1_56 h hr
  | n + 57, hn, _, _ => by omega
end
end Go.Proofs.YtohnakjamlhhkaaGreatDoor
