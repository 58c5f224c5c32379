/- The contract of lines.commands. -/
import Derived.Test.YtohnakjamlhhkaaGreatDoorKO
namespace Go.Proofs.YtohnakjamlhhkaaGreatDoor
open Go Go.Proofs Go.RowKit
set_option maxRecDepth 100000
set_option linter.unusedVariables false
set_option linter.unusedSimpArgs false

def cmdRows (pv : Value) : List (List Value) := [[pv], [pv], [.int .i64 1], [.int .i64 1], [pv], [.int .i64 2], [.int .i64 3], [pv], [.int .i64 3], [.int .i64 3]]
/-- An operation's entry whose captured blocks are numbers b, b + 1 and b + 2. -/
def askA (b : Nat) (w : Nat) : Value := .agg #[.int .i64 (.ofNat (3 + w)), .func (.func 214) #[] #[.pointer (some ⟨b + 1, 0, none⟩), .pointer (some ⟨b + 2, 0, none⟩), .pointer (some ⟨b, 0, none⟩)]]
def cmdVal (n : Nat) : Nat → Value
  | 36 => .agg #[.int .i64 1, .func (.func 149) #[] #[.pointer (some ⟨n, 0, none⟩)]]
  | 48 => .agg #[.int .i64 1, .func (.func 158) #[] #[.pointer (some ⟨n, 0, none⟩)]]
  | _ => unk
def cmdEs (n : Nat) : List (Value × Value) := [(.string (nameOf 1), askA (n + 1) 1), (.string (nameOf 2), askA (n + 4) 3), (.string (nameOf 3), askA (n + 7) 3), (.string (nameOf 4), unk), (.string (nameOf 5), unk), (.string (nameOf 6), unk), (.string (nameOf 7), unk), (.string (nameOf 8), unk)] ++
  insIx.map fun r => (.string r.2.1, cmdVal n r.1)
def keysB : List (Value × Value) → Bool
  | [] => true
  | x :: l => l.all (fun y => match keyEq x.1 y.1 with | some false => true | _ => false) && keysB l
theorem keysB_eq : ∀ {l : List (Value × Value)}, keysB l = true → l.Pairwise fun a b => keyEq a.1 b.1 = some false
  | [], _ => .nil
  | x :: l, h => by
    simp only [keysB, Bool.and_eq_true] at h
    refine List.pairwise_cons.2 ⟨fun y hy => ?_, keysB_eq h.2⟩
    have := List.all_eq_true.1 h.1 y hy
    split at this
    · assumption
    · cases this
theorem cmdEs_keys (n : Nat) : keysB (cmdEs n) = true := by kernel_rfl
noncomputable def cmdC (C : Con) : Con := fun g args A => match Nat.beq g 91, args with
  | true, [.pointer (some p)] => match A.obj p.block with
    | some (.row _ cs _) => match nth cs (p.off + 1), nth cs (p.off + 2) with
      | some _, some _ => force (fun n => some (.map (some (n + 10)), ((addAll (cmdRows (.pointer (some ⟨p.block, p.off, none⟩))) A).new (.map (cmdEs n))).2)) A.next
      | _, _ => none
    | _ => none
  | _, _ => C g args A
theorem askRow {E0 : Em} {w0 w : World} {n k : Nat} {pb po : Nat} {pv : Value} (h : AskRows w pb po n k) (hv : VRel E0 pv (.pointer (some ⟨pb, po, none⟩))) (h1 : oneC pv = true) (hn : w0.heap.size ≤ n) :
    NewRow E0 w0 w ([pv], [.pointer (some ⟨pb, po, none⟩)], n) ∧ NewRow E0 w0 w ([.int .i64 (.ofNat k)], [.int .i64 k], n + 1) ∧ NewRow E0 w0 w ([.int .i64 (.ofNat (wordsOf k))], [.int .i64 (wordsOf k)], n + 2) :=
  ⟨⟨.cons _ _ _ _ hv .nil, by simp [h1], ⟨_, (0, 0), h.r0, fun i _ => by simp⟩, hn⟩, ⟨.cons _ _ _ _ (.int _ _) .nil, rfl, ⟨_, (0, 0), h.r1, fun i _ => by simp⟩, by show w0.heap.size ≤ n + 1; omega⟩, ⟨.cons _ _ _ _ (.int _ _) .nil, rfl, ⟨_, (0, 0), h.r2, fun i _ => by simp⟩, by show w0.heap.size ≤ n + 2; omega⟩⟩
theorem askA_rel {E : Em} {b n k : Nat} (h0 : E.blk b = some (n, 0)) (h1 : E.blk (b + 1) = some (n + 1, 0)) (h2 : E.blk (b + 2) = some (n + 2, 0)) : VRel E (askA b (wordsOf k)) (askV n k) := by
  refine .agg _ _ (.cons _ _ _ _ ?_ (.cons _ _ _ _ (.func _ _ _ _ _ .nil (.cons _ _ _ _ (.ptr _ 0 _ 0 h1) (.cons _ _ _ _ (.ptr _ 0 _ 0 h2) (.cons _ _ _ _ (.ptr _ 0 _ 0 h0) .nil)))) .nil))
  have : (Int.ofNat (3 + wordsOf k)) = 3 + (wordsOf k : Int) := by simp
  rw [this]
  exact .int _ _
theorem vspecs15 {E : Em} {n qb : Nat} (hq : E.blk n = some (qb, 0)) : ∀ (l : List (Nat × ByteArray × Nat)), VSpecs E (l.map fun r => (r.2.1, spec1 qb r.1)) (l.map fun r => (.string r.2.1, cmdVal n r.1))
  | [] => .nil
  | r :: l => by
    refine .cons _ _ _ _ _ (fun v hv => ?_) (vspecs15 hq l)
    unfold spec1 at hv
    split at hv
    · rename_i hr
      rw [hr, hv]
      exact .agg _ _ (.cons _ _ _ _ (.int _ _) (.cons _ _ _ _ (.func _ _ _ _ _ .nil (.cons _ _ _ _ (.ptr _ 0 _ 0 hq) .nil)) .nil))
    · rename_i hr
      rw [hr, hv]
      exact .agg _ _ (.cons _ _ _ _ (.int _ _) (.cons _ _ _ _ (.func _ _ _ _ _ .nil (.cons _ _ _ _ (.ptr _ 0 _ 0 hq) .nil)) .nil))
    · rename_i hr1 hr2
      have : cmdVal n r.1 = unk := by
        unfold cmdVal
        split
        · rename_i q; exact absurd q hr1
        · rename_i q; exact absurd q hr2
        · rfl
      rw [this]
      exact .unk _
theorem cmdC_ok {V : Nat → Value} {C : Con} (hC : ConOK Tryz.prog V C) : ConOK Tryz.prog V (cmdC C) := by
  intro g args A v A' h E w args' hV ha hR
  unfold cmdC at h
  split at h
  · rename_i p hg
    have := Nat.eq_of_beq_eq_true hg
    subst this
    split at h <;> first | (cases h; done) | skip
    rename_i e cs m ho
    split at h <;> first | (cases h; done) | skip
    rename_i u1 u2 hu1 hu2
    rw [force_eq] at h
    cases h
    cases ha with
    | cons _ x' _ _ hx ht =>
      cases ht
      obtain ⟨B, s, hsp, hb, rfl⟩ := hx.ptr_inv
      obtain ⟨c, hrow, hsz, hcs⟩ := hR.rowAt ho hb
      rw [nth_eq] at hu1 hu2
      obtain ⟨k1, x1, hx1, hr1⟩ := hcs _ _ hu1
      obtain ⟨k2, x2, hx2, hr2⟩ := hcs _ _ hu2
      have hc1 : w.cell? ((⟨B, p.off + s, none⟩ : Addr).add 1) = some x1 := by
        rw [addr_add, hrow.cell, show p.off + s + 1 = p.off + 1 + s by omega]; exact hx1
      have hc2 : w.cell? ((⟨B, p.off + s, none⟩ : Addr).add 2) = some x2 := by
        rw [addr_add, hrow.cell, show p.off + s + 2 = p.off + 2 + s by omega]; exact hx2
      have hpv : VRel E (.pointer (some ⟨p.block, p.off, none⟩)) (.pointer (some ⟨B, p.off + s, none⟩)) := .ptr _ _ _ _ hb
      refine (cmd_calls B (p.off + s) x1 x2 w (oneC_rel k1 hr1) (oneC_rel k2 hr2) hc1 hc2).mono ?_
      rintro v' w' ⟨qb, R, done, rfl, hgr, hqb, hR1, hqR, hq, hmh, hrows, hnd, hall⟩
      obtain ⟨n1, m1⟩ := hall 1 (by omega) (by omega)
      obtain ⟨n2, m2⟩ := hall 2 (by omega) (by omega)
      obtain ⟨n3, m3⟩ := hall 3 (by omega) (by omega)
      obtain ⟨n4, m4⟩ := hall 4 (by omega) (by omega)
      obtain ⟨n5, m5⟩ := hall 5 (by omega) (by omega)
      obtain ⟨n6, m6⟩ := hall 6 (by omega) (by omega)
      obtain ⟨n7, m7⟩ := hall 7 (by omega) (by omega)
      obtain ⟨n8, m8⟩ := hall 8 (by omega) (by omega)
      have hperm := done_perm hnd (fun d hd => (hrows d hd).2.2.2) m1 m2 m3 m4 m5 m6 m7 m8
      obtain ⟨a1, b1, c1, _⟩ := hrows _ m1
      obtain ⟨a2, b2, c2, _⟩ := hrows _ m2
      obtain ⟨a3, b3, c3, _⟩ := hrows _ m3
      have p12 := apart_of hnd m1 m2 (by simp)
      have p13 := apart_of hnd m1 m3 (by simp)
      have p23 := apart_of hnd m2 m3 (by simp)
      simp only at a1 b1 c1 a2 b2 c2 a3 b3 c3 p12 p13 p23
      obtain ⟨r10, r11, r12⟩ := askRow (w0 := w) a1 hpv rfl (by omega)
      obtain ⟨r20, r21, r22⟩ := askRow (w0 := w) a2 hpv rfl (by omega)
      obtain ⟨r30, r31, r32⟩ := askRow (w0 := w) a3 hpv rfl (by omega)
      have hs0 : Stp E A w E A w' := .grew hR hgr
      have hno : ∀ X, w.heap.size ≤ X → ∀ x s', E.blk x ≠ some (X, s') := fun X hX x s' hx => by have := hR.lt _ _ _ hx; omega
      have rq : NewRow E w w' ([.pointer (some ⟨p.block, p.off, none⟩)], [.pointer (some ⟨B, p.off + s, none⟩)], qb) := ⟨.cons _ _ _ _ hpv .nil, rfl, ⟨_, (0, 0), hq, fun i _ => by simp⟩, hqb⟩
      obtain ⟨E', g1, g2, g3, g4, g5⟩ := addRows hgr.size [([.pointer (some ⟨p.block, p.off, none⟩)], [.pointer (some ⟨B, p.off + s, none⟩)], qb),
        ([.pointer (some ⟨p.block, p.off, none⟩)], [.pointer (some ⟨B, p.off + s, none⟩)], n1), ([.int .i64 (.ofNat 1)], [.int .i64 (1 : Nat)], n1 + 1), ([.int .i64 (.ofNat (wordsOf 1))], [.int .i64 (wordsOf 1)], n1 + 2),
        ([.pointer (some ⟨p.block, p.off, none⟩)], [.pointer (some ⟨B, p.off + s, none⟩)], n2), ([.int .i64 (.ofNat 2)], [.int .i64 (2 : Nat)], n2 + 1), ([.int .i64 (.ofNat (wordsOf 2))], [.int .i64 (wordsOf 2)], n2 + 2),
        ([.pointer (some ⟨p.block, p.off, none⟩)], [.pointer (some ⟨B, p.off + s, none⟩)], n3), ([.int .i64 (.ofNat 3)], [.int .i64 (3 : Nat)], n3 + 1), ([.int .i64 (.ofNat (wordsOf 3))], [.int .i64 (wordsOf 3)], n3 + 2)] E A hs0
        (by
          intro r hr
          simp only [List.mem_cons, List.not_mem_nil, or_false] at hr
          rcases hr with rfl | rfl | rfl | rfl | rfl | rfl | rfl | rfl | rfl | rfl <;> assumption)
        (by simp only [List.pairwise_cons, List.mem_cons, List.not_mem_nil, or_false, forall_eq_or_imp, forall_eq, List.Pairwise.nil, and_true]; simp; omega)
        (by
          intro r hr
          simp only [List.mem_cons, List.not_mem_nil, or_false] at hr
          rcases hr with rfl | rfl | rfl | rfl | rfl | rfl | rfl | rfl | rfl | rfl <;> exact hno _ (by simp only; omega))
      have hnoR : ∀ x s', E'.blk x ≠ some (R, s') := fun x s' hx => by
        rcases g5 x R s' hx with ⟨r, hr, he⟩ | hx
        · simp only [List.mem_cons, List.not_mem_nil, or_false] at hr
          rcases hr with rfl | rfl | rfl | rfl | rfl | rfl | rfl | rfl | rfl | rfl <;> simp only at he <;> omega
        · exact hno R hR1 x s' hx
      have hmh2 := hmh.perm ((hperm.map fun d => (nameOf d.1, (· = askV d.2 d.1))).append_right (specs15 qb))
      obtain ⟨ents, clock, l', q1, q2, q3⟩ := hmh2
      have e0 := g4 0 _ rfl
      have hvs : VSpecs E' ((([(1, n1), (2, n2), (3, n3), (4, n4), (5, n5), (6, n6), (7, n7), (8, n8)] : Done).map fun d => (nameOf d.1, (· = askV d.2 d.1))) ++ specs15 qb) (cmdEs A.next) := by
        refine .cons _ _ _ _ _ (fun v hv => ?_) (.cons _ _ _ _ _ (fun v hv => ?_) (.cons _ _ _ _ _ (fun v hv => ?_) (.cons _ _ _ _ _ (fun v hv => .unk v) (.cons _ _ _ _ _ (fun v hv => .unk v) (.cons _ _ _ _ _ (fun v hv => .unk v) (.cons _ _ _ _ _ (fun v hv => .unk v) (.cons _ _ _ _ _ (fun v hv => .unk v) (vspecs15 e0 insIx))))))))
        · have hv' : v = askV n1 1 := hv
          rw [hv']; exact askA_rel (k := 1) (g4 1 _ rfl) (g4 2 _ rfl) (g4 3 _ rfl)
        · have hv' : v = askV n2 2 := hv
          rw [hv']; exact askA_rel (k := 2) (g4 4 _ rfl) (g4 5 _ rfl) (g4 6 _ rfl)
        · have hv' : v = askV n3 3 := hv
          rw [hv']; exact askA_rel (k := 3) (g4 7 _ rfl) (g4 8 _ rfl) (g4 9 _ rfl)
      obtain ⟨f1, f2, f3⟩ := g1.addMap hR1 q1 ⟨⟨l', q2.erel hvs, q3⟩, keysB_eq (cmdEs_keys A.next)⟩ hnoR
      refine ⟨_, f1, ?_⟩
      rw [g3] at f3
      exact .map _ _ (by rw [g3]; exact f3)
  · exact hC _ _ A v A' h E w args' hV ha hR
end Go.Proofs.YtohnakjamlhhkaaGreatDoor
