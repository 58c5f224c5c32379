/- What is said of the library's functions. -/
import Derived.Test.YtohnakjamlhhkaaGreatDoorKB
import Derived.Test.YtohnakjamlhhkaaGreatDoorKC
import Derived.Test.YtohnakjamlhhkaaGreatDoorKD
namespace Go.Proofs.YtohnakjamlhhkaaGreatDoor
open Go Go.Proofs Go.RowKit
set_option linter.unusedVariables false
set_option linter.unusedSimpArgs false
set_option maxRecDepth 100000

theorem Rel.leaf {E : Em} {A : AH} {w w' : World} (hR : Rel E A w) (hsz : w.heap.size ≤ w'.heap.size) : Rel E ⟨.leaf, A.next⟩ w' :=
  ⟨hR.fresh, fun b B s hb => Nat.lt_of_lt_of_le (hR.lt b B s hb) hsz, fun b e cs m hb => (by cases hb), fun b b' e e' cs cs' m m' B s s' _ hb => (by cases hb), fun b es hb => (by cases hb), fun b b' es es' R hb => (by cases hb), fun b m hb => (by cases hb), fun b e cs m hb => (by cases hb)⟩

/-! ### The builder's own check -/
noncomputable def checkC (C : Con) : Con := fun g args A => match Nat.beq g 95, args with
  | true, [.pointer (some a)] => match Nat.beq a.off 0, A.obj a.block with
    | true, some (.row e (p :: q :: cs) m) => match Nat.beq e 123, p with
      | true, .pointer none => match storeCellsA A a.block 0 [.pointer (some ⟨a.block, 0, none⟩)] with
        | some A' => some (.tuple #[], A')
        | none => none
      | true, .pointer (some b) => match Nat.beq b.block a.block && Nat.beq b.off 0 with
        | true => some (.tuple #[], A)
        | false => none
      | _, _ => none
    | _, _ => none
  | _, _ => C g args A
theorem checkC_ok {V : Nat → Value} {C : Con} (hC : ConOK Tryz.prog V C) : ConOK Tryz.prog V (checkC C) := by
  intro g args A v A' h E w args' hV ha hR
  unfold checkC at h
  split at h
  · rename_i a hg
    have := Nat.eq_of_beq_eq_true hg
    subst this
    split at h <;> first | (cases h; done) | skip
    rename_i e p q cs m h0 ho
    have h0 := Nat.eq_of_beq_eq_true h0
    cases ha with
    | cons _ x' _ _ hx ht =>
      cases ht
      obtain ⟨B, s, hsp, hb, rfl⟩ := hx.ptr_inv
      rw [h0] at *
      have hty := hR.typ _ _ _ _ ho
      obtain ⟨c, hrow, hsz, hcs⟩ := hR.rowAt ho hb
      have key : e = 123 → s = 0 ∧ w.shape? B = some (123, c.size) ∧ 2 ≤ c.size := fun he => by
        subst he
        rcases hty with q0 | ⟨B', c', fr, g1, g2⟩
        · cases q0
        · rw [hb] at g1; cases g1
          obtain ⟨t, fr', g3, _⟩ := hrow
          rw [g2] at g3; cases g3
          refine ⟨rfl, by simp [World.shape?, g2], ?_⟩
          obtain ⟨_, _, g5, _⟩ := hcs 1 q rfl
          have := (Array.getElem?_eq_some_iff.1 g5).1
          omega
      obtain ⟨hone, p', hp', hpr⟩ := hcs 0 p rfl
      have hcell : w.cell? ⟨B, 0 + s, none⟩ = some p' := by rw [hrow.cell]; exact hp'
      split at h <;> first | (cases h; done) | skip
      · rename_i he
        obtain ⟨rfl, hsh, h2⟩ := key (Nat.eq_of_beq_eq_true he)
        split at h <;> first | (cases h; done) | skip
        rename_i A1 hst
        cases h
        cases hpr
        have hv : VRels E [.pointer (some ⟨a.block, 0, none⟩)] [.pointer (some ⟨B, 0, none⟩)] := .cons _ _ _ _ (.ptr _ 0 _ 0 hb) .nil
        obtain ⟨w', hrun, hs⟩ := storeCellsA_run (P := Tryz.prog) hR hst hv hb (by simp)
        have hw' : w' = w.setCell ⟨B, 0, none⟩ (.pointer (some ⟨B, 0, none⟩)) := by
          obtain ⟨t, fr, g3, _⟩ := id hrow
          have h3 := hrow.store Tryz.prog (i := 0) (v := .pointer (some ⟨B, 0, none⟩)) (by omega) rfl
          have h4 : (storeCells ⟨B, 0 + 0, none⟩ [.pointer (some ⟨B, 0, none⟩)]).run Tryz.prog w = .ok () (w.setRow B (c.setIfInBounds 0 (.pointer (some ⟨B, 0, none⟩)))) := by
            simp only [storeCells, Sem.run_bind, addr_add, Nat.add_zero]
            rw [h3]
            rfl
          rw [h4] at hrun
          cases hrun
          rw [setCell_eq_setRow w B 0 c t fr _ g3]
        refine does_of_calls Tryz.func95 (by rfl) (by kernel_rfl) fun R' hR' => ?_
        refine (check_new B c.size w hcell hsh h2 (hrow.frozen (by omega))).mono fun e w2 ⟨he, hw⟩ => ?_
        subst he; subst hw
        exact hR' _ _ ⟨E, by rw [← hw']; exact hs, .tuple _ _ .nil⟩
      · rename_i b he
        obtain ⟨rfl, hsh, h2⟩ := key (Nat.eq_of_beq_eq_true he)
        split at h <;> first | (cases h; done) | skip
        rename_i hbb
        simp only [Bool.and_eq_true] at hbb
        cases h
        obtain ⟨B', s', _, hb', rfl⟩ := hpr.ptr_inv
        rw [Nat.eq_of_beq_eq_true hbb.1, hb] at hb'
        cases hb'
        rw [Nat.eq_of_beq_eq_true hbb.2] at hcell
        refine does_of_calls Tryz.func95 (by rfl) (by kernel_rfl) fun R' hR' => ?_
        refine (check_used B w hcell).mono fun e w2 ⟨he, hw⟩ => ?_
        subst he; subst hw
        exact hR' _ _ ⟨E, .refl hR, .tuple _ _ .nil⟩
  · exact hC _ _ A v A' h E w args' hV ha hR

/-! ### The builder's text -/
def bytesX : List Value → Option (List UInt8)
  | [] => some []
  | .int .u8 (.ofNat n) :: r => match Nat.blt n 256, bytesX r with
    | true, some bs => some (UInt8.ofNat n :: bs)
    | _, _ => none
  | _ => none
theorem bytesX_eq : ∀ {r : List Value} {bs : List UInt8}, bytesX r = some bs → r = bs.map fun b => Value.int .u8 b.toNat
  | [], bs, h => by cases h; rfl
  | v :: r, bs, h => by
    unfold bytesX at h
    split at h
    · rename_i hq; cases hq
    · rename_i n r' hq
      cases hq
      split at h
      · rename_i bs' hn hr
        cases h
        have hlt : n < 256 := by have := Nat.le_of_ble_eq_true hn; omega
        rw [bytesX_eq hr]
        simp [UInt8.toNat_ofNat, Nat.mod_eq_of_lt hlt]
      · cases h
    · cases h
noncomputable def textC (C : Con) : Con := fun g args A => match Nat.beq g 60, args with
  | true, [.pointer (some a)] => match A.obj a.block with
    | some (.row _ cs _) => match nth cs (a.off + 1) with
      | some (.slice (some q) (n + 1) c) => match Nat.beq q.off 0 && Nat.ble n 100000, A.obj q.block with
        | true, some (.row e rs _) => match Nat.beq e 5, slice_ rs 0 (n + 1) with
          | true, some r => match bytesX r with
            | some bs => some (.string ⟨bs.toArray⟩, ⟨.leaf, A.next⟩)
            | none => none
          | _, _ => none
        | _, _ => none
      | _ => none
    | _ => none
  | _, _ => C g args A
theorem textC_ok {V : Nat → Value} {C : Con} (hC : ConOK Tryz.prog V C) : ConOK Tryz.prog V (textC C) := by
  intro g args A v A' h E w args' hV ha hR
  unfold textC at h
  split at h
  · rename_i a hg
    have := Nat.eq_of_beq_eq_true hg
    subst this
    split at h <;> first | (cases h; done) | skip
    rename_i _ cs _ ho
    split at h <;> first | (cases h; done) | skip
    rename_i q n c hq
    split at h <;> first | (cases h; done) | skip
    rename_i e rs _ hqn ho2
    split at h <;> first | (cases h; done) | skip
    rename_i r he hr
    split at h <;> first | (cases h; done) | skip
    rename_i bs hbs
    cases h
    simp only [Bool.and_eq_true] at hqn
    have hq0 := Nat.eq_of_beq_eq_true hqn.1
    have hn1 := Nat.le_of_ble_eq_true hqn.2
    have he5 := Nat.eq_of_beq_eq_true he
    subst he5
    cases ha with
    | cons _ x' _ _ hx ht =>
      cases ht
      obtain ⟨B, s, hsp, hb, rfl⟩ := hx.ptr_inv
      obtain ⟨c1, hrow, hsz, hcs⟩ := hR.rowAt ho hb
      rw [nth_eq] at hq
      obtain ⟨_, sl, hsl, hslr⟩ := hcs _ _ hq
      obtain ⟨hrl, hrg⟩ := slice_eq hr
      have hrb := bytesX_eq hbs
      have hbl : bs.length = n + 1 := by rw [← hrl, hrb]; simp
      obtain ⟨qb, qo, qs⟩ := q
      simp only at hq0 ho2
      subst hq0
      cases hslr with
      | slc bb o nn cc c' G s2 sz hbl2 hn hc hrm =>
        rcases hR.typ _ _ _ _ ho2 with h0 | ⟨G', c2, fr, g1, g2⟩
        · cases h0
        rw [hbl2] at g1; cases g1
        obtain ⟨c3, hrow3, hsz3, hcs3⟩ := hR.rowAt ho2 hbl2
        have hc23 : c3 = c2 := by
          obtain ⟨t, fr', g3, _⟩ := hrow3
          rw [g2] at g3; cases g3; rfl
        subst hc23
        have hcell : ∀ (j : Nat) x, bs[j]? = some x → w.cell? ⟨G, 0 + j, none⟩ = some (.int .u8 x.toNat) := fun j x hj => by
          rw [hrow3.cell, Nat.zero_add]
          have h1 : r[j]? = some (.int .u8 x.toNat) := by rw [hrb]; simp [hj]
          obtain ⟨_, v', h2, h3⟩ := hcs3 _ _ (by simpa using hrg j _ h1)
          rw [int_inv h3] at h2
          simpa using h2
        have hlen : bs.length ≤ c3.size := by
          obtain ⟨v0, h1⟩ : ∃ v0, r[n]? = some v0 := ⟨_, List.getElem?_eq_getElem (by omega)⟩
          obtain ⟨_, v', h2, h3⟩ := hcs3 _ _ (by simpa using hrg n _ h1)
          have := (Array.getElem?_eq_some_iff.1 h2).1
          omega
        refine does_of_calls Tryz.func60 (by rfl) (by kernel_rfl) fun R' hR' => ?_
        refine (text_calls B (a.off + s) G c3.size c' bs w ?_ (by omega) (by simp [World.shape?, g2]) hlen (by intro h0; subst h0; simp at hbl) (by omega) hcell).mono fun e w2 ⟨he, hw⟩ => ?_
        · rw [hrow.cell, hbl, show a.off + s + 1 = a.off + 1 + s by omega]
          simpa using hsl
        subst he; subst hw
        have hheap : (w.drew.freeze ⟨G, 0, none⟩ bs.length).heap.size = w.heap.size ∧ (∀ k, k ≠ G → (w.drew.freeze ⟨G, 0, none⟩ bs.length).heap[k]? = w.heap[k]?) ∧ Env w (w.drew.freeze ⟨G, 0, none⟩ bs.length) := by
          unfold World.freeze
          rw [if_neg (by omega)]
          refine ⟨by show (w.heap.modify G _).size = _; simp, fun k hk => ?_, rfl, rfl, rfl⟩
          show (w.heap.modify G _)[k]? = _
          rw [Array.getElem?_modify, if_neg (Ne.symm hk)]
        refine hR' _ _ ⟨E, ⟨E.le_refl, hR.leaf (by rw [hheap.1]; exact Nat.le_refl _), by rw [hheap.1]; exact Nat.le_refl _, Nat.le_refl _, fun _ _ => rfl, fun X hX hno => ⟨hheap.2.1 X ?_, ?_⟩, hheap.2.2⟩, .string _⟩
        · intro q; subst q; exact hno ⟨_, _, _, ho2, by simp, hbl2⟩
        · rintro ⟨x, o, s', h1, _⟩; cases h1
  · exact hC _ _ A v A' h E w args' hV ha hR

/-! ### What the model answers itself, asking no world -/
noncomputable def extC (f : Nat) (e : Array Value → Sem Value) (C : Con) : Con := fun g args A => match Nat.beq g f && args.all flat with
  | true => match peval Tryz.prog (e args.toArray) with
    | some v => match flat v with
      | true => some (v, A)
      | false => none
    | none => none
  | false => C g args A
theorem extC_ok {V : Nat → Value} {C : Con} (hC : ConOK Tryz.prog V C) {f : Nat} {fn : Func} {e : Array Value → Sem Value} (hf : Tryz.prog.funcs[f]? = some fn) (hname : (fn.name == "runtime.NumGoroutine") = false)
    (hb : fn.body.isNone = true) (hn : Extern.findNext fn = none) (he : Extern.find fn = some e) : ConOK Tryz.prog V (extC f e C) := by
  intro g args A v A' h E w args' hV ha hR
  unfold extC at h
  split at h
  · rename_i hg
    simp only [Bool.and_eq_true] at hg
    have := Nat.eq_of_beq_eq_true hg.1
    subst this
    split at h <;> first | (cases h; done) | skip
    rename_i u hu
    split at h <;> first | (cases h; done) | skip
    rename_i hfl
    cases h
    have hargs := flats_eq (fun v v' h1 h2 => flatN_eq 6 v v' h1 h2) ha hg.2
    subst hargs
    intro o a next Q hk
    rw [run_callFunc_extern hf hname hb hn he, peval_run _ _ hu]
    exact hk _ w ⟨E, .refl hR, flat_refl hfl⟩
  · exact hC _ _ A v A' h E w args' hV ha hR

/-! ### Texts, joined -/
def strsOf : List Value → Option (List ByteArray)
  | [] => some []
  | .string s :: r => match strsOf r with
    | some l => some (s :: l)
    | none => none
  | _ => none
theorem strsOf_eq : ∀ {r : List Value} {l : List ByteArray}, strsOf r = some l → r = l.map Value.string
  | [], l, h => by cases h; rfl
  | v :: r, l, h => by
    unfold strsOf at h
    split at h
    · rename_i hq; cases hq
    · rename_i s r' hq
      cases hq
      split at h
      · rename_i l' hr
        cases h
        rw [strsOf_eq hr]; rfl
      · cases h
    · cases h
noncomputable def joinC (C : Con) : Con := fun g args A => match Nat.beq g 160, args with
  | true, [.slice base n c, .string sep] => match n with
    | 0 => some (.string ⟨#[]⟩, A)
    | k + 1 => match firstA A 1 (k + 1) (.slice base (k + 1) c) with
      | some r => match strsOf r with
        | some l => match Lib.join (l.map (·.data.toList)) sep.data.toList with
          | bs => match Nat.ble k 900 && Nat.ble bs.length 100000 with
            | true => some (.string ⟨bs.toArray⟩, A)
            | false => none
        | none => none
      | none => none
  | _, _ => C g args A
theorem joinC_ok {V : Nat → Value} {C : Con} (hC : ConOK Tryz.prog V C) : ConOK Tryz.prog V (joinC C) := by
  intro g args A v A' h E w args' hV ha hR
  unfold joinC at h
  split at h
  · rename_i base n c sep hg
    have := Nat.eq_of_beq_eq_true hg
    subst this
    cases ha with
    | cons _ x' _ _ hx ht =>
      cases ht with
      | cons _ y' _ _ hy ht =>
        cases ht
        rw [str_inv hy]
        split at h
        · cases h
          obtain ⟨a', c', rfl⟩ : ∃ a' c', x' = .slice a' 0 c' := by
            cases hx with
            | slcNil => exact ⟨_, _, rfl⟩
            | slc0 => exact ⟨_, _, rfl⟩
            | slc => exact ⟨_, _, rfl⟩
          refine does_of_calls Tryz.func160 (by rfl) (by kernel_rfl) fun R' hR' => ?_
          refine (joinNone_calls a' c' sep w).mono fun e w2 ⟨he, hw⟩ => ?_
          subst he; subst hw
          exact hR' _ _ ⟨E, .refl hR, .string _⟩
        · rename_i k
          split at h <;> first | (cases h; done) | skip
          rename_i r hr
          split at h <;> first | (cases h; done) | skip
          rename_i l hl
          dsimp only at h
          split at h <;> first | (cases h; done) | skip
          rename_i hb
          simp only [Bool.and_eq_true] at hb
          cases h
          obtain ⟨r', f1, f2, f3, f4, f5⟩ := firstA_run (P := Tryz.prog) hR hx hr rfl (Nat.le_refl _)
          have hrl := strsOf_eq hl
          have hll : l.length = k + 1 := by rw [hrl] at f3; simpa using f3
          have h1 := Nat.le_of_ble_eq_true hb.1
          have h2 := Nat.le_of_ble_eq_true hb.2
          cases hx with
          | slc bb o nn cc c' B s sz hbl hn hc hrm =>
            refine does_of_calls Tryz.func160 (by rfl) (by kernel_rfl) fun R' hR' => ?_
            have hcall := join_calls B (o + s) c' l sep w (fun j x hj => ?_) (hR.lt _ _ _ hbl) (by omega) (by omega) h2
            · rw [hll] at hcall
              refine hcall.mono fun e w2 ⟨he, hw⟩ => ?_
              subst he
              exact hR' _ _ ⟨E, .grew hR ⟨hw.size, hw.block, hw.os, hw.tape, hw.output⟩, .string _⟩
            · have h3 : r[j]? = some (.string x) := by rw [hrl]; simp [hj]
              obtain ⟨v', h4, h5⟩ := f1.get h3
              have h6 := f5 _ _ _ rfl j v' h4
              rw [addr_add, str_inv h5] at h6
              exact h6
  · exact hC _ _ A v A' h E w args' hV ha hR
end Go.Proofs.YtohnakjamlhhkaaGreatDoor
