/- The table, the document's beside it, and all that were given out: what each call does to them. -/
import Derived.Test.YthdcffbifgifeaaPlaysP
import Derived.Test.YthdcffbifgifeaaWKept
namespace Go.Proofs.Ythdcffbifgifeaa
open Go.RowKit Go.Proofs.Ythdcffbifgifeaa.PCapsPlays Go.Proofs.Ythdcffbifgifeaa.Plays Go.Proofs.YthdcffbifgifeaaW.PrintWords
set_option linter.unusedVariables false

/-- The document's row. -/
def RS (W : World) (B : Nat) (v : Value) (f : Nat → Slot) : Prop := Kd.R k59 59 W B (fun k => some k = v.ownBlock) v (RL f)
theorem RS.of {W : World} {B : Nat} {v : Value} {f : Nat → Slot} {ok : Nat → Prop} (h : Kd.R k59 59 W B ok v (RL f)) : RS W B v f :=
  ⟨fun k hk => hk.symm, h.2.imp_ fun p c hp => by rw [k59_openM hp]; exact k59_mkM _ _ _ _⟩
theorem RS.below {W W' : World} {B : Nat} {v : Value} {f : Nat → Slot} (h : RS W B v f) (hb : Below W.heap.size W W') : RS W' B v f := Kd.R_below h hb
theorem RS.lt {W : World} {B : Nat} {v : Value} {f : Nat → Slot} (h : RS W B v f) {k : Nat} (hk : v.ownBlock = some k) : B ≤ k ∧ k < W.heap.size := by
  obtain ⟨_, inner, ho, _⟩ := h
  exact ho.lt k hk
theorem RS.keep {W W' : World} {B : Nat} {v : Value} {f : Nat → Slot} (h : RS W B v f) (hk : ∀ k, v.ownBlock = some k → W'.heap[k]? = W.heap[k]?) : RS W' B v f :=
  Kd.R_move h fun k hk' => hk k hk'.symm
theorem RS.reads {W : World} {B : Nat} {v : Value} {f : Nat → Slot} (h : RS W B v f) : ∃ A c, v = .slice A (RL f).length c ∧ (RL f).length ≤ c ∧ Kd.C k59 W A (RL f).length (RL f) := Kd.R_reads h

/-- The table in b (G, f), the document's in rb (G2, f2), and the row va of all that were given out. -/
structure PS (w W : World) (b rb E G : Nat) (f : Nat → Slot) (G2 : Nat) (f2 : Nat → Slot) (va : Value) (al : List (Int × Int)) : Prop where
  t : TAt W b E G f
  r : ∃ v, W.heap[rb]? = some (.cells #[.int .i64 E, .int .i64 G2, v] 49 (0, 0)) ∧ RS W w.heap.size v f2 ∧ (∀ k, v.ownBlock = some k → k ≠ b ∧ k ≠ rb ∧ va.ownBlock ≠ some k)
  o : W.ownsRow (rb + 1) 28 2 va al.length (capv al)
  bel : Below w.heap.size w W
  lb : w.heap.size ≤ b
  lr : b < rb
theorem PS.rlt {w W : World} {b rb E G G2 : Nat} {f f2 : Nat → Slot} {va : Value} {al : List (Int × Int)} (h : PS w W b rb E G f G2 f2 va al) : rb < W.heap.size := by
  obtain ⟨v, h1, _⟩ := h.r
  exact (Array.getElem?_eq_some_iff.1 h1).1
theorem PS.below {w W W' : World} {b rb E G G2 : Nat} {f f2 : Nat → Slot} {va : Value} {al : List (Int × Int)} (h : PS w W b rb E G f G2 f2 va al) (hb : Below W.heap.size W W') : PS w W' b rb E G f G2 f2 va al := by
  have hl := h.rlt
  obtain ⟨v, h1, h2, h3⟩ := h.r
  exact ⟨h.t.below hb, ⟨v, (hb.block _ hl).trans h1, h2.below hb, h3⟩, own_below h.o hb, h.bel.trans (hb.mono h.bel.size), h.lb, h.lr⟩
/-- The table was changed. -/
theorem PS.only {w W W' : World} {b rb E G G2 G' : Nat} {f f2 f' : Nat → Slot} {va : Value} {al : List (Int × Int)} (h : PS w W b rb E G f G2 f2 va al) (ht : TAt W' b E G' f') (ho : Only1 b W W') : PS w W' b rb E G' f' G2 f2 va al := by
  have hl := h.rlt
  have hlr := h.lr
  obtain ⟨v, h1, h2, h3⟩ := h.r
  refine ⟨ht, ⟨v, (ho.far _ hl (by omega)).trans h1, h2.keep fun k hk => ho.far k (h2.lt hk).2 (h3 k hk).1, h3⟩, ?_, h.bel.trans (ho.below h.lb h.bel.size), h.lb, h.lr⟩
  refine h.o.kept (row := some b) ⟨ho.os, ho.tape, ho.output, ho.size, fun i hi hn => ho.far i hi (fun e => hn (by rw [e]))⟩ ?_
  cases hv : va.ownBlock with
  | none => exact .inl rfl
  | some k => right; intro e; have := (h.o.lt k hv).1; injection e with e; omega
/-- The document's was changed: its call's result is stored. -/
theorem PS.put {w W W1 : World} {b rb E G G2 G' : Nat} {f f2 f' : Nat → Slot} {va v v' : Value} {al : List (Int × Int)} (h : PS w W b rb E G f G2 f2 va al)
    (h1 : W.heap[rb]? = some (.cells #[.int .i64 E, .int .i64 G2, v] 49 (0, 0))) (h3 : ∀ k, v.ownBlock = some k → k ≠ b ∧ k ≠ rb ∧ va.ownBlock ≠ some k)
    (hr : Kd.R k59 59 W1 w.heap.size (fun k => some k = v.ownBlock ∨ W.heap.size ≤ k) v' (RL f')) (hb : Below w.heap.size w W1) (hk : Kept W W1 (fun k => some k = v.ownBlock)) :
    PS w (((W1.setCell ⟨rb, 0, none⟩ (.int .i64 E)).setCell ⟨rb, 1, none⟩ (.int .i64 G')).setCell ⟨rb, 2, none⟩ v') b rb E G f G' f' va al ∧ W1.heap[rb]? = some (.cells #[.int .i64 E, .int .i64 G2, v] 49 (0, 0)) ∧
      W.heap.size ≤ W1.heap.size ∧ (∀ i, i < W.heap.size → some i ≠ v.ownBlock → i ≠ rb → (((W1.setCell ⟨rb, 0, none⟩ (.int .i64 E)).setCell ⟨rb, 1, none⟩ (.int .i64 G')).setCell ⟨rb, 2, none⟩ v').heap[i]? = W.heap[i]?) := by
  have hlr := h.lr
  have hl := h.rlt
  have hbl := h.t.blt
  have n1 : ¬ some rb = v.ownBlock := fun e => (h3 rb e.symm).2.1 rfl
  have n2 : ¬ some b = v.ownBlock := fun e => (h3 b e.symm).1 rfl
  have hrb := (hk.2 rb hl n1).trans h1
  have k1 := Go.heap_setCell_same W1 rb 0 _ 49 (.int .i64 E) hrb
  have k2 := Go.heap_setCell_same _ rb 1 _ 49 (.int .i64 G') k1
  have k3 := Go.heap_setCell_same _ rb 2 _ 49 v' k2
  have far : ∀ i, i ≠ rb → (((W1.setCell ⟨rb, 0, none⟩ (.int .i64 E)).setCell ⟨rb, 1, none⟩ (.int .i64 G')).setCell ⟨rb, 2, none⟩ v').heap[i]? = W1.heap[i]? := fun i hi => by
    rw [Go.heap_setCell_other _ _ _ _ (by exact hi), Go.heap_setCell_other _ _ _ _ (by exact hi), Go.heap_setCell_other _ _ _ _ (by exact hi)]
  have hR := RS.of hr
  have hv' : ∀ k, v'.ownBlock = some k → k ≠ b ∧ k ≠ rb ∧ va.ownBlock ≠ some k := by
    intro k hk'
    rcases hr.1 k hk' with h4 | h4
    · exact h3 k h4.symm
    · refine ⟨by omega, by omega, fun e => ?_⟩
      have := (h.o.lt k e).2
      omega
  refine ⟨⟨h.t.keep ((far b (by omega)).trans (hk.2 b hbl n2)), ⟨v', by rw [k3]; simp, hR.keep fun k hk' => far k (hv' k hk').2.1, hv'⟩, ?_, ((hb.setCell (show w.heap.size ≤ rb by have := h.lb; omega) _).setCell (show w.heap.size ≤ rb by have := h.lb; omega) _).setCell (show w.heap.size ≤ rb by have := h.lb; omega) _, h.lb, h.lr⟩, hrb, hk.1, fun i hi hn hr => (far i hr).trans (hk.2 i hi hn)⟩
  refine own_move h.o fun k hk' => ?_
  have hlt := h.o.lt k hk'
  exact (far k (by omega)).trans (hk.2 k hlt.2 (fun e => (h3 k e.symm).2.2 hk'))
/-- One more was given out. -/
theorem PS.push {w W W' : World} {b rb E G G2 : Nat} {f f2 : Nat → Slot} {va va' : Value} {al : List (Int × Int)} (h : PS w W b rb E G f G2 f2 va al) {x y : Int}
    (ho : W'.ownsRow (rb + 1) 28 2 va' (al.length + 1) (capv al ++ [.int .i64 x, .int .i64 y])) (hb : Below (rb + 1) W W') (hg : W.grownBy W' va.ownBlock) (hv : ∀ k, va'.ownBlock = some k → va.ownBlock = some k ∨ W.heap.size ≤ k) :
    PS w W' b rb E G f G2 f2 va' (al ++ [(x, y)]) := by
  have hlr := h.lr
  obtain ⟨v, h1, h2, h3⟩ := h.r
  refine ⟨h.t.keep (hb.block b (by omega)), ⟨v, (hb.block rb (by omega)).trans h1, h2.keep fun k hk => hg.block k (h2.lt hk).2 (fun e => (h3 k hk).2.2 e.symm), fun k hk => ⟨(h3 k hk).1, (h3 k hk).2.1, fun e => ?_⟩⟩, ?_, h.bel.trans (hb.mono (by have := h.lb; omega)), h.lb, h.lr⟩
  · rcases hv k e with h4 | h4
    · exact (h3 k hk).2.2 h4
    · have := (h2.lt hk).2; omega
  · rw [List.length_append]
    simpa [capv] using ho
/-- The row of all that were given out, as the document's functions read it. -/
theorem own_C28 {W : World} {B : Nat} {v : Value} {al : List (Int × Int)} (h : W.ownsRow B 28 2 v al.length (capv al)) (hl : al.length ≤ 1000) :
    ∃ A c, v = .slice A (al.map s28).length c ∧ (al.map s28).length ≤ c ∧ Kd.C k28 W A (al.map s28).length (al.map s28) := by
  have hR : Kd.R k28 28 W B (fun _ => True) v (al.map s28) := by
    refine ⟨fun _ _ => trivial, capv al, ?_, ?_, ?_⟩
    · rw [List.length_map]; exact h
    · rw [List.length_map]; exact h.1
    · intro j p hp
      obtain ⟨x, hx, rfl⟩ : ∃ x, al[j]? = some x ∧ s28 x = p := by simpa using hp
      obtain ⟨e1, e2⟩ := capv_get al j x hx
      have : (((capv al).drop (j * 2)).take 2) = [.int .i64 x.1, .int .i64 x.2] := by
        have hlt := (List.getElem?_eq_some_iff.1 e2).1
        rw [List.drop_eq_getElem_cons (by omega), List.drop_eq_getElem_cons hlt]
        rw [List.getElem?_eq_getElem (by omega)] at e1 e2
        rw [Option.some.inj e1, Option.some.inj e2]
        rfl
      show Kd.M k28 W B _ (s28 x) (((capv al).drop (j * 2)).take 2)
      rw [this]
      exact k28_mkM _ _ _ _
  exact Kd.R_reads hR
/-- One of those that were given out, or a raw one. -/
theorem pick_any {W : World} {B : Nat} {v : Value} {al : List (Int × Int)} (h : W.ownsRow B 28 2 v al.length (capv al)) (h0 : 0 < al.length) (hl : al.length ≤ 1000) {a n : Int} (ha : (Lit.int .i64 a).wf = true) (hn : (Lit.int .i64 n).wf = true) :
    ∃ x y : Int, ∀ W', Below W.heap.size W W' → Calls Try.prog 21 #[v, .int .i64 a, .int .i64 n] W' fun e w' => e = .returned (.agg #[.int .i64 x, .int .i64 y]) ∧ Below W'.heap.size W' w' := by
  obtain ⟨A, c, rfl, hc, hC⟩ := own_C28 h hl
  obtain ⟨x, y, hp⟩ := pick_some (al.map s28) (by rw [List.length_map]; exact h0) (by rw [List.length_map]; exact hl) a n ha hn
  exact ⟨x, y, fun W' hb => allotmentref17_Pick.calls A c _ a n x y W' (Kd.C_below hC hb) hc hp⟩

section
variable {W : World} {B : Nat} {v : Value} {f : Nat → Slot}
theorem ref_find (h : RS W B v f) (E G s g : Int) : Calls Try.prog 23 #[.agg #[.int .i64 E, .int .i64 G, v], .agg #[.int .i64 s, .int .i64 g]] W fun e w' => e = .returned (.int .i64 (fidx (lst f) s g)) ∧ Below W.heap.size W w' := by
  obtain ⟨A, c, rfl, hc, hC⟩ := h.reads
  exact allotmentref17_Find.calls 60 E G A c _ s g _ W hC hc (find_some 60 (by omega) f E G s g)
theorem ref_check (h : RS W B v f) (hf : Good f) (E G s g : Int) {n : Nat} (hn : n < 16) : Calls Try.prog 24 #[.agg #[.int .i64 E, .int .i64 G, v], .agg #[.int .i64 s, .int .i64 g], .int .i64 n] W fun e w' => e = .returned (.int .i64 (ccode (gd f s g) n)) ∧ Below W.heap.size W w' := by
  obtain ⟨A, c, rfl, hc, hC⟩ := h.reads
  exact allotmentref17_Check.calls 60 E G A c _ s g n _ W hC hc (check_some 60 (by omega) f hf E G s g hn)
theorem ref_all (h : RS W B v f) (E G : Int) : Calls Try.prog 28 #[.agg #[.int .i64 E, .int .i64 G, v]] W fun e w' => ∃ A c, e = .returned (.slice A (live f 8).length c) ∧ (live f 8).length ≤ c ∧ Kd.C k28 w' A (live f 8).length ((live f 8).map s28) ∧ Below W.heap.size W w' := by
  obtain ⟨A, c, rfl, hc, hC⟩ := h.reads
  refine (allotmentref17_All.calls 60 E G A c _ _ W hC hc (all_some 60 (by omega) f E G)).mono ?_
  rintro e w' ⟨u, rfl, hR, hb⟩
  obtain ⟨A', c', rfl, hc', hC'⟩ := Kd.R_reads hR
  rw [List.length_map] at hc' hC' ⊢
  exact ⟨A', c', rfl, hc', hC', hb⟩
theorem ref_same {A A' : Option Addr} {c c' : Nat} (h : Kd.C k28 W A (live f 8).length ((live f 8).map s28)) (hc : (live f 8).length ≤ c) (h' : Kd.C k28 W A' (live f 8).length ((live f 8).map s28)) (hc' : (live f 8).length ≤ c') :
    Calls Try.prog 26 #[.slice A (live f 8).length c, .slice A' (live f 8).length c'] W fun e w' => e = .returned (.bool true) ∧ Below W.heap.size W w' := by
  have hl : ((live f 8).map s28).length = (live f 8).length := List.length_map _
  have := allotmentref17_Same.calls 60 A c ((live f 8).map s28) A' c' ((live f 8).map s28) true W (by rw [hl]; exact h) (by rw [hl]; exact hc) (by rw [hl]; exact h') (by rw [hl]; exact hc') (same_some 60 (by omega) _ (by rw [hl]; exact live_len f 8))
  rw [hl] at this
  exact this.mono fun e w' ⟨h1, h2⟩ => ⟨h1, h2.below⟩
theorem ref_mint {w : World} (h : RS W w.heap.size v f) (hf : Good f) (E G : Nat) (hE : E ≤ 1073741824) (hG : G ≤ 1048576) (hb : Below w.heap.size w W) (s g r : Int) :
    Calls Try.prog 25 #[.agg #[.int .i64 E, .int .i64 G, v], .agg #[.int .i64 s, .int .i64 g], .int .i64 r] W fun e w' =>
      ∃ (v' : Value) (G' : Nat) (f' : Nat → Slot) (x y : Int), e = .returned (.tuple #[.agg #[.int .i64 E, .int .i64 G', v'], .agg #[.int .i64 x, .int .i64 y], .int .i64 (mcode f G s g r)]) ∧
        ((mcode f G s g r ≠ 0 ∧ G' = G ∧ f' = f ∧ x = 0 ∧ y = 0) ∨ (mcode f G s g r = 0 ∧ ∃ i : Nat, i < 8 ∧ fre f 8 0 = i ∧ G < 1048576 ∧ 0 ≤ r ∧ r < 16 ∧ G' = G + 1 ∧ f' = upd f i (true, E * 1048576 + G, r) ∧ x = i ∧ y = E * 1048576 + G)) ∧
        Kd.R k59 59 w' w.heap.size (fun k => some k = v.ownBlock ∨ W.heap.size ≤ k) v' (RL f') ∧ Below w.heap.size w w' ∧ Kept W w' (fun k => some k = v.ownBlock) := by
  by_cases hm : mcode f G s g r = 0
  · have hfree : ∃ i : Nat, i < 8 ∧ fre f 8 0 = i ∧ G < 1048576 := by
      unfold mcode at hm
      split at hm
      · omega
      · split at hm
        · omega
        · split at hm
          · omega
          · split at hm
            · omega
            · rename_i h4
              rcases fre_cases f 8 0 with h5 | ⟨i, _, h6, h7, _⟩
              · exact absurd (.inl (by omega)) h4
              · exact ⟨i, by omega, h7, Nat.lt_of_not_le fun h8 => h4 (.inr h8)⟩
    obtain ⟨i, hi, hfi, hG1⟩ := hfree
    obtain ⟨hp, hr0, hr1⟩ := mint_good f hf E G s g r hE hG hm i hfi hi
    refine (allotmentref17_Mint.calls 60 E G _ v (RL f) s g r _ _ _ _ _ _ w W hb h hp).mono ?_
    rintro e w' ⟨v', rfl, hR, hbb, hk⟩
    exact ⟨v', G + 1, _, _, _, by rw [hm], .inr ⟨hm, i, hi, hfi, hG1, hr0, hr1, rfl, rfl, rfl, rfl⟩, hR, hbb, hk⟩
  · refine (allotmentref17_Mint.calls 60 E G _ v (RL f) s g r _ _ _ _ _ _ w W hb h (mint_bad f hf E G s g r hE hG hm)).mono ?_
    rintro e w' ⟨v', rfl, hR, hbb, hk⟩
    exact ⟨v', G, f, 0, 0, rfl, .inl ⟨hm, rfl, rfl, rfl, rfl⟩, hR, hbb, hk⟩
theorem ref_revoke {w : World} (h : RS W w.heap.size v f) (hf : Good f) (E G : Nat) (hb : Below w.heap.size w W) (s g s2 g2 : Int) :
    Calls Try.prog 22 #[.agg #[.int .i64 E, .int .i64 G, v], .agg #[.int .i64 s, .int .i64 g], .agg #[.int .i64 s2, .int .i64 g2]] W fun e w' =>
      ∃ (v' : Value) (f' : Nat → Slot), e = .returned (.tuple #[.agg #[.int .i64 E, .int .i64 G, v'], .int .i64 (rvcode f s g s2 g2)]) ∧
        ((rvcode f s g s2 g2 ≠ 0 ∧ f' = f) ∨ (rvcode f s g s2 g2 = 0 ∧ ∃ i : Nat, i < 8 ∧ s2 = i ∧ f' = upd f i (false, 0, 0))) ∧
        Kd.R k59 59 w' w.heap.size (fun k => some k = v.ownBlock ∨ W.heap.size ≤ k) v' (RL f') ∧ Below w.heap.size w w' ∧ Kept W w' (fun k => some k = v.ownBlock) := by
  by_cases hm : rvcode f s g s2 g2 = 0
  · rcases gd_cases f s2 g2 with ⟨h1, h2⟩ | ⟨i, hi, rfl, hu, rfl, h1, h2, h3⟩
    · exfalso
      unfold rvcode at hm
      split at hm
      · omega
      · rw [h1] at hm
        exact absurd hm (show ¬ (10 : Int) = 0 by omega)
    · refine (allotmentref17_Revoke.calls 60 E G _ v (RL f) s g i (f i).2.1 _ _ _ _ w W hb h (revoke_good' f hf E G s g i hi hu hm)).mono ?_
      rintro e w' ⟨v', rfl, hR, hbb, hk⟩
      exact ⟨v', _, by rw [hm], .inr ⟨hm, i, hi, rfl, rfl⟩, hR, hbb, hk⟩
  · refine (allotmentref17_Revoke.calls 60 E G _ v (RL f) s g s2 g2 _ _ _ _ w W hb h (revoke_bad' f hf E G s g s2 g2 hm)).mono ?_
    rintro e w' ⟨v', rfl, hR, hbb, hk⟩
    exact ⟨v', f, rfl, .inl ⟨hm, rfl⟩, hR, hbb, hk⟩
theorem ref_new (E : Nat) (hE : E ≤ 1073741824) (W : World) : Calls Try.prog 20 #[.int .i64 E] W fun e w' => ∃ v', e = .returned (.agg #[.int .i64 E, .int .i64 ((1 : Nat) : Int), v']) ∧ RS w' W.heap.size v' (st0 E) ∧ Below W.heap.size W w' := by
  have hl : lst (st0 E) = [((0 : Int), (E : Int) * 1048576, (15 : Int))] := by
    unfold lst lsl st0 upd emp ent
    rfl
  have hw : wrap64 ((E : Int) * 1048576) = (E : Int) * 1048576 := by unfold wrap64; omega
  have hf : allotmentref17_New.f E = some ((E : Int), 1, RL (st0 E)) := by
    unfold allotmentref17_New.f RL
    rw [hl, hw]
    rfl
  refine (allotmentref17_New.calls E _ _ _ W hf).mono ?_
  rintro e w' ⟨v', rfl, hR, hb⟩
  exact ⟨v', rfl, RS.of hR, hb⟩
end
end Go.Proofs.Ythdcffbifgifeaa
