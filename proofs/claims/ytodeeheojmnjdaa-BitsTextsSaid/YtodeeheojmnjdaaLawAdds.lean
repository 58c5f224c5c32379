/- The walk of BitsAdds. -/
import Derived.Test.YtodeeheojmnjdaaStrm
namespace Go.Proofs.Ytodeeheojmnjdaa
open Go.RowKit
set_option linter.unusedVariables false

section
variable {P : Program} {ops : Array Oper} {rest : List Oper} {o : Oper} {a : Act} {Q : Exit → Act → World → Prop}
/-- Nothing is added. -/
theorem app_none {W : World} {base : Nat} {e : TypeId} {size n : Nat} {v : Value} {xs : List Value} (HO : W.ownsRow base e size v n xs) {s x : Operand} {t : TypeId} {i : TypeInfo} (hgd : o.guard = none)
    (ho : o.op = .call { callee := .builtin .append, args := #[s, x], argTypes := #[t, t] })
    (ht : P.underlying t = some (.slice e)) (hi : P.info? e = some i) (hsz : i.size = size)
    (hs : a.eval s = v) (hx : a.eval x = .slice none 0 0) (h : wpList P ops Q rest (a.put o.dst v) W) : wpList P ops Q (o :: rest) a W :=
  wpList_plain hgd fun _ hK => by
    have hr := run_append_owned_none (P := P) W base t o.type e i size ht hi v n xs HO
    unfold Oper.wp execOp
    simp only [ho, resolve, invoke, builtin, Sem.run_bind, Sem.run_pure, Result.andThen_ok, List.map_toArray, List.map_cons, List.map_nil, hs, hx, hr]
    exact hK _ _ h
end
section
variable {ops : Array Oper} {rest : List Oper} {o : Oper} {a : Act} {Q : Exit → Act → World → Prop}
theorem app_bb {W : World} {base B n : Nat} {v y : Value} {xs : List Value} {ys : List Bool} (HO : W.ownsRow base 4 1 v n xs) (HY : BB W B y ys) {s x : Operand} (hgd : o.guard = none)
    (ho : o.op = .call { callee := .builtin .append, args := #[s, x], argTypes := #[22, 22] })
    (hs : a.eval s = v) (hx : a.eval x = y) (hbase : base ≤ W.heap.size) (hl : n + ys.length ≤ 140737488355328)
    (h : ∀ v1 w1, w1.ownsRow base 4 1 v1 (n + ys.length) (xs ++ bools ys) → W.grownBy w1 v.ownBlock → wpList Try.prog ops Q rest (a.put o.dst v1) w1) :
    wpList Try.prog ops Q (o :: rest) a W := by
  obtain ⟨i3, hi3, hzz⟩ := Option.map_eq_some_iff.1 info4'
  simp only [Prod.mk.injEq] at hzz
  obtain ⟨hz0, hz1, hz2⟩ := hzz
  obtain ⟨A, c, rfl, h1, h2, h3, h4⟩ := HY
  rcases Nat.eq_zero_or_pos c with rfl | hc
  · obtain rfl : ys = [] := List.eq_nil_of_length_eq_zero (by omega)
    cases A with
    | none =>
      refine app_none HO hgd ho Try.underlying22 hi3 hz1 hs hx (h _ _ (by simpa [bools] using HO) ⟨rfl, rfl, rfl, Nat.le_refl _, fun _ _ _ => rfl⟩)
    | some ad =>
      refine wpList_append_own W hgd _ _ 22 ho base 4 i3 (.bool false) 1 1 Try.underlying22 hi3 hz0 hz1 hz2 rfl (by decide) v n xs hs HO ad 0 0 [] hx (by simp) (by simp) (by simp) (by simp at hl; simp only [maxLen]; omega) (by simpa using hl) hbase ?_
      intro v' w' k1 k2 _
      exact h v' w' (by simpa [bools] using k1) k2
  · obtain ⟨b, o', rfl, _⟩ := h3 hc
    refine wpList_append_own W hgd _ _ 22 ho base 4 i3 (.bool false) 1 1 Try.underlying22 hi3 hz0 hz1 hz2 rfl (by decide) v n xs hs HO ⟨b, o', none⟩ ys.length c (bools ys) hx (by simp [bools]) ?_ (bools_one ys) (by simp only [maxLen]; omega) (by omega) hbase ?_
    · intro j u hj
      simp only [bools, List.getElem?_map, Option.map_eq_some_iff] at hj
      obtain ⟨q, hq, rfl⟩ := hj
      obtain ⟨hlt, rfl⟩ := List.getElem?_eq_some_iff.1 hq
      have := h4 b o' rfl j hlt
      rw [show (⟨b, o', none⟩ : Addr).add j = ⟨b, o' + j, none⟩ by unfold Addr.add; split <;> simp_all]
      rw [this]
      simp [List.getD_eq_getElem?_getD, hlt]
    · intro v' w' k1 k2 _
      exact h v' w' k1 k2
end

theorem BB.keepAt {W W' : World} {B : Nat} {v : Value} {l : List Bool} (h : BB W B v l) (hk : ∀ b o x, B ≤ b → W.cell? ⟨b, o, none⟩ = some (.bool x) → W'.heap[b]? = W.heap[b]?) : BB W' B v l := by
  obtain ⟨A, c, rfl, h1, h2, h3, h4⟩ := h
  refine ⟨A, c, rfl, h1, h2, h3, fun b o hA j hj => ?_⟩
  obtain ⟨b', o', hA', hb⟩ := h3 (by omega)
  rw [hA] at hA'
  injection hA' with hA'
  injection hA' with e1 e2
  subst e1
  have hc := h4 b o hA j hj
  exact (World.cell?_of_block (a := ⟨b, o + j, none⟩) (hk b _ _ hb hc)).trans hc
theorem SAt.nobool {W : World} {b a : Nat} {L : List Bool} (h : SAt W b L a) (o : Nat) (x : Bool) : W.cell? ⟨b, o, none⟩ ≠ some (.bool x) := by
  obtain ⟨v, hv, hb⟩ := h.s
  obtain ⟨A, c, rfl, _⟩ := hb.shape
  rw [cell_of_row W b o _ _ _ hv]
  rcases o with _ | _ | o <;> simp
theorem BB.other {W W' : World} {B b a : Nat} {v : Value} {l L : List Bool} (h : BB W B v l) (hs : SAt W b L a) (ho : Only1 b W W') : BB W' B v l :=
  h.keepAt fun i o x _ hc => ho.far i (cell_lt hc) fun e => hs.nobool o x (e ▸ hc)
theorem SAt.other {W W' : World} {b a b' a' : Nat} {L L' : List Bool} (h : SAt W b L a) (hs : SAt W b' L' a') (hne : b ≠ b') (ho : Only1 b' W W') : SAt W' b L a := by
  obtain ⟨v, hv, hb⟩ := h.s
  exact ⟨⟨v, (ho.far b h.blt hne).trans hv, hb.other hs ho⟩, h.al, h.ll⟩

/-- Two streams and a row of all bits. -/
structure AS (w W : World) (bs bt : Nat) (va : Value) (M T : List Bool) : Prop where
  s : SAt W bs M 0
  t : SAt W bt T 0
  ne : bs ≠ bt
  v : BB W 0 va M
  bel : Below w.heap.size w W
  lo : w.heap.size ≤ bt
theorem AS.below {w W W' : World} {bs bt : Nat} {va : Value} {M T : List Bool} (h : AS w W bs bt va M T) (hb : Below W.heap.size W W') : AS w W' bs bt va M T :=
  ⟨h.s.below hb, h.t.below hb, h.ne, h.v.below hb, h.bel.trans (hb.mono h.bel.size), h.lo⟩
theorem AS.add {w W : World} {bs bt : Nat} {va bv : Value} {M T N : List Bool} (h : AS w W bs bt va M T) (hN : BB W 0 bv N) (hl : T.length + N.length ≤ 1000) :
    Calls Try.prog 15 #[.pointer (some ⟨bt, 0, none⟩), bv] W fun e w' => e = .returned (.tuple #[]) ∧ AS w w' bs bt va M (T ++ N) := by
  refine (add_any bt 0 T N bv W h.t hN hl).mono ?_
  rintro e w' ⟨rfl, ht, ho⟩
  exact ⟨rfl, h.s.other h.t h.ne ho, ht, h.ne, h.v.other h.t ho, h.bel.trans (ho.below h.lo h.bel.size), h.lo⟩

theorem law_adds (v1 : Value) (a : List Bool) (v2 : Value) (b : List Bool) (v3 : Value) (c : List Bool) (w : World) (H1 : BB w 0 v1 a) (H2 : BB w 0 v2 b) (H3 : BB w 0 v3 c) :
    Calls Try.prog 6 #[v1, v2, v3] w fun e w' => e = .returned (.bool true) ∧ Below w.heap.size w w' := by
  obtain ⟨A1, c1, rfl, _⟩ := H1.shape
  obtain ⟨A2, c2, rfl, _⟩ := H2.shape
  obtain ⟨A3, c3, rfl, _⟩ := H3.shape
  have HF1 := Lib.hid (fun W (h : Below w.heap.size w W) => few_any _ a 0 6 W (H1.below h) (by omega))
  have HF2 := Lib.hid (fun W (h : Below w.heap.size w W) => few_any _ b 0 6 W (H2.below h) (by omega))
  have HF3 := Lib.hid (fun W (h : Below w.heap.size w W) => few_any _ c 0 6 W (H3.below h) (by omega))
  clear H1 H2 H3
  have ha6 : (a.take 6).length ≤ 6 := by simp; omega
  have hb6 : (b.take 6).length ≤ 6 := by simp; omega
  have hc6 : (c.take 6).length ≤ 6 := by simp; omega
  generalize a.take 6 = X at *
  generalize b.take 6 = Y at *
  generalize c.take 6 = Z at *
  have L1 := Lib.hid ha6
  have L2 := Lib.hid hb6
  have L3 := Lib.hid hc6
  clear ha6 hb6 hc6
  go_enter Try.func6, Try.ntmps6
  go_wp2_with fail
  refine (HF1.out _ (Below.refl _ _)).mono ?_
  rintro e w' ⟨y1, rfl, hy1, rfl⟩
  have HY := Lib.hid hy1
  clear hy1
  go_wp2_with (at_builtin; refine app_bb (own_nil w w.heap.size 4 1) HY.out rfl rfl rfl rfl (Nat.le_refl _) (by have := L1.out; omega) ?_; intro va w1 hown hgr)
  have HB := Lib.hid ((Below.refl w.heap.size w).grown hgr (Nat.le_refl _) (by simp [Value.ownBlock]))
  have HO := Lib.hid hown
  clear hown hgr HY
  refine (HF2.out _ HB.out).mono ?_
  rintro e w' ⟨y1, rfl, hy1, rfl⟩
  have HY := Lib.hid hy1
  clear hy1
  go_wp2_with (at_builtin; refine app_bb HO.out HY.out rfl rfl rfl rfl HB.out.size (by have := L1.out; have := L2.out; omega) ?_; intro va2 w2 hown hgr)
  have HB2 := Lib.hid (HB.out.grown hgr HB.out.size (own_base HO.out))
  have HO2 := Lib.hid hown
  clear hown hgr HY HO HB
  refine (HF3.out _ HB2.out).mono ?_
  rintro e w' ⟨y1, rfl, hy1, rfl⟩
  have HY := Lib.hid hy1
  clear hy1
  go_wp2_with (at_builtin; refine app_bb HO2.out HY.out rfl rfl rfl rfl HB2.out.size (by have := L1.out; have := L2.out; have := L3.out; omega) ?_; intro va3 w3 hown hgr)
  have HB3 := Lib.hid (HB2.out.grown hgr HB2.out.size (own_base HO2.out))
  rw [show ([] : List Value) ++ bools X ++ bools Y ++ bools Z = bools (X ++ Y ++ Z) by simp [bools]] at hown
  have HV := Lib.hid ((own_BB hown).mono (Nat.zero_le _))
  have HML := Lib.hid (show (X ++ Y ++ Z).length ≤ 1000 by have := L1.out; have := L2.out; have := L3.out; simp; omega)
  clear hown hgr HY HO2 HB2
  obtain ⟨M, hM⟩ : ∃ M, M = X ++ Y ++ Z := ⟨_, rfl⟩
  rw [← hM] at HV HML
  have HM := Lib.hid hM
  clear hM
  refine (new_any M _ w3 HV.out HML.out).mono ?_
  rintro e w4 ⟨bs, hbs, rfl, hs, hb⟩
  have HS := Lib.hid hs
  have HB4 := Lib.hid hb
  clear hs hb
  go_wp2_with fail
  refine (new_any [] _ w4 (BB.nil _ _) (by simp)).mono ?_
  rintro e w5 ⟨bt, hbt, rfl, ht, hb⟩
  have HA := Lib.hid (show AS w w5 bs bt va3 M [] from ⟨HS.out.below hb, ht, by have := HS.out.blt; omega, (HV.out.below HB4.out).below hb, HB3.out.trans ((HB4.out.mono HB3.out.size).trans (hb.mono (Nat.le_trans HB3.out.size HB4.out.size))), by have := HB3.out.size; have := HB4.out.size; omega⟩)
  clear ht hb HS HB4 HV HB3 hbs hbt
  go_wp2_with fail
  refine (HF1.out _ HA.out.bel).mono ?_
  rintro e w' ⟨y1, rfl, hy1, rfl⟩
  have HD := Lib.hid (HA.out.add hy1 (by have := L1.out; simp; omega))
  clear hy1 HA
  go_wp2_with fail
  refine HD.out.mono ?_
  rintro e w6 ⟨rfl, ha⟩
  have HA := Lib.hid ha
  clear ha HD
  go_wp2_with fail
  refine (HF2.out _ HA.out.bel).mono ?_
  rintro e w' ⟨y1, rfl, hy1, rfl⟩
  have HD := Lib.hid (HA.out.add hy1 (by have := L1.out; have := L2.out; simp; omega))
  clear hy1 HA
  go_wp2_with fail
  refine HD.out.mono ?_
  rintro e w7 ⟨rfl, ha⟩
  have HA := Lib.hid ha
  clear ha HD
  go_wp2_with fail
  refine (HF3.out _ HA.out.bel).mono ?_
  rintro e w' ⟨y1, rfl, hy1, rfl⟩
  have HD := Lib.hid (HA.out.add hy1 (by have := L1.out; have := L2.out; have := L3.out; simp; omega))
  clear hy1 HA
  go_wp2_with fail
  refine HD.out.mono ?_
  rintro e w8 ⟨rfl, ha⟩
  rw [show [] ++ X ++ Y ++ Z = M by rw [HM.out]; simp] at ha
  have HA := Lib.hid ha
  clear ha HD
  go_wp2_with fail
  refine (left_any _ _ _ _ HA.out.s).mono ?_
  rintro e w9 ⟨vl, rfl, hown, hb⟩
  have HA9 := Lib.hid (HA.out.below hb)
  have HE := Lib.hid (same_any vl va3 M _ 0 w9 (by simpa using own_BB hown) HA9.out.v)
  clear hown hb HA
  go_wp2_with fail
  refine HE.out.mono ?_
  rintro e w10 ⟨rfl, hb⟩
  have HA := Lib.hid (HA9.out.below hb)
  clear hb HE HA9
  go_wp2_with fail
  refine (left_any _ _ _ _ HA.out.t).mono ?_
  rintro e w11 ⟨vl, rfl, hown, hb⟩
  have HA9 := Lib.hid (HA.out.below hb)
  have HE := Lib.hid (same_any vl va3 M _ 0 w11 (by simpa using own_BB hown) HA9.out.v)
  clear hown hb HA
  go_wp2_with fail
  refine HE.out.mono ?_
  rintro e w12 ⟨rfl, hb⟩
  have HA := Lib.hid (HA9.out.below hb)
  clear hb HE HA9
  go_wp2_with fail
  refine (at_any _ _ _ _ HA.out.t).mono ?_
  rintro e w' ⟨rfl, rfl⟩
  go_wp2_with (go_at_call 18; refine (lives_any _).mono ?_; rintro e w' ⟨rfl, hb⟩)
  go_ret
  exact ⟨rfl, HA.out.bel.trans (hb.mono HA.out.bel.size)⟩
end Go.Proofs.Ytodeeheojmnjdaa
