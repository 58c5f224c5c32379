/- The walk of FifoRow. -/
import Derived.Test.YtjhecdmgblicoaaLawOwns
namespace Go.Proofs.Ytjhecdmgblicoaa
open Go.RowKit
set_option linter.unusedVariables false

section
variable {P : Program} {ops : Array Oper} {rest : List Oper} {o : Oper} {a : Act} {Q : Exit → Act → World → Prop}
theorem app_lies {W : World} {N base : Nat} {e : TypeId} {size n : Nat} {v : Value} {xs : List Value} (HO : W.ownsRow base e size v n xs) (ys : List Value) {s x : Operand} {t : TypeId} {z : Value} {bytes : Nat} (hgd : o.guard = none)
    (ho : o.op = .call { callee := .builtin .append, args := #[s, x], argTypes := #[t, t] })
    (ht : P.underlying t = some (.slice e)) (hinfo : (P.info? e).map (fun i => (i.zero, i.size, i.bytes)) = some (some z, size, bytes)) (hz : z.cells.size = size) (hs0 : 0 < size)
    (hs : a.eval s = v) (hx : a.eval x = .slice (some ⟨N, 0, none⟩) 1 1) (hN : N = W.heap.size) (hy : ys.length = size) (h1 : ∀ u ∈ ys, u.oneCell' = true)
    (hbase : base ≤ W.heap.size) (hl : (n + 1) * bytes ≤ 140737488355328) (hm : n + 1 ≤ 9223372036854775807)
    (h : ∀ g cap w1, w1.ownsRow base e size (.slice (some ⟨g, 0, none⟩) (n + 1) cap) (n + 1) (xs ++ ys) → W.grownBy w1 v.ownBlock → (v.ownBlock = some g ∨ g = W.heap.size + 1) → wpList P ops Q rest (a.put o.dst (.slice (some ⟨g, 0, none⟩) (n + 1) cap)) w1) :
    wpList P ops Q (o :: rest) a (W.alloc (.cells ys.toArray e)) := by
  subst hN
  obtain ⟨i0, hi, hzz⟩ := Option.map_eq_some_iff.1 hinfo
  simp only [Prod.mk.injEq] at hzz
  obtain ⟨hz0, hz1, hz2⟩ := hzz
  refine wpList_append_lies (W.alloc (.cells ys.toArray e)) hgd s x t ho base e i0 z size bytes ht hi hz0 hz1 hz2 hz hs0 v n xs hs (HO.alloc _) ⟨W.heap.size, 0, none⟩ 1 1 ys hx (by omega)
    (fun j u hj => by
      rw [add_plain]
      have := heap_alloc_new W (.cells ys.toArray e)
      rw [cell_of_row _ _ _ _ _ _ this]
      simpa using hj) h1 (by omega) (by simp only [maxLen]; omega) hl (by simp; omega) (W.heap.size + 1) (by simp) ?_
  intro g cap w1 hown hg hge hlt
  exact h g cap w1 hown (World.grownBy.trans (World.grownBy_alloc W _ _) hg) hge
/-- Nothing is added. -/
theorem app_none {W : World} {base : Nat} {e : TypeId} {size n : Nat} {v : Value} {xs : List Value} (HO : W.ownsRow base e size v n xs) {s x : Operand} {t : TypeId} {i : TypeInfo} (hgd : o.guard = none)
    (ho : o.op = .call { callee := .builtin .append, args := #[s, x], argTypes := #[t, t] })
    (ht : P.underlying t = some (.slice e)) (hi : P.info? e = some i) (hsz : i.size = size)
    (hs : a.eval s = v) (hx : a.eval x = .slice none 0 0) (h : wpList P ops Q rest (a.put o.dst v) W) : wpList P ops Q (o :: rest) a W :=
  wpList_plain hgd fun _ hK => by
    have hr := run_append_owned_none (P := P) W base t o.type e i size ht hi v n xs HO
    unfold Oper.wp execOp
    simp only [ho, resolve, invoke, builtin, Sem.run_bind, Sem.run_pure, Result.andThen_ok, List.map_toArray, List.map_cons, List.map_nil, hs, hx, hr]
    exact hK _ _ h
end

theorem own_keep {w w' : World} {base : Nat} {e : TypeId} {size n : Nat} {v : Value} {xs : List Value} (h : w.ownsRow base e size v n xs) (hk : ∀ k, base ≤ k → v.ownBlock = some k → w'.heap[k]? = w.heap[k]?) : w'.ownsRow base e size v n xs := by
  obtain ⟨h1, h2⟩ := h
  refine ⟨h1, ?_⟩
  rcases h2 with h2 | ⟨g, cap, cur, hv, hg, hh, r⟩
  · exact .inl h2
  · exact .inr ⟨g, cap, cur, hv, hg, (hk g hg (by rw [hv]; rfl)).trans hh, r⟩

/-- A queue, and two rows of one's own beside it. -/
structure RQ (w wr : World) (m : Nat) (vi vo : Value) (I O L : List Int) : Prop where
  q : ∃ a, QAt wr (w.heap.size + 1) w.heap.size m a L
  i : wr.ownsRow (w.heap.size + 2) 3 1 vi I.length (ints I)
  o : wr.ownsRow (w.heap.size + 2) 3 1 vo O.length (ints O)
  apart : ∀ g, vi.ownBlock = some g → vo.ownBlock ≠ some g
  bel : Below w.heap.size w wr
  size : w.heap.size + 2 ≤ wr.heap.size

theorem RQ.only {w wr w' : World} {m : Nat} {vi vo : Value} {I O L L' : List Int} {a' : Nat} (h : RQ w wr m vi vo I O L) (hq : QAt w' (w.heap.size + 1) w.heap.size m a' L') (ho : Only (w.heap.size + 1) w.heap.size wr w') : RQ w w' m vi vo I O L' :=
  ⟨⟨a', hq⟩, own_keep h.i fun k hk _ => ho.far k (by omega) (by omega), own_keep h.o fun k hk _ => ho.far k (by omega) (by omega), h.apart, h.bel.trans (ho.below (by omega) (by omega)), by rw [ho.size]; exact h.size⟩
theorem RQ.below {w wr w' : World} {m : Nat} {vi vo : Value} {I O L : List Int} (h : RQ w wr m vi vo I O L) (hb : Below wr.heap.size wr w') : RQ w w' m vi vo I O L :=
  ⟨by obtain ⟨a, hq⟩ := h.q; exact ⟨a, hq.below hb⟩, own_below h.i hb, own_below h.o hb, h.apart, h.bel.trans (hb.mono h.bel.size), Nat.le_trans h.size hb.size⟩
theorem RQ.pushI {w wr w' : World} {m g cap : Nat} {vi vo : Value} {I O L : List Int} {x : Int} (h : RQ w wr m vi vo I O L) (hown : w'.ownsRow (w.heap.size + 2) 3 1 (.slice (some ⟨g, 0, none⟩) (I.length + 1) cap) (I.length + 1) (ints I ++ [.int .i64 x]))
    (hgr : wr.grownBy w' vi.ownBlock) (hg : vi.ownBlock = some g ∨ g = wr.heap.size + 1) : RQ w w' m (.slice (some ⟨g, 0, none⟩) (I.length + 1) cap) vo (I ++ [x]) O L := by
  have hr : ∀ k, vi.ownBlock = some k → w.heap.size + 2 ≤ k := fun k hk => (h.i.lt k hk).1
  refine ⟨?_, by simpa [ints] using hown, ?_, ?_, h.bel.grown hgr h.bel.size fun k hk => by have := hr k hk; omega, Nat.le_trans h.size hgr.size⟩
  · obtain ⟨a, hq⟩ := h.q
    refine ⟨a, hq.keep (hgr.block _ hq.blt ?_) (hgr.block _ hq.rlt ?_)⟩ <;> · intro e; have := hr _ e.symm; omega
  · refine own_keep h.o fun k hk hv => hgr.block k (h.o.lt k hv).2 ?_
    intro e
    exact h.apart k e.symm hv
  · intro k hk
    simp only [Value.ownBlock, Option.some.injEq] at hk
    subst hk
    intro e
    rcases hg with hg | hg
    · exact h.apart g hg e
    · have := (h.o.lt g e).2; omega
theorem RQ.swap {w wr : World} {m : Nat} {vi vo : Value} {I O L : List Int} (h : RQ w wr m vi vo I O L) : RQ w wr m vo vi O I L :=
  ⟨h.q, h.o, h.i, fun g h1 h2 => h.apart g h2 h1, h.bel, h.size⟩

/-- What is left when all that waits was added to the row of what was taken. -/
structure RE (w W : World) (m : Nat) (vi vo : Value) (I J L : List Int) : Prop where
  q : ∃ a, QAt W (w.heap.size + 1) w.heap.size m a L
  i : W.ownsRow (w.heap.size + 2) 3 1 vi I.length (ints I)
  o : W.ownsRow (w.heap.size + 2) 3 1 vo J.length (ints J)
  bel : Below w.heap.size w W
theorem RQ.ends {w wr w' : World} {m n : Nat} {vi vo v' : Value} {I O L : List Int} (h : RQ w wr m vi vo I O L) (hn : L.length = n) (hown : w'.ownsRow (w.heap.size + 2) 3 1 v' (O.length + n) (ints O ++ ints L)) (hgr : wr.grownBy w' vo.ownBlock) : RE w w' m vi v' I (O ++ L) L := by
  subst hn
  have hr : ∀ k, vo.ownBlock = some k → w.heap.size + 2 ≤ k := fun k hk => (h.o.lt k hk).1
  refine ⟨?_, ?_, by simpa [ints] using hown, h.bel.grown hgr h.bel.size fun k hk => by have := hr k hk; omega⟩
  · obtain ⟨a, hq⟩ := h.q
    refine ⟨a, hq.keep (hgr.block _ hq.blt ?_) (hgr.block _ hq.rlt ?_)⟩ <;> · intro e; have := hr _ e.symm; omega
  · refine own_keep h.i fun k hk hv => hgr.block k (h.i.lt k hv).2 ?_
    intro e
    exact h.apart k hv e.symm
theorem RQ.ends0 {w wr : World} {m : Nat} {vi vo : Value} {I O : List Int} (h : RQ w wr m vi vo I O []) : RE w wr m vi vo I (O ++ []) [] :=
  ⟨h.q, h.i, by simpa using h.o, h.bel⟩
theorem RE.same {w W : World} {m : Nat} {vi vo : Value} {I J L : List Int} (h : RE w W m vi vo I J L) (hI : I = J) : Calls Try.prog 20 #[vi, vo] W fun e w' => e = .returned (.bool true) ∧ Below W.heap.size W w' := by
  subst hI
  exact same_any _ _ I W (own_reads h.i) (own_reads h.o)

theorem ints_one (L : List Int) : ∀ u ∈ ints L, u.oneCell' = true := by
  intro u hu
  simp only [ints, List.mem_map] at hu
  obtain ⟨x, _, rfl⟩ := hu
  rfl

set_option maxHeartbeats 1000000 in
theorem law_row (a : Int) (v1 : Value) (l : List Int) (v2 : Value) (l2 : List Int) (w : World) (ha : (Lit.int .i64 a).wf = true) (H1 : InInts w v1 l) (H2 : InInts w v2 l2) :
    Calls Try.prog 7 #[.int .i64 a, v1, v2] w fun e w' => e = .returned (.bool true) ∧ Below w.heap.size w w' := by
  obtain ⟨⟨A, c, rfl, hlc, hcm, hA, hcell⟩, hwf⟩ := H1
  obtain ⟨⟨A2, c2, rfl, hlc2, hcm2, hA2, hcell2⟩, hwf2⟩ := H2
  obtain ⟨y, y0, y1, hAr⟩ := around_some a 6 (by omega) (by omega) ha
  obtain ⟨y, rfl⟩ := Int.eq_ofNat_of_zero_le y0
  have HAr := Lib.hid hAr
  have HW := Lib.hid hwf
  have HC := Lib.hid hcell
  have HA := Lib.hid hA
  have HW2 := Lib.hid hwf2
  have HC2 := Lib.hid hcell2
  have HA2 := Lib.hid hA2
  clear hwf hcell hA hAr hwf2 hcell2 hA2
  have hl0 : (0 : Int) ≤ (l.length : Int) := by omega
  have hl1 : (l.length : Int) ≤ 9223372036854775807 := by omega
  have hl2 : (l2.length : Int) ≤ 9223372036854775807 := by omega
  go_enter Try.func7, Try.ntmps7
  go_wp2_with fail
  refine (HAr.out _).mono ?_
  rintro e w' ⟨rfl, rfl⟩
  go_wp2_with fail
  refine (newi_good _ _ (by omega) (by omega)).mono ?_
  rintro e w1 ⟨rfl, hq, hb⟩
  rw [show ((1 : Int) + (y : Int)).toNat = y + 1 by omega] at hq
  have HQ := Lib.hid (show RQ w w1 (y + 1) (.slice none 0 0) (.slice none 0 0) [] [] [] from ⟨⟨0, hq⟩, own_nil _ _ _ _, own_nil _ _ _ _, fun g h => by simp [Value.ownBlock] at h, hb, by have := hq.blt; omega⟩)
  clear hq hb
  go_wp2_with fail
  go_loopw [10, 11, 12, 13, 14, 15] (fun vi vo c _ _ _ wr => ∃ (k : Nat) (I O L : List Int), k ≤ 16 ∧ c = .int .i64 k ∧ I.length ≤ k ∧ I = O ++ L ∧ RQ w wr (y + 1) vi vo I O L) (fun _ _ c _ _ _ _ => 16 - (intOf c).toNat)
  case atStart => exact ⟨0, [], [], [], by omega, rfl, by simp, rfl, HQ.out⟩
  case round =>
    obtain ⟨k, I, O, L, hk, rfl, hIk, hI, hrq⟩ := hrel
    clear HQ
    by_cases hlt : k < l.length ∧ k < 16
    · have HI := Lib.hid hI
      clear hI
      obtain ⟨hkl, hk16⟩ := hlt
      have hki : (k : Int) < l.length := by omega
      have hki16 : (k : Int) < 16 := by omega
      obtain ⟨ab, ao, rfl⟩ := HA.out (by omega)
      have d0 := cell_below hrq.bel (HC.out ab ao rfl k (by omega))
      obtain ⟨x, hx⟩ : ∃ x, x = l.getD k 0 := ⟨_, rfl⟩
      rw [← hx] at d0
      clear hx
      have HR := Lib.hid hrq
      obtain ⟨qa, hq⟩ := hrq.q
      obtain ⟨wo, rfl⟩ : ∃ wo : World, wo = wr := ⟨_, rfl⟩
      clear hrq
      have hll := hq.ll
      have hab := cell_lt (HC.out ab ao rfl k (by omega))
      by_cases hk2 : k < l2.length
      · have hk2i : (k : Int) < l2.length := by omega
        obtain ⟨ab2, ao2, rfl⟩ := HA2.out (by omega)
        have hd1 := HC2.out ab2 ao2 rfl k hk2
        obtain ⟨x2, hx2⟩ : ∃ x2, x2 = l2.getD k 0 := ⟨_, rfl⟩
        rw [← hx2] at hd1
        have HD1 := Lib.hid hd1
        obtain ⟨t, t0, t1, hT⟩ := around_some x2 3 (by omega) (by omega) (HW2.out _ (by simp [hx2, List.getD_eq_getElem?_getD, List.getElem?_eq_getElem hk2]))
        clear hx2 hd1
        obtain ⟨t, rfl⟩ := Int.eq_ofNat_of_zero_le t0
        have HT := Lib.hid hT
        clear hT
        rcases Nat.lt_or_ge L.length (y + 1) with hfull | hfull
        have HP := Lib.hid (put_more _ _ _ _ _ x wo hq hfull)
        clear hq
        go_wp2_with fail
        refine HP.out.mono ?_
        rintro e w2 ⟨rfl, hq2, ho2⟩
        have HR2 := Lib.hid (HR.out.only hq2 ho2)
        have d0 := ((Only.below ho2 (B := w.heap.size) (by omega) (by omega)).cell (p := ⟨ab, ao + k, none⟩) hab).trans d0
        have hsz2 := HR2.out.size
        clear hq2 ho2 HP
        go_upto_region 12 with (at_builtin; refine app_lies HR2.out.i [.int .i64 x] rfl rfl Try.underlying23 info3' rfl (by decide) rfl rfl rfl rfl (one_int _) hsz2 (by omega) (by omega) ?_; intro g cap w3 hown hgr hge)
        have HR := Lib.hid (HR2.out.pushI hown hgr hge)
        have HI2 := Lib.hid (show I ++ [x] = O ++ (L ++ [x]) by rw [HI.out]; simp)
        have hIl : (I ++ [x]).length ≤ k + 1 := by simp; omega
        clear hown hgr hge HR2 HI hIk hsz2 hll hfull
        generalize Value.slice (some ⟨g, 0, none⟩) (I.length + 1) cap = vn at *
        generalize I ++ [x] = In at *
        generalize L ++ [x] = Ln at *
        obtain ⟨wn, rfl⟩ : ∃ wn : World, wn = w3 := ⟨_, rfl⟩
        have d1 := cell_below HR.out.bel HD1.out
        rotate_left
        have HP := Lib.hid (put_full _ _ _ _ _ x wo hq (by omega))
        clear hq
        go_wp2_with fail
        refine HP.out.mono ?_
        rintro e w2 ⟨rfl, j, rfl⟩
        have HR := Lib.hid (HR.out.below (below_drewN (Below.refl _ _) j))
        have HI2 := HI
        have hIl : I.length ≤ k + 1 := by omega
        clear HI hIk hll hfull
        have d1 := cell_below HR.out.bel HD1.out
        go_wp2_with fail
        generalize wo.drewN j = wn at *
        obtain ⟨vn, rfl⟩ : ∃ vn, vn = u10 := ⟨_, rfl⟩
        obtain ⟨In, rfl⟩ : ∃ In, In = I := ⟨_, rfl⟩
        obtain ⟨Ln, rfl⟩ : ∃ Ln, Ln = L := ⟨_, rfl⟩
        all_goals
          try go_wp2_with fail
          refine (HT.out _).mono ?_
          rintro e w' ⟨rfl, rfl⟩
          go_wp2_with fail
          go_loopw [11, 13, 14, 15] (fun vo kv _ _ wr => ∃ (t : Nat) (O L : List Int), t ≤ 2 ∧ kv = .int .i64 t ∧ Hid (In = O ++ L) ∧ RQ w wr (y + 1) vn vo In O L) (fun _ kv _ _ _ => (intOf kv).toNat)
          case atStart => exact ⟨t, O, Ln, by omega, rfl, HI2, HR.out⟩
          case round =>
            obtain ⟨t, O, L, ht, rfl, HI3, hrq⟩ := hrel
            clear HR HI2
            by_cases ht0 : 0 < t
            · have hti : (0 : Int) < (t : Int) := by omega
              obtain ⟨qa, hq⟩ := hrq.q
              have HR := Lib.hid hrq
              obtain ⟨wi, rfl⟩ : ∃ wi : World, wi = wr := ⟨_, rfl⟩
              clear hrq
              cases L with
              | nil =>
                have HP := Lib.hid (take_none _ _ _ _ wi hq)
                clear hq
                go_wp2_with fail
                refine HP.out.mono ?_
                rintro e w' ⟨rfl, rfl⟩
                go_wp2
                go_roundw
                case rel => exact ⟨t - 1, O, [], by omega, by rw [show ((t - 1 : Nat) : Int) = (t : Int) - 1 by omega], HI3, HR.out⟩
                case measure => simp [intOf]; omega
              | cons z zs =>
                have HP := Lib.hid (take_some _ _ _ _ z zs wi hq)
                clear hq
                go_wp2_with fail
                refine HP.out.mono ?_
                rintro e w2 ⟨rfl, hq2, ho2⟩
                have HR2 := Lib.hid (HR.out.only hq2 ho2)
                have hsz2 := HR2.out.size
                have hIl2 : O.length ≤ k + 1 := by have := HI3.out; rw [this] at hIl; simp at hIl; omega
                clear hq2 ho2 HP HR
                go_wp2_with (at_builtin; refine app_lies HR2.out.o [.int .i64 z] rfl rfl Try.underlying23 info3' rfl (by decide) rfl rfl rfl rfl (one_int _) hsz2 (by omega) (by omega) ?_; intro g cap w3 hown hgr hge)
                have HR := Lib.hid (HR2.out.swap.pushI hown hgr hge).swap
                clear hown hgr hge HR2
                go_roundw
                case rel => exact ⟨t - 1, O ++ [z], zs, by omega, by rw [show ((t - 1 : Nat) : Int) = (t : Int) - 1 by omega], Lib.hid (by rw [HI3.out]; simp), HR.out⟩
                case measure => simp [intOf]; omega
            · have e : t = 0 := by omega
              subst e
              have HR := Lib.hid hrq
              clear hrq
              go_wp2
              go_roundw
              case rel => exact ⟨k + 1, In, O, L, by omega, by go_num, hIl, HI3.out, HR.out⟩
              case measure => simp [intOf]; omega
      · have hk2i : ¬ (k : Int) < l2.length := by omega
        rcases Nat.lt_or_ge L.length (y + 1) with hfull | hfull
        have HP := Lib.hid (put_more _ _ _ _ _ x wo hq hfull)
        clear hq
        go_wp2_with fail
        refine HP.out.mono ?_
        rintro e w2 ⟨rfl, hq2, ho2⟩
        have HR2 := Lib.hid (HR.out.only hq2 ho2)
        have d0 := ((Only.below ho2 (B := w.heap.size) (by omega) (by omega)).cell (p := ⟨ab, ao + k, none⟩) hab).trans d0
        have hsz2 := HR2.out.size
        clear hq2 ho2 HP
        go_upto_region 12 with (at_builtin; refine app_lies HR2.out.i [.int .i64 x] rfl rfl Try.underlying23 info3' rfl (by decide) rfl rfl rfl rfl (one_int _) hsz2 (by omega) (by omega) ?_; intro g cap w3 hown hgr hge)
        have HR := Lib.hid (HR2.out.pushI hown hgr hge)
        have HI2 := Lib.hid (show I ++ [x] = O ++ (L ++ [x]) by rw [HI.out]; simp)
        have hIl : (I ++ [x]).length ≤ k + 1 := by simp; omega
        clear hown hgr hge HR2 HI hIk hsz2 hll hfull
        generalize Value.slice (some ⟨g, 0, none⟩) (I.length + 1) cap = vn at *
        generalize I ++ [x] = In at *
        generalize L ++ [x] = Ln at *
        obtain ⟨wn, rfl⟩ : ∃ wn : World, wn = w3 := ⟨_, rfl⟩
        rotate_left
        have HP := Lib.hid (put_full _ _ _ _ _ x wo hq (by omega))
        clear hq
        go_wp2_with fail
        refine HP.out.mono ?_
        rintro e w2 ⟨rfl, j, rfl⟩
        have HR := Lib.hid (HR.out.below (below_drewN (Below.refl _ _) j))
        have HI2 := HI
        have hIl : I.length ≤ k + 1 := by omega
        clear HI hIk hll hfull
        go_wp2_with fail
        generalize wo.drewN j = wn at *
        obtain ⟨vn, rfl⟩ : ∃ vn, vn = u10 := ⟨_, rfl⟩
        obtain ⟨In, rfl⟩ : ∃ In, In = I := ⟨_, rfl⟩
        obtain ⟨Ln, rfl⟩ : ∃ Ln, Ln = L := ⟨_, rfl⟩
        all_goals
          try go_wp2_with fail
          go_loopw [11, 13, 14, 15] (fun vo kv _ _ wr => ∃ (t : Nat) (O L : List Int), t ≤ 2 ∧ kv = .int .i64 t ∧ Hid (In = O ++ L) ∧ RQ w wr (y + 1) vn vo In O L) (fun _ kv _ _ _ => (intOf kv).toNat)
          case atStart => exact ⟨0, O, Ln, by omega, rfl, HI2, HR.out⟩
          case round =>
            obtain ⟨t, O, L, ht, rfl, HI3, hrq⟩ := hrel
            clear HR HI2
            by_cases ht0 : 0 < t
            · have hti : (0 : Int) < (t : Int) := by omega
              obtain ⟨qa, hq⟩ := hrq.q
              have HR := Lib.hid hrq
              obtain ⟨wi, rfl⟩ : ∃ wi : World, wi = wr := ⟨_, rfl⟩
              clear hrq
              cases L with
              | nil =>
                have HP := Lib.hid (take_none _ _ _ _ wi hq)
                clear hq
                go_wp2_with fail
                refine HP.out.mono ?_
                rintro e w' ⟨rfl, rfl⟩
                go_wp2
                go_roundw
                case rel => exact ⟨t - 1, O, [], by omega, by rw [show ((t - 1 : Nat) : Int) = (t : Int) - 1 by omega], HI3, HR.out⟩
                case measure => simp [intOf]; omega
              | cons z zs =>
                have HP := Lib.hid (take_some _ _ _ _ z zs wi hq)
                clear hq
                go_wp2_with fail
                refine HP.out.mono ?_
                rintro e w2 ⟨rfl, hq2, ho2⟩
                have HR2 := Lib.hid (HR.out.only hq2 ho2)
                have hsz2 := HR2.out.size
                have hIl2 : O.length ≤ k + 1 := by have := HI3.out; rw [this] at hIl; simp at hIl; omega
                clear hq2 ho2 HP HR
                go_wp2_with (at_builtin; refine app_lies HR2.out.o [.int .i64 z] rfl rfl Try.underlying23 info3' rfl (by decide) rfl rfl rfl rfl (one_int _) hsz2 (by omega) (by omega) ?_; intro g cap w3 hown hgr hge)
                have HR := Lib.hid (HR2.out.swap.pushI hown hgr hge).swap
                clear hown hgr hge HR2
                go_roundw
                case rel => exact ⟨t - 1, O ++ [z], zs, by omega, by rw [show ((t - 1 : Nat) : Int) = (t : Int) - 1 by omega], Lib.hid (by rw [HI3.out]; simp), HR.out⟩
                case measure => simp [intOf]; omega
            · have e : t = 0 := by omega
              subst e
              have HR := Lib.hid hrq
              clear hrq
              go_wp2
              go_roundw
              case rel => exact ⟨k + 1, In, O, L, by omega, by go_num, hIl, HI3.out, HR.out⟩
              case measure => simp [intOf]; omega
    · obtain ⟨qa, hq⟩ := hrq.q
      have HI := Lib.hid hI
      have HAL := Lib.hid (all_any _ _ _ _ _ wr hq)
      obtain ⟨i3, hi3, hzz⟩ := Option.map_eq_some_iff.1 info3'
      simp only [Prod.mk.injEq] at hzz
      obtain ⟨hz0, hz1, hz2⟩ := hzz
      have HLE := Lib.hid (fun W h => len_any _ _ _ _ _ W (hq.below h))
      have hLm := hq.ll
      have hOk : O.length + L.length ≤ 16 := by rw [hI] at hIk; simp at hIk; omega
      have HR := Lib.hid hrq
      obtain ⟨wo, rfl⟩ : ∃ wo : World, wo = wr := ⟨_, rfl⟩
      have hli : (L.length : Int) ≤ 1 + (y : Int) := by omega
      have hlm : (L.length : Int) ≤ 1000 := by omega
      have hsz := hrq.size
      clear hrq hq hI
      by_cases hkl : k < l.length
      have hi1 : (k : Int) < l.length := by omega
      have hi2 : ¬ (k : Int) < 16 := by omega
      rotate_left
      have hi1 : ¬ (k : Int) < l.length := by omega
      all_goals
        go_wp2_with fail
        refine HAL.out.mono ?_
        rintro e w2 ⟨va, rfl, hown, hb⟩
        have HR2 := Lib.hid (HR.out.below hb)
        rcases hown.2 with ⟨rfl, hn⟩ | ⟨g, cap, cur, rfl, hg1, hg2, hg3, hg4, hg5, hg6⟩
        · obtain rfl : L = [] := List.eq_nil_of_length_eq_zero hn
          have HE := Lib.hid HR2.out.ends0
          clear hown hb hn
          have HIJ := Lib.hid (HI.out)
          go_wp2_with (at_builtin; refine app_none HR2.out.o rfl rfl Try.underlying23 hi3 hz1 rfl rfl ?_)
          refine (HE.out.same HIJ.out).mono ?_
          rintro e w4 ⟨rfl, hb4⟩
          have HB4 := Lib.hid hb4
          obtain ⟨a5, hq5⟩ := HE.out.q
          have HLE := Lib.hid (len_any _ _ _ _ _ w4 (hq5.below hb4))
          clear hq5 hb4
          go_wp2_with fail
          refine HLE.out.mono ?_
          rintro e w5 ⟨rfl, rfl⟩
          go_wp2_with (go_at_call 11; refine (lives_any _).mono ?_; rintro e w' ⟨rfl, hb⟩)
          go_ret
          have hW4 := HE.out.bel.trans (HB4.out.mono HE.out.bel.size)
          exact ⟨rfl, hW4.trans (hb.mono hW4.size)⟩
        · have HOW := Lib.hid hown
          have HB := Lib.hid hb
          clear hown hb hg1 hg2 hg3 hg4 hg5 hg6
          go_wp2_with (at_builtin; refine wpList_append_own w2 rfl _ _ 23 rfl (w.heap.size + 2) 3 i3 (.int .i64 0) 1 8 Try.underlying23 hi3 hz0 hz1 hz2 rfl (by decide) u11 O.length (ints O) rfl HR2.out.o ⟨g, 0, none⟩ L.length cap (ints L) rfl (by simp [ints]) (HOW.out.cells rfl) (ints_one L) (by simp only [maxLen]; omega) (by omega) (Nat.le_trans hsz HB.out.size) ?_; intro v3 w3 hown3 hgr3 _; have HE := Lib.hid (HR2.out.ends rfl hown3 hgr3); clear hown3 hgr3)
          have HIJ := Lib.hid (HI.out)
          refine (HE.out.same HIJ.out).mono ?_
          rintro e w4 ⟨rfl, hb4⟩
          have HB4 := Lib.hid hb4
          obtain ⟨a5, hq5⟩ := HE.out.q
          have HLE := Lib.hid (len_any _ _ _ _ _ w4 (hq5.below hb4))
          clear hq5 hb4
          go_wp2_with fail
          refine HLE.out.mono ?_
          rintro e w5 ⟨rfl, rfl⟩
          go_wp2_with (go_at_call 11; refine (lives_any _).mono ?_; rintro e w' ⟨rfl, hb⟩)
          go_ret
          have hW4 := HE.out.bel.trans (HB4.out.mono HE.out.bel.size)
          exact ⟨rfl, hW4.trans (hb.mono hW4.size)⟩
end Go.Proofs.Ytjhecdmgblicoaa
