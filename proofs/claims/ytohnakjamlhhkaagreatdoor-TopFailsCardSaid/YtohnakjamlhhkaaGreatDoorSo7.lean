/- Operations, one by one: structures, loads and stores, new blocks. -/
import Derived.Test.YtohnakjamlhhkaaGreatDoorSo6
namespace Go.Proofs.YtohnakjamlhhkaaGreatDoor
open Go
set_option linter.unusedVariables false
set_option linter.unusedSimpArgs false

theorem VRels.set {E : Em} : ∀ {l l' : List Value} {v v' : Value}, VRels E l l' → VRel E v v' → ∀ i, VRels E (l.set i v) (l'.set i v')
  | _, _, v, v', .nil, hv, i => by simp; exact .nil
  | _, _, v, v', .cons x x' l l' hx ht, hv, 0 => .cons _ _ _ _ hv ht
  | _, _, v, v', .cons x x' l l' hx ht, hv, i + 1 => .cons _ _ _ _ hx (VRels.set ht hv i)
theorem known_cells {E : Em} {v v' : Value} (hk : known v = true) (h : VRel E v v') : VRels E v.cells.toList v'.cells.toList := by
  cases h <;> first | (cases hk; done) | skip
  case opq k =>
    have : (E.val k).cells = #[E.val k] := by
      have h1 := E.one k
      generalize E.val k = q at h1
      cases q <;> first | rfl | (cases h1; done)
    rw [this]
    exact .cons _ _ _ _ (.opq k) .nil
  case agg a a' ha => exact ha
  case tuple a a' ha => exact .cons _ _ _ _ (.tuple _ _ ha) .nil
  all_goals
    refine .cons _ _ _ _ ?_ .nil
    first | (constructor; done) | (constructor <;> assumption)
theorem flat_known {v : Value} (h : flat v = true) : known v = true := by
  cases v <;> first | rfl | skip
  rename_i r; cases r <;> first | rfl | (cases h; done)
theorem known_false {v : Value} (h : known v = false) : v = .chan none := by
  cases v <;> first | (cases h; done) | skip
  rename_i r
  cases r with
  | some _ => cases h
  | none => rfl
theorem oneC_known {v : Value} (h : oneC v = true) : known v = true := by
  cases v <;> first | rfl | skip
  rename_i r; cases r <;> first | rfl | (cases h; done)
inductive PRel (E : Em) : List (Nat × Value) → List (Nat × Value) → Prop where
  | nil : PRel E [] []
  | cons (i : Nat) (v v' : Value) (l l' : List (Nat × Value)) (hk : known v = true) (h : VRel E v v') (t : PRel E l l') : PRel E ((i, v) :: l) ((i, v') :: l')
theorem PRel.zip {E : Em} : ∀ {is : List Nat} {vs vs' : List Value}, VRels E vs vs' → vs.all known = true → PRel E (is.zip vs) (is.zip vs')
  | [], vs, vs', _, _ => by simp; exact .nil
  | i :: is, _, _, .nil, _ => by simp; exact .nil
  | i :: is, _, _, .cons v v' l l' hv ht, hk => by
    simp only [List.all_cons, Bool.and_eq_true] at hk
    simp only [List.zip_cons_cons]
    exact .cons _ _ _ _ _ hk.1 hv (PRel.zip ht hk.2)
theorem fold_rel {E : Em} (off : Nat) : ∀ {l l' : List Value} (j : Nat) {cs cs' : Array Value}, VRels E l l' → VRels E cs.toList cs'.toList →
    VRels E ((l.zipIdx j).foldl (fun cs p => cs.setIfInBounds (off + p.2) p.1) cs).toList ((l'.zipIdx j).foldl (fun cs p => cs.setIfInBounds (off + p.2) p.1) cs').toList
  | _, _, j, cs, cs', .nil, hc => hc
  | _, _, j, cs, cs', .cons v v' l l' hv ht, hc => by
    simp only [List.zipIdx_cons, List.foldl_cons]
    refine fold_rel off (j + 1) ht ?_
    rw [Array.toList_setIfInBounds, Array.toList_setIfInBounds]
    exact hc.set hv _
theorem fill_rel {E : Em} (place : Nat → Option (Nat × Nat)) : ∀ {l l' : List (Nat × Value)} {cs cs' r : Array Value}, PRel E l l' → VRels E cs.toList cs'.toList → Instr.fill place cs l = some r →
    ∃ r', Instr.fill place cs' l' = some r' ∧ VRels E r.toList r'.toList
  | _, _, cs, cs', r, .nil, hc, h => by cases h; exact ⟨cs', rfl, hc⟩
  | _, _, cs, cs', r, .cons i v v' l l' hk hv ht, hc, h => by
    simp only [Instr.fill] at h
    split at h
    · cases h
    · rename_i off size hp
      have hs := (known_cells hk hv).length
      have hs2 := hc.length
      simp only [Array.length_toList] at hs hs2
      split at h
      · cases h
      · rename_i hn
        rw [hs, hs2] at hn
        simp only [Instr.fill, hp]
        rw [if_neg hn]
        refine fill_rel place ht ?_ h
        have := fold_rel off 0 (known_cells hk hv) hc
        have e : ∀ (u : Array Value) (c : Array Value), Array.foldl (fun cs (x : Value × Nat) => cs.setIfInBounds (off + x.2) x.1) c u.zipIdx = (u.toList.zipIdx).foldl (fun cs p => cs.setIfInBounds (off + p.2) p.1) c := fun u c => by
          rw [← Array.foldl_toList, Array.toList_zipIdx]
        rw [e, e]
        exact this
section
variable {P : Program} {E : Em} {F : FT} {A : AH} {a : Act} {w : World} {out : Out}
theorem build_spec {t : TypeId} {z : Value} (hz : zeroT P t = some z) {parts : Array (Nat × Value)} {v : Value} (h : (Instr.build t parts).run P w = .ok v w) :
    ∃ place cells, Instr.fill place z.cells parts.toList = some cells ∧ v = .agg cells ∧ ∀ parts' cells', Instr.fill place z.cells parts'.toList = some cells' → (Instr.build t parts').run P w = .ok (.agg cells') w := by
  simp only [Instr.build, Sem.run_bind, run_zero hz, Result.andThen_ok] at h
  cases hu : P.underlying t with
  | none => simp [underlying, hu] at h
  | some d =>
    rw [run_und hu] at h
    simp only [Result.andThen_ok] at h
    cases d <;> first | (simp at h; done) | skip
    case struct fields =>
      simp only [Sem.run_bind] at h
      generalize hg : (fields.mapM fun f => (do pure (f.offset, ← sizeOf f.type) : Sem (Nat × Nat))).run P w = r at h
      cases r with
      | halt x y => simp at h
      | ok places w2 =>
        simp only [Result.andThen_ok] at h
        cases hf : Instr.fill (places[·]?) z.cells parts.toList with
        | none => rw [hf] at h; simp at h
        | some cells =>
          rw [hf] at h
          simp only [Sem.run_pure, Result.ok.injEq] at h
          obtain ⟨rfl, rfl⟩ := h
          refine ⟨_, cells, hf, rfl, fun parts' cells' hf' => ?_⟩
          simp only [Instr.build, Sem.run_bind, run_zero hz, Result.andThen_ok, run_und hu, hg, hf', Sem.run_pure]
    case array n elem =>
      simp only [Sem.run_bind] at h
      generalize hg : (sizeOf elem).run P w = r at h
      cases r with
      | halt x y => simp at h
      | ok size w2 =>
        simp only [Result.andThen_ok] at h
        cases hf : Instr.fill (fun i => some (i * size, size)) z.cells parts.toList with
        | none => rw [hf] at h; simp at h
        | some cells =>
          rw [hf] at h
          simp only [Sem.run_pure, Result.ok.injEq] at h
          obtain ⟨rfl, rfl⟩ := h
          refine ⟨_, cells, hf, rfl, fun parts' cells' hf' => ?_⟩
          simp only [Instr.build, Sem.run_bind, run_zero hz, Result.andThen_ok, run_und hu, hg, hf', Sem.run_pure]
theorem parts_eq (ρ : Operand → Value) (ps : Array (Nat × Operand)) : (ps.map fun (i, x) => (i, ρ x)).toList = (ps.toList.map (·.1)).zip ((ps.toList.map (·.2)).map ρ) := by
  simp only [Array.toList_map]
  induction ps.toList with
  | nil => rfl
  | cons p l ih => simp [ih]
theorem ok_build (hR : Rel E A w) (hF : FRel E F a.tmps) {t : TypeId} {ps : Array (Nat × Operand)} (h : opBuild P F A t ps = some out) :
    OutOK P E A w ((do pure (Next.value (← Instr.build t (ps.map fun (i, x) => (i, a.eval x)))) : Sem Next).run P w) out := by
  unfold opBuild at h
  split at h
  · rename_i vs hvs
    split at h
    · rename_i z hk hz
      split at h
      · rename_i hfz
        split at h
        · rename_i v hv
          cases h
          have hp := peval_run _ v hv w
          obtain ⟨place, cells, h1, rfl, h3⟩ := build_spec hz hp
          have hz' := known_cells (flat_known hfz) (flat_refl (E := E) hfz)
          obtain ⟨cells', h4, h5⟩ := fill_rel place (PRel.zip (evsC_rel hF hvs) hk) hz' (by simpa using h1)
          refine .same hR (.agg _ _ h5) (run_value (h3 _ _ ?_))
          rw [parts_eq]; exact h4
        · cases h
      · cases h
    · cases h
  · cases h

/-! ### Loads and stores -/
theorem ok_load (hR : Rel E A w) (hF : FRel E F a.tmps) {t : TypeId} {x : Operand} (h : (opLoad P t x).run F A = some out) :
    OutOK P E A w ((do pure (Next.value (← Instr.loadAt t (a.eval x))) : Sem Next).run P w) out := by
  unfold opLoad at h
  split at h
  · rename_i hag
    split at h
    · rename_i n hn
      have h' : Option.rec none (fun v => some (Out.val v A)) (Option.rec none (cellsA A n) ((ptrC x).run F)) = some out := h
      cases h1 : (ptrC x).run F with
      | none => rw [h1] at h'; cases h'
      | some b =>
        rw [h1] at h'
        simp only at h'
        cases h2 : cellsA A n b with
        | none => rw [h2] at h'; cases h'
        | some v =>
          rw [h2] at h'
          cases h'
          obtain ⟨B, s, hsp, hb, e⟩ := ptrC_rel hF h1
          obtain ⟨_, cs, m, r, ho, hr, rfl⟩ := cellsA_some h2
          obtain ⟨r', h3, h4, _, h5⟩ := hR.range ho hb hr
          have hl := run_loadCells_list (P := P) w ⟨B, b.off + s, none⟩ r' (fun j v hv => by rw [addr_add]; exact h5 j v hv)
          rw [h4] at hl
          refine .same hR (.agg r.toArray r'.toArray (by simpa using h3)) (run_value ?_)
          simp [Instr.loadAt, Instr.sureAddr, e, loadVar, run_isAgg hag, run_size hn, hl]
    · cases h
  · rename_i hag
    have h' : Option.rec none (fun v => some (Out.val v A)) (Option.rec none (cellA A) ((ptrC x).run F)) = some out := h
    cases h1 : (ptrC x).run F with
    | none => rw [h1] at h'; cases h'
    | some b =>
      rw [h1] at h'
      simp only at h'
      cases h2 : cellA A b with
      | none => rw [h2] at h'; cases h'
      | some v =>
        rw [h2] at h'
        cases h'
        obtain ⟨B, s, hsp, hb, e⟩ := ptrC_rel hF h1
        obtain ⟨_, cs, m, ho, hv⟩ := cellA_some h2
        obtain ⟨c, hrow, _, hcs⟩ := hR.rowAt ho hb
        obtain ⟨_, v', h3, h4⟩ := hcs _ _ hv
        have hc : w.cell? ⟨B, b.off + s, none⟩ = some v' := by rw [hrow.cell]; exact h3
        refine .same hR h4 (run_value ?_)
        simp [Instr.loadAt, Instr.sureAddr, e, loadVar, run_isAgg hag, run_load, hc]
  · cases h
theorem run_storeVar {t : TypeId} {n : Nat} (hn : sizeT P t = some n) {v : Value} (hv : v.cells.size = n) (ad : Addr) : (storeVar t ad v).run P w = (storeCells ad v.cells.toList).run P w := by
  simp [storeVar, run_size hn, hv]
theorem run_unit {s : Sem Unit} {w' : World} (h : s.run P w = .ok () w') : (do s; pure Next.skip : Sem Next).run P w = .ok .skip w' := by
  simp [h]
theorem VRels.one {E : Em} : ∀ {l l' : List Value}, VRels E l l' → (∀ v ∈ l, oneC v = true) → ∀ v ∈ l', v.oneCell' = true
  | _, _, .nil, _, v, hv => by cases hv
  | _, _, .cons x x' l l' hx ht, h, v, hv => by
    rcases List.mem_cons.1 hv with rfl | hv
    · exact oneC_rel (h x (by simp)) hx
    · exact VRels.one ht (fun y hy => h y (by simp [hy])) v hv
/-- Cells are stored. -/
theorem storeCellsA_run (hR : Rel E A w) {b o : Nat} {vs vs' : List Value} {A' : AH} (h : storeCellsA A b o vs = some A') (hvs : VRels E vs vs') {B s : Nat} (hb : E.blk b = some (B, s)) (hne : vs ≠ []) :
    ∃ w', (storeCells ⟨B, o + s, none⟩ vs').run P w = .ok () w' ∧ Stp E A w E A' w' := by
  unfold storeCellsA at h
  split at h
  · rename_i e cs m ho
    split at h
    · rename_i hone
      split at h
      · rename_i cs' hw
        cases h
        obtain ⟨c, hrow, hsize, hcs⟩ := hR.rowAt ho hb
        obtain ⟨e1, e2, e3⟩ := write_eq cs o vs cs' hw
        have hlen := hvs.length
        have e2 := e2 hne
        have hone' : ∀ v ∈ vs, oneC v = true := fun v hv => (List.all_eq_true.1 hone) v hv
        have hlast : cs.length = 0 ∨ cs.length - 1 + s < c.size := by
          rcases Nat.eq_zero_or_pos cs.length with h0 | h0
          · exact .inl h0
          · refine .inr ?_
            obtain ⟨_, v', h1, _⟩ := hcs (cs.length - 1) cs[cs.length - 1] (List.getElem?_eq_getElem (by omega))
            exact (Array.getElem?_eq_some_iff.1 h1).1
        have hpos : 0 < vs.length := List.length_pos_iff.2 hne
        obtain ⟨c', f1, f2, f3⟩ := Row.storeCells P B (o + s) vs' 0 c w hrow (by omega) (VRels.one hvs hone')
        refine ⟨_, f1, ?_⟩
        refine Stp.wrote hR ho hb (size_setRow _ _ _) (hrow.set c' f2) (by rw [f2]; exact hsize) (fun k hk => setRow_other w B k c' hk) ?_ (by rw [AH.next_put, AH.next_unmate]) (fun x o' hx => AH.put_wrote hx) rfl (fun c0 t fr h0 => ⟨_, _, setRow_heap w B c0 c' t fr h0⟩) (cs' := cs') (e' := e) (m' := none)
        intro i v hv
        rw [e3 i] at hv
        rw [f3]
        by_cases hi : o ≤ i ∧ i < o + vs.length
        · rw [if_pos hi] at hv
          obtain ⟨v', g1, g2⟩ := hvs.get hv
          refine ⟨hone' v (List.mem_of_getElem? hv), v', ?_, g2⟩
          rw [if_pos (by omega), ← g1]
          congr 1; omega
        · rw [if_neg hi] at hv
          obtain ⟨g0, v', g1, g2⟩ := hcs i v hv
          refine ⟨g0, v', ?_, g2⟩
          rw [if_neg (by omega)]; exact g1
      · cases h
    · cases h
  · cases h
theorem storeCell_eq {v : Value} {b : Addr} {A' : AH} (h : storeCell A v b = some A') : storeCellsA A b.block b.off [v] = some A' ∧ oneC v = true := by
  cases b with | mk b o sp =>
  have h' : Bool.rec none (storeRow A b o v (A.obj b)) (oneOf v) = some A' := h
  cases h1 : oneOf v with
  | false => rw [h1] at h'; cases h'
  | true =>
    rw [h1] at h'
    have h2 : storeRow A b o v (A.obj b) = some A' := h'
    have h1' : oneC v = true := by rw [← oneOf_eq]; exact h1
    cases h3 : A.obj b with
    | none => rw [h3] at h2; cases h2
    | some ob =>
      rw [h3] at h2
      cases ob with
      | row e cs m =>
        have h4 : Option.rec none (fun cs => some ((unmate A m).put b (.row e cs none))) (setV v cs o) = some A' := h2
        cases h5 : setV v cs o with
        | none => rw [h5] at h4; cases h4
        | some r =>
          rw [h5] at h4
          have h6 : A' = (unmate A m).put b (.row e r none) := by cases h4; rfl
          obtain ⟨h7, h8⟩ := setV_eq v cs o r h5
          have h9 : write_ cs o [v] = some r := by
            clear h4 h2 h' h h6 h3
            induction cs generalizing o r with
            | nil => cases h5
            | cons x xs ih =>
              cases o with
              | zero => cases h5; cases xs <;> rfl
              | succ o =>
                have h5' : Option.rec none (fun r => some (x :: r)) (setV v xs o) = some r := h5
                cases h10 : setV v xs o with
                | none => rw [h10] at h5'; cases h5'
                | some r' =>
                  rw [h10] at h5'
                  obtain ⟨g1, g2⟩ := setV_eq v xs o r' h10
                  have := ih o r' h10 g1 g2
                  show Option.rec none (fun r => some (x :: r)) (write_ xs o [v]) = some r
                  rw [this]; exact h5'
          refine ⟨?_, h1'⟩
          simp only [storeCellsA, h3, List.all_cons, List.all_nil, h1', Bool.and_self, h9, h6]
      | map _ => cases h2
      | dead => cases h2
      | iter _ => cases h2
theorem ok_store (hR : Rel E A w) (hF : FRel E F a.tmps) {t : TypeId} {x y : Operand} (h : (opStore P t x y).run F A = some out) :
    OutOK P E A w ((do Instr.storeAt t (a.eval x) (a.eval y); pure Next.skip : Sem Next).run P w) out := by
  unfold opStore at h
  split at h
  · rename_i hag
    split at h
    · rename_i n hn
      simp only at h
      split at h
      · rename_i b v hx hy
        cases h1 : storeA P A t b.block b.off v with
        | none => rw [h1] at h; cases h
        | some A' =>
          rw [h1] at h
          cases h
          obtain ⟨B, s, hsp, hb, e⟩ := (evC_rel hF (eval_some hx)).ptr_inv
          have hv := evC_rel hF (eval_some hy)
          unfold storeA at h1
          rw [hn] at h1
          simp only at h1
          split at h1
          · rename_i hsz
            have hsz := Nat.eq_of_beq_eq_true hsz
            have hne : v.cells.toList ≠ [] := fun q => by
              have := congrArg List.length q
              simp at this
              rw [this] at hsz
              simp at hsz
            · have hk : known v = true := by
                cases hk : known v with
                | true => rfl
                | false =>
                  have hvv : v = .chan none := known_false hk
                  rw [hvv] at h1
                  unfold storeCellsA at h1
                  split at h1
                  · split at h1
                    · rename_i hall; cases hall
                    · cases h1
                  · cases h1
              have hcv := known_cells hk hv
              obtain ⟨w', h2, h3⟩ := storeCellsA_run (P := P) hR h1 hcv hb hne
              refine ⟨E, w', h3, run_unit ?_⟩
              have hs' : (a.eval y).cells.size = n + 1 := by
                have := hcv.length
                simp only [Array.length_toList] at this
                omega
              simp only [Instr.storeAt, e, Instr.sureAddr, Sem.run_bind, Sem.run_pure, Result.andThen_ok, run_storeVar hn hs', h2]
          · cases h1
      · cases h
    · cases h
  · rename_i hag
    split at h
    · rename_i hn
      have h' : skipO (Option.rec none (fun b => Option.rec none (fun v => storeCell A v b) ((evC y).run F)) ((ptrC x).run F)) = some out := h
      cases h1 : (ptrC x).run F with
      | none => rw [h1] at h'; cases h'
      | some b =>
        rw [h1] at h'
        cases h2 : (evC y).run F with
        | none => simp only [h2] at h'; cases h'
        | some v =>
          simp only [h2] at h'
          cases h3 : storeCell A v b with
          | none => rw [h3] at h'; cases h'
          | some A' =>
            rw [h3] at h'
            cases h'
            obtain ⟨B, s, hsp, hb, e⟩ := ptrC_rel hF h1
            have hv := evC_rel hF h2
            obtain ⟨h4, h5⟩ := storeCell_eq h3
            obtain ⟨w', h6, h7⟩ := storeCellsA_run (P := P) hR h4 (.cons _ _ _ _ hv .nil) hb (by simp)
            have hone := oneC_rel h5 hv
            have hcells : (a.eval y).cells = #[a.eval y] := by
              generalize a.eval y = q at hone
              cases q <;> first | rfl | (cases hone; done)
            refine ⟨E, w', h7, run_unit ?_⟩
            simp only [Instr.storeAt, e, Instr.sureAddr, Sem.run_bind, Sem.run_pure, Result.andThen_ok, run_storeVar hn (by rw [hcells]; rfl), hcells, h6]
    · cases h
  · cases h
end
end Go.Proofs.YtohnakjamlhhkaaGreatDoor
