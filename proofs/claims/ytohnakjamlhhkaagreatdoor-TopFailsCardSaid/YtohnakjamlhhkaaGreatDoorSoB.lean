/- Operations: the other builtins, conversions, calls; all of them. -/
import Derived.Test.YtohnakjamlhhkaaGreatDoorSoA
namespace Go.Proofs.YtohnakjamlhhkaaGreatDoor
open Go
set_option linter.unusedVariables false
set_option linter.unusedSimpArgs false

section
variable {P : Program} {E : Em} {F : FT} {A : AH} {a : Act} {w : World} {out : Out}
theorem copy_run (hR : Rel E A w) {dt : TypeId} {d d' s s' : Value} (hd : VRel E d d') (hs : VRel E s s') {v : Value} {A' : AH} (h : copyA P A dt d s = some (v, A'))
    (ts : Array TypeId) (h0 : ts[0]? = some dt) (ty : TypeId) (args : Array Value) (ha : args[0]? = some d') (hb : args[1]? = some s') :
    ∃ v' w', Stp E A w E A' w' ∧ VRel E v v' ∧ (Builtin.copy_ ts ty args).run P w = .ok v' w' := by
  unfold copyA at h
  split at h <;> first | (cases h; done) | skip
  rename_i e base dn c hdt
  split at h <;> first | (cases h; done) | skip
  rename_i i m hi hm
  have hlen : ∀ w, (Builtin.lenOf s').run P w = .ok m w := fun w => lenX_run hs hm
  split at h
  · rename_i hmin
    cases h
    refine ⟨.int .i64 0, w, .refl hR, .int _ _, ?_⟩
    have hf : (Builtin.firstCells i.size 0 s').run P w = .ok #[] w := by
      unfold lenX at hm
      split at hm
      · cases hs <;> simp [Builtin.firstCells, loadCells, loadCellsFrom]
      · rw [str_inv hs]; simp [Builtin.firstCells]
      · cases hm
    cases hd <;> simp [Builtin.copy_, h0, ha, hb, run_und hdt, hlen, hmin, sizeOf, typeInfo, hi, hf, storeCells, goInt]
  · rename_i n hmin
    split at h <;> first | (cases h; done) | skip
    rename_i cell cells b hcells
    split at h
    · rename_i A2 hst
      cases h
      obtain ⟨r', n1, n2, n3, n4, _⟩ := firstA_run (P := P) hR hs hcells hm (by have := Nat.min_le_left m dn; rw [show Nat.min m dn = min m dn from rfl] at hmin; omega)
      cases hd with
      | slc0 bb o sz' b' => simp at hmin
      | slc bb o nn c c' B s2 sz' hbl hn hc hr =>
        · obtain ⟨w', h1, h2⟩ := storeCellsA_run (P := P) hR hst n1 hbl (by simp)
          refine ⟨.int .i64 (n + 1 : Nat), w', h2, .int _ _, ?_⟩
          simp [Builtin.copy_, h0, ha, hb, run_und hdt, hlen, hmin, sizeOf, typeInfo, hi, n4 w rfl, h1, goInt]
    · cases h
theorem clear_run (hR : Rel E A w) {t : TypeId} {x x' : Value} (hx : VRel E x x') {A' : AH} (h : clearA P A t x = some A')
    (ts : Array TypeId) (h0 : ts[0]? = some t) (ty : TypeId) (args : Array Value) (ha : args[0]? = some x') :
    ∃ w', Stp E A w E A' w' ∧ (Builtin.clear_ ts ty args).run P w = .ok (.tuple #[]) w' := by
  unfold clearA at h
  split at h
  · rename_i k e r hu
    split at h
    · rename_i es ho
      cases h
      obtain ⟨R, hb, rfl⟩ := map_inv hx
      obtain ⟨ents, clock, hw, hmr⟩ := hR.mapAt ho hb
      refine ⟨{ w with heap := w.heap.setIfInBounds R (.map #[] clock) }, Stp.mapPut hR ho hb rfl MRel.nil, ?_⟩
      simp [Builtin.clear_, h0, ha, run_und hu, run_getObj hw, run_setObj hw]
    · cases h
  · rename_i e hu
    cases h
    cases hx
    exact ⟨w, .refl hR, by simp [Builtin.clear_, h0, ha, run_und hu]⟩
  · rename_i e b n c hu
    split at h
    · cases h
      cases hx with
      | slc0 bb o sz' b' => exact ⟨w, .refl hR, by simp [Builtin.clear_, h0, ha, run_und hu]⟩
      | slc bb o nn c c' B s2 sz' hbl hn hc hr => exact ⟨w, .refl hR, by simp [Builtin.clear_, h0, ha, run_und hu]⟩
    · rename_i n z zs hz
      obtain ⟨i, zv, hi, hzz, hzs, hone, hfl, hsz, hby⟩ := zeroC_inv hz
      cases hx with
      | slc bb o nn c c' B s2 sz' hbl hn hc hr =>
        obtain ⟨w', h1, h2⟩ := storeCellsA_run (P := P) hR h ((flats_rel hfl).repl (n + 1)) hbl (by simp [repl])
        refine ⟨w', h2, ?_⟩
        rw [hzs] at h1
        simp [Builtin.clear_, h0, ha, run_und hu, zeroValue, typeInfo, hi, hzz, zeroCells_eq, h1]
    · cases h
  · cases h
theorem delA_spec {k : Value} : ∀ {es es' : List (Value × Value)}, delA k es = some es' →
    (findA k es = some none ∧ es' = es) ∨ (∃ u e1 w e2, findA k es = some (some w) ∧ es = e1 ++ (u, w) :: e2 ∧ es' = e1 ++ e2 ∧ keyEq k u = some true ∧ ∀ x ∈ e1, keyEq k x.1 = some false)
  | [], es', h => by cases h; exact .inl ⟨rfl, rfl⟩
  | (u, x) :: es, es', h => by
    simp only [delA] at h
    split at h
    · rename_i hk
      cases h
      exact .inr ⟨u, [], x, es, by simp [findA, hk], rfl, rfl, hk, by simp⟩
    · rename_i hk
      split at h
      · rename_i r hr
        cases h
        rcases delA_spec hr with ⟨h1, rfl⟩ | ⟨u', e1, w, e2, h1, rfl, rfl, h2, h3⟩
        · exact .inl ⟨by simp [findA, hk, h1], rfl⟩
        · refine .inr ⟨u', (u, x) :: e1, w, e2, by simp [findA, hk, h1], rfl, rfl, h2, fun y hy => ?_⟩
          rcases List.mem_cons.1 hy with rfl | hy
          · exact hk
          · exact h3 y hy
      · cases h
    · cases h
theorem delete_run (hR : Rel E A w) {t kt e : TypeId} (hu : P.underlying t = some (.map kt e)) {r R : Nat} {es es' : List (Value × Value)} (ho : A.obj r = some (.map es)) (hb : E.blk r = some (R, 0)) {k : Value} (hkt : keyT P kt k = true) (hd : delA k es = some es')
    (ts : Array TypeId) (h0 : ts[0]? = some t) (ty : TypeId) (args : Array Value) (ha : args[0]? = some (.map (some R))) (hk : args[1]? = some k) :
    ∃ w', Stp E A w E (A.put r (.map es')) w' ∧ (Builtin.delete_ ts ty args).run P w = .ok (.tuple #[]) w' := by
  obtain ⟨ents, clock, hw, hmr⟩ := hR.mapAt ho hb
  rcases delA_spec hd with ⟨h1, rfl⟩ | ⟨u, e1, y, e2, h1, rfl, rfl, h2, h3⟩
  · obtain ⟨d, hdd, hs⟩ := sameNow_of hkt (hmr.lacks h1)
    have hfn := findNow_none ents.toList 0 hs
    refine ⟨{ w with heap := w.heap.setIfInBounds R (.map ents clock) }, Stp.mapPut hR ho hb rfl hmr, ?_⟩
    simp [Builtin.delete_, h0, ha, hk, run_und hu, run_getObj hw, checkKey_run hkt, Instr.findKey, run_und hdd, hfn, run_setObj hw]
  · have hu' := keyEq_true h2
    subst hu'
    obtain ⟨m1, m2, v', b, g2, g3, g4, l', g8, g9⟩ := hmr.foundAt h2 h3
    obtain ⟨d, hdd, hs⟩ := sameNow_eq hkt
    have hfn := findNow_some (d := d) (k := u) (e := ⟨u, v', b⟩) (by rw [hs]; exact h2) m2 m1 0 fun e he => by rw [hs]; exact g4 e he
    rw [← g2] at hfn
    simp only [Nat.zero_add] at hfn
    refine ⟨{ w with heap := w.heap.setIfInBounds R (.map (ents.eraseIdxIfInBounds m1.length) clock) }, Stp.mapPut hR ho hb rfl ?_, ?_⟩
    · have hlt : m1.length < ents.size := by
        have := congrArg List.length g2
        simp at this; omega
      have hnew : (ents.eraseIdxIfInBounds m1.length).toList = m1 ++ m2 := by
        rw [Array.eraseIdxIfInBounds_eq, dif_pos hlt, Array.toList_eraseIdx, g2]
        simp [List.eraseIdx_append_of_length_le]
      rw [hnew]
      refine ⟨⟨l', g8, g9⟩, ?_⟩
      have := hmr.keys
      rw [List.pairwise_append] at this ⊢
      obtain ⟨p1, p2, p3⟩ := this
      rw [List.pairwise_cons] at p2
      exact ⟨p1, p2.2, fun z hz q hq => p3 z hz q (by simp [hq])⟩
    · simp [Builtin.delete_, h0, ha, hk, run_und hu, run_getObj hw, checkKey_run hkt, Instr.findKey, run_und hdd, hfn, run_setObj hw]
end
end Go.Proofs.YtohnakjamlhhkaaGreatDoor
