/- Operations, one by one: new blocks, maps. -/
import Derived.Test.YtohnakjamlhhkaaGreatDoorSo7
namespace Go.Proofs.YtohnakjamlhhkaaGreatDoor
open Go
set_option linter.unusedVariables false
set_option linter.unusedSimpArgs false

theorem repl_len (zs : List Value) : ∀ n, (repl zs n).length = n * zs.length
  | 0 => by simp [repl]
  | n + 1 => by simp [repl, repl_len zs n, Nat.add_mul, Nat.add_comm]
theorem repl_get (zs : List Value) : ∀ n i, i < n * zs.length → (repl zs n)[i]? = zs[i % zs.length]?
  | 0, i, h => by simp at h
  | n + 1, i, h => by
    simp only [repl]
    by_cases hi : i < zs.length
    · rw [List.getElem?_append_left hi, Nat.mod_eq_of_lt hi]
    · rw [List.getElem?_append_right (by omega), repl_get zs n _ (by rw [Nat.add_mul] at h; omega)]
      congr 1
      conv => rhs; rw [show i = (i - zs.length) + zs.length by omega]
      rw [Nat.add_mod_right]
theorem repl_mem {zs : List Value} : ∀ {n : Nat} {v : Value}, v ∈ repl zs n → v ∈ zs
  | 0, v, h => by cases h
  | n + 1, v, h => by
    rcases List.mem_append.1 h with h | h
    · exact h
    · exact repl_mem h
/-- The model's row of noughts. -/
theorem zeros_eq (z : Array Value) (n : Nat) : ((Array.range (n * z.size)).map fun i => z[i % z.size]!) = (repl z.toList n).toArray := by
  apply Array.ext'
  simp only [Array.toList_map, Array.toList_range]
  apply List.ext_getElem?
  intro i
  rw [List.getElem?_map]
  by_cases h : i < n * z.size
  · have hz : 0 < z.size := by
      rcases Nat.eq_zero_or_pos z.size with h0 | h0
      · rw [h0] at h; simp at h
      · exact h0
    have := repl_get z.toList n i (by simpa using h)
    rw [this, List.getElem?_range h]
    simp only [Option.map_some, Array.length_toList]
    have hm := Nat.mod_lt i hz
    simp [hm]
  · rw [List.getElem?_eq_none (by simpa using h)]
    rw [List.getElem?_eq_none (by rw [repl_len]; simpa using h)]
    rfl
theorem range0 : Array.range 0 = #[] := by decide
theorem zeroCells_eq (z : Array Value) (n : Nat) : Builtin.zeroCells z n = (repl z.toList n).toArray := zeros_eq z n

theorem flats_rel {E : Em} {l : List Value} (h : l.all flat = true) : VRels E l l := VRels.of_all (fun v hv => flat_refl hv) h
theorem VRels.repl {E : Em} {zs zs' : List Value} (h : VRels E zs zs') : ∀ n, VRels E (repl zs n) (Go.Proofs.YtohnakjamlhhkaaGreatDoor.repl zs' n)
  | 0 => .nil
  | n + 1 => h.append (VRels.repl h n)
theorem VRels.mem {E : Em} : ∀ {l l' : List Value} {v' : Value}, VRels E l l' → v' ∈ l' → ∃ v ∈ l, VRel E v v'
  | _, _, v', .nil, h => by cases h
  | _, _, v', .cons x x' l l' hx ht, h => by
    rcases List.mem_cons.1 h with rfl | h
    · exact ⟨x, by simp, hx⟩
    · obtain ⟨v, h1, h2⟩ := VRels.mem ht h
      exact ⟨v, by simp [h1], h2⟩
/-- A new block knows what it holds. -/
theorem crel_of {E : Em} {cs cs' rest : List Value} (h : VRels E cs cs') (h1 : cs.all oneC = true) : CRel E 0 cs (cs' ++ rest).toArray := by
  intro i v hv
  obtain ⟨v', h2, h3⟩ := h.get hv
  refine ⟨(List.all_eq_true.1 h1) v (List.mem_of_getElem? hv), v', ?_, h3⟩
  have hlt := (List.getElem?_eq_some_iff.1 h2).1
  simp [List.getElem?_append_left hlt, h2]
theorem crel_of' {E : Em} {cs cs' : List Value} (h : VRels E cs cs') (h1 : cs.all oneC = true) : CRel E 0 cs cs'.toArray := by
  have := crel_of (rest := []) h h1
  simpa using this
section
variable {P : Program} {E : Em} {F : FT} {A : AH} {a : Act} {w : World} {out : Out}
theorem fill_size {place : Nat → Option (Nat × Nat)} : ∀ {l : List (Nat × Value)} {cs r : Array Value}, Instr.fill place cs l = some r → r.size = cs.size
  | [], cs, r, h => by cases h; rfl
  | (i, v) :: l, cs, r, h => by
    simp only [Instr.fill] at h
    split at h
    · cases h
    · split at h
      · cases h
      · rw [fill_size h]
        have e : ∀ (l : List (Value × Nat)) (c : Array Value) (off : Nat), (l.foldl (fun cs p => cs.setIfInBounds (off + p.2) p.1) c).size = c.size := fun l => by
          induction l with
          | nil => intro c off; rfl
          | cons x l ih => intro c off; rw [List.foldl_cons, ih]; simp
        rw [← Array.foldl_toList, e]
/-- A new row, and the pointer to it. -/
theorem Stp.row (hR : Rel E A w) {w' : World} {e t : TypeId} {cs cs' rest : List Value} (hw : w'.heap = w.heap.push (.cells (cs' ++ rest).toArray t (0, 0))) (hcs : VRels E cs cs') (h1 : cs.all oneC = true) (he : Env w w' := by exact ⟨rfl, rfl, rfl⟩) (het : e = 0 ∨ e = t := by exact .inr rfl) :
    Stp E A w (E.add A.next w.heap.size 0 (cs' ++ rest).toArray.size) ⟨A.heap.set (.row e cs none) A.next, A.next + 1⟩ w' :=
  Stp.new hR hw (hR.newRow hw (crel_of (VRels.mono (Em.le_new hR _) hcs) h1) het) he
theorem new_blk (n m : Nat) : (E.add A.next w.heap.size m n).blk A.next = some (w.heap.size, m) := by simp [Em.add]
theorem new_room (r n m : Nat) : (E.add r w.heap.size m n).room w.heap.size = n := by simp [Em.add]
theorem ok_alloc (hR : Rel E A w) {e : TypeId} (h : opAlloc P F A e = some out) :
    OutOK P E A w ((do pure (Next.value (← Instr.alloc e true (.tuple #[]))) : Sem Next).run P w) out := by
  unfold opAlloc at h
  split at h
  · rename_i z hz
    split at h
    · rename_i hc
      simp only [Bool.and_eq_true] at hc
      rw [AH.new_eq] at h
      cases h
      have hs := Stp.row (e := e) (t := e) (rest := []) (w' := w.alloc (.cells z.cells e)) hR (by simp; rfl) (flats_rel hc.2) hc.1
      refine ⟨_, .pointer (some ⟨w.heap.size, 0, none⟩), _, hs, .ptr _ 0 _ 0 (new_blk _ _), run_value ?_⟩
      simp [Instr.alloc, run_zero hz, newVar, newRow]
    · cases h
  · cases h
theorem ok_box (hR : Rel E A w) (hF : FRel E F a.tmps) {e : TypeId} {x : Operand} (h : opBox F A e x = some out) :
    OutOK P E A w ((do pure (Next.value (← Instr.box e (a.eval x))) : Sem Next).run P w) out := by
  unfold opBox at h
  split at h
  · rename_i v hx
    split at h
    · rename_i hc
      rw [AH.new_eq] at h
      cases h
      have hv := evC_rel hF (eval_some hx)
      have hk : known v = true := by
        cases hk : known v with
        | true => rfl
        | false => rw [known_false hk] at hc; cases hc
      have hs := Stp.row (e := e) (t := e) (rest := []) (w' := w.alloc (.cells (a.eval x).cells e)) hR (by simp; rfl) (known_cells hk hv) hc
      refine ⟨_, .pointer (some ⟨w.heap.size, 0, none⟩), _, hs, .ptr _ 0 _ 0 (new_blk _ _), run_value ?_⟩
      simp [Instr.box, newVar, newRow]
    · cases h
  · cases h
theorem ok_makeMap (hR : Rel E A w) {t : TypeId} (h : opMakeMap F A = some out) :
    OutOK P E A w ((do pure (Next.value (← Instr.makeMap t none)) : Sem Next).run P w) out := by
  unfold opMakeMap at h
  rw [AH.new_eq] at h
  cases h
  refine ⟨_, .map (some w.heap.size), w.alloc (.map #[] 0), Stp.new hR rfl (hR.newMap (clock := 0) rfl), .map _ _ (new_blk _ _), run_value ?_⟩
  simp [Instr.makeMap]
theorem wrap_i64 (n : Nat) (h : n ≤ 100000) : IntKind.i64.wrap (n : Int) = n := wrap_max .i64 n (by simp [maxK]; omega)
theorem zeroC_inv {e : TypeId} {zs : List Value} (h : zeroC P e = some zs) : ∃ i z, P.info? e = some i ∧ i.zero = some z ∧ zs = z.cells.toList ∧ zs.all oneC = true ∧ zs.all flat = true ∧ z.cells.size = i.size ∧ i.bytes ≤ 1000000 := by
  unfold zeroC at h
  split at h
  · rename_i i hi
    split at h
    · rename_i z hz
      split at h
      · rename_i hc
        simp only [Bool.and_eq_true] at hc
        cases h
        exact ⟨i, z, hi, hz, rfl, hc.1.1.1, hc.1.1.2, Nat.eq_of_beq_eq_true hc.1.2, Nat.le_of_ble_eq_true hc.2⟩
      · cases h
    · cases h
  · cases h
theorem repl_all {p : Value → Bool} {zs : List Value} (h : zs.all p = true) (n : Nat) : (repl zs n).all p = true :=
  List.all_eq_true.2 fun v hv => (List.all_eq_true.1 h) v (repl_mem hv)
theorem makeSlice_run {t e : TypeId} (hu : P.underlying t = some (.slice e)) {i : TypeInfo} (hi : P.info? e = some i) {z : Value} (hz : i.zero = some z) (hzs : z.cells.size = i.size) (hb : i.bytes ≤ 1000000) {j k : IntKind} {ln cn : Nat} (h1 : ln ≤ cn) (h2 : cn ≤ 100000) :
    (Instr.makeSlice t (.int j ln) (.int k cn)).run P w = .ok (.slice (some ⟨w.heap.size, 0, none⟩) ln cn) (w.alloc (.cells (repl z.cells.toList cn).toArray e)) := by
  have e1 := wrap_i64 ln (by omega)
  have e2 := wrap_i64 cn h2
  have hm : i.bytes * cn ≤ 100000000000 := by
    calc i.bytes * cn ≤ 1000000 * 100000 := Nat.mul_le_mul hb h2
      _ = 100000000000 := by decide
  have ht : ¬ ((281474976710656 : Int) < (i.bytes : Int) * (cn : Int)) := by
    rw [← Int.natCast_mul]; omega
  have hn : ¬ ((cn : Int) < 0) := by omega
  have hl : ¬ ((ln : Int) < 0) := by omega
  have hle : ¬ ((cn : Int) < (ln : Int)) := by omega
  have hsz := zeros_eq z.cells cn
  rw [hzs] at hsz
  by_cases h0 : cn * i.size = 0
  · have hr : repl z.cells.toList cn = [] := by
      apply List.eq_nil_of_length_eq_zero
      rw [repl_len]; simp [hzs, h0]
    simp [Instr.makeSlice, run_und hu, asInt, asIntOf, typeInfo, hi, e1, e2, ht, hn, hl, hle, sizeOf, h0, newRow, hr, range0]
  · simp [Instr.makeSlice, run_und hu, asInt, asIntOf, typeInfo, hi, e1, e2, ht, hn, hl, hle, sizeOf, h0, newRow, zeroValue, hz, hzs, hsz]
theorem ok_makeSlice (hR : Rel E A w) (hF : FRel E F a.tmps) {t : TypeId} {l c : Operand} (h : opMakeSlice P F A t l c = some out) :
    OutOK P E A w ((do pure (Next.value (← Instr.makeSlice t (a.eval l) (a.eval c))) : Sem Next).run P w) out := by
  unfold opMakeSlice at h
  split at h
  · rename_i lv cv e hl hc hu
    split at h
    · rename_i ln cn zs sz hln hcn hz hsz
      split at h
      · rename_i hb
        simp only [Bool.and_eq_true] at hb
        have h1 := Nat.le_of_ble_eq_true hb.1
        have h2 := Nat.le_of_ble_eq_true hb.2
        rw [AH.new_eq] at h
        cases h
        obtain ⟨i, z, hi, hzz, rfl, hone, hfl, hzs, hby⟩ := zeroC_inv hz
        obtain ⟨i', hi', hs'⟩ := sizeT_inv hsz
        rw [hi] at hi'; cases hi'
        obtain ⟨j, rfl⟩ := natV_inv hln
        obtain ⟨k, rfl⟩ := natV_inv hcn
        have hs := Stp.row (e := e) (t := e) (rest := []) (w' := w.alloc (.cells (repl z.cells.toList cn).toArray e)) hR (by simp; rfl) ((flats_rel hfl).repl cn) (repl_all hone cn)
        refine ⟨_, .slice (some ⟨w.heap.size, 0, none⟩) ln cn, _, hs, ?_, run_value ?_⟩
        · refine .slc _ 0 _ _ _ _ 0 _ (new_blk _ _) h1 (Nat.le_refl _) ?_
          rw [new_room]
          simp [repl_len, hzs, hs']
        · rw [int_inv (evC_rel hF (eval_some hl)), int_inv (evC_rel hF (eval_some hc))]
          exact makeSlice_run hu hi hzz hzs hby h1 h2
      · cases h
    · cases h
  · cases h
theorem ok_buildSlice (hR : Rel E A w) (hF : FRel E F a.tmps) {t : TypeId} {len : Nat} {ps : Array (Nat × Operand)} (h : opBuildSlice P F A t len ps = some out) :
    OutOK P E A w ((do pure (Next.value (← Instr.buildSlice t len (ps.map fun (i, x) => (i, a.eval x)))) : Sem Next).run P w) out := by
  unfold opBuildSlice at h
  split at h
  · rename_i vs e hvs hu
    split at h
    · rename_i sz z hsz hz
      split at h
      · rename_i cells hfill
        split at h
        · rename_i hc
          simp only [Bool.and_eq_true] at hc
          obtain ⟨⟨⟨⟨hk, hone⟩, hfl⟩, hzs⟩, hle⟩ := hc
          have hzs := Nat.eq_of_beq_eq_true hzs
          have hle := Nat.le_of_ble_eq_true hle
          rw [AH.new_eq] at h
          cases h
          obtain ⟨cells', h1, h2⟩ := fill_rel (E := E) _ (PRel.zip (evsC_rel hF hvs) hk) (cs' := (repl z.cells.toList len).toArray) (by simpa using (flats_rel hfl).repl len) hfill
          have hs := Stp.row (e := e) (t := e) (rest := []) (w' := w.alloc (.cells cells' e)) hR (by simp; rfl) h2 hone
          have hlen : cells'.size = len * sz := by
            have e1 := h2.length
            have e2 := fill_size hfill
            simp only [Array.length_toList, List.size_toArray, repl_len] at e1 e2
            rw [← e1, e2, hzs]
          refine ⟨_, .slice (some ⟨w.heap.size, 0, none⟩) len len, _, hs, ?_, run_value ?_⟩
          · refine .slc _ 0 _ _ _ _ 0 _ (new_blk _ _) (Nat.le_refl _) (Nat.le_refl _) ?_
            rw [new_room]
            simp [hlen]
          · rw [← parts_eq] at h1
            generalize (ps.map fun (i, x) => (i, a.eval x)) = q at h1 ⊢
            have hbig : ¬ (16777216 < len * sz) := by omega
            have hzero := zeros_eq z.cells len
            rw [hzs] at hzero
            by_cases h0 : len * sz = 0
            · have hr : repl z.cells.toList len = [] := by
                apply List.eq_nil_of_length_eq_zero
                rw [repl_len]; simp [hzs, h0]
              rw [hr] at h1
              simp [Instr.buildSlice, run_und hu, run_size hsz, hbig, h0, newRow, h1, range0]
            · simp [Instr.buildSlice, run_und hu, run_size hsz, hbig, h0, newRow, run_zero hz, hzs, hzero, h1]
        · cases h
      · cases h
    · cases h
  · cases h
end
end Go.Proofs.YtohnakjamlhhkaaGreatDoor
