/- Operations, one by one: the builtins. -/
import Derived.Test.YtohnakjamlhhkaaGreatDoorSo9
namespace Go.Proofs.YtohnakjamlhhkaaGreatDoor
open Go
set_option linter.unusedVariables false
set_option linter.unusedSimpArgs false

section
variable {P : Program} {E : Em} {F : FT} {A : AH} {a : Act} {w : World} {out : Out}
theorem lenOfA_run (hR : Rel E A w) {t : TypeId} {x x' : Value} (hx : VRel E x x') {n : Nat} (h : lenOfA P A t x = some n) (ts : Array TypeId) (ht : ts[0]? = some t) (ty : TypeId) (args : Array Value) (ha : args[0]? = some x') :
    (Builtin.len_ ts ty args).run P w = .ok (.int .i64 n) w := by
  unfold lenOfA at h
  split at h
  · rename_i s hu
    cases h
    rw [str_inv hx] at ha
    simp [Builtin.len_, ht, ha, run_und hu, goInt]
  · rename_i n' e hu
    cases h
    simp [Builtin.len_, ht, ha, run_und hu, goInt]
  · rename_i e q n' c hu
    cases h
    cases hx <;> simp [Builtin.len_, ht, ha, run_und hu, goInt]
  · rename_i k e hu
    cases h
    cases hx
    simp [Builtin.len_, ht, ha, run_und hu, goInt]
  · rename_i k e r hu
    split at h
    · rename_i es ho
      cases h
      obtain ⟨R, hb, rfl⟩ := map_inv hx
      obtain ⟨ents, clock, hw, hmr⟩ := hR.mapAt ho hb
      have hl : es.length = ents.size := by
        obtain ⟨⟨l, h1, h2⟩, _⟩ := hmr
        rw [h1.length, h2.length_eq]; simp
      simp [Builtin.len_, ht, ha, run_und hu, goInt, run_getObj hw, hl]
    · cases h
  · cases h
/-! ### The first cells of something -/
theorem firstA_run (hR : Rel E A w) {sz n : Nat} {x x' : Value} (hx : VRel E x x') {r : List Value} (h : firstA A sz n x = some r) {m : Nat} (hm : lenX x = some m) (hnm : n ≤ m) :
    ∃ r', VRels E r r' ∧ (∀ v ∈ r, oneC v = true) ∧ r.length = n * sz ∧ (∀ w', w'.heap = w.heap → (Builtin.firstCells sz n x').run P w' = .ok r'.toArray w') ∧ ∀ b p c, x' = .slice (some b) p c → ∀ j v, r'[j]? = some v → w.cell? (b.add j) = some v := by
  unfold firstA at h
  split at h
  · split at h
    · cases h
      cases hx
      exact ⟨[], .nil, by simp, by simp, fun w' _ => by simp [Builtin.firstCells], fun _ _ _ h => by cases h⟩
    · cases h
  · rename_i b n' c
    split at h
    · cases h
      have : ∃ q p, x' = .slice (some q) p c ∨ ∃ c', x' = .slice (some q) p c' := by
        cases hx with
        | slc bb o n c c' B s sz' hbl hn hc hr => exact ⟨_, _, .inr ⟨_, rfl⟩⟩
        | slc0 bb o sz' b' => exact ⟨_, _, .inl rfl⟩
      obtain ⟨q, p, hq⟩ := this
      refine ⟨[], .nil, by simp, by simp, fun w' _ => ?_, fun _ _ _ _ j v hv => by simp at hv⟩
      rcases hq with rfl | ⟨c', rfl⟩ <;> simp [Builtin.firstCells, loadCells, loadCellsFrom]
    · rename_i hn0
      split at h
      · rename_i e cs m ho
        cases hx with
        | slc bb o n1 c1 c' B s sz' hbl hn hc hr =>
          obtain ⟨r', h1, h2, h3, h4⟩ := hR.range ho hbl h
          refine ⟨r', h1, h3, by rw [← h2]; exact h1.length, fun w' hw' => ?_, fun b p c hq j v hv => by cases hq; rw [addr_add]; exact h4 j v hv⟩
          have hl := run_loadCells_list (P := P) w' ⟨B, o + s, none⟩ r' (fun j v hv => by
            rw [addr_add]
            have := h4 j v hv
            simpa [World.cell?, hw'] using this)
          rw [h2] at hl
          simpa [Builtin.firstCells] using hl
        | slc0 bb o sz' b' =>
          cases hm; exact absurd (Nat.le_zero.1 hnm) hn0
      · cases h
  · rename_i s
    split at h
    · cases h
      rw [str_inv hx]
      refine ⟨_, VRels.of_all (P := flat) (fun v hv => flat_refl hv) ?_, ?_, ?_, fun w' _ => ?_, fun _ _ _ h => by cases h⟩
      · refine List.all_eq_true.2 fun v hv => ?_
        obtain ⟨b, _, rfl⟩ := List.mem_map.1 hv
        rfl
      · intro v hv
        obtain ⟨b, _, rfl⟩ := List.mem_map.1 hv
        rfl
      · cases hm
        simp [ByteArray.size_data, Nat.min_eq_left hnm]
      · simp [Builtin.firstCells]
        apply Array.ext'; simp
    · cases h
  · cases h
/-! ### Append -/
theorem apT_inv {t : TypeId} (h : apT P t = true) : ∃ d, P.underlying t = some d ∧ ∀ k, d ≠ .int k := by
  unfold apT at h
  split at h
  · rename_i e hu; exact ⟨_, hu, fun k hk => by cases hk⟩
  · rename_i hu; exact ⟨_, hu, fun k hk => by cases hk⟩
  · cases h
theorem lenX_run {x x' : Value} (hx : VRel E x x') {m : Nat} (hm : lenX x = some m) : (Builtin.lenOf x').run P w = .ok m w := by
  unfold lenX at hm
  split at hm
  · cases hm
    cases hx <;> simp [Builtin.lenOf]
  · cases hm
    rw [str_inv hx]; simp [Builtin.lenOf]
  · cases hm
/-- The model's append, where there is room. -/
theorem append_room {st xt e : TypeId} (hst : P.underlying st = some (.slice e)) (hxt : apT P xt = true) {i : TypeInfo} (hi : P.info? e = some i)
    {base : Option Addr} {n c m : Nat} {x' : Value} (hlen : ∀ w, (Builtin.lenOf x').run P w = .ok m w) (ts : Array TypeId) (h0 : ts[0]? = some st) (h1 : ts[1]? = some xt) (ty : TypeId) (args : Array Value) (ha : args[0]? = some (.slice base n c)) (hb : args[1]? = some x')
    {new : List Value} (hnew : (Builtin.firstCells i.size m x').run P w = .ok new.toArray w) (hc : n + m ≤ c) :
    (Builtin.append_ ts ty args).run P w = ((do (match base with | some b => storeCells (b.add (n * i.size)) new | none => pure ()); pure (.slice base (n + m) c)) : Sem Value).run P w := by
  obtain ⟨d, hd, hdi⟩ := apT_inv hxt
  have hzeros : (match d with | .int _ => true | _ => false) = false := by
    cases d <;> first | rfl | exact absurd rfl (hdi _)
  simp [Builtin.append_, h0, h1, ha, hb, run_und hst, run_und hd, sizeOf, typeInfo, hi, hlen, hc, hnew, hzeros]
  cases base <;> simp
/-- The model's append, where there is none. -/
theorem append_grow {st xt e : TypeId} (hst : P.underlying st = some (.slice e)) (hxt : apT P xt = true) {i : TypeInfo} (hi : P.info? e = some i) {z : Value} (hz : i.zero = some z)
    {base : Option Addr} {n c m : Nat} {x' : Value} (hlen : ∀ w, (Builtin.lenOf x').run P w = .ok m w) (ts : Array TypeId) (h0 : ts[0]? = some st) (h1 : ts[1]? = some xt) (ty : TypeId) (args : Array Value) (ha : args[0]? = some (.slice base n c)) (hb : args[1]? = some x')
    (hsm : n + m ≤ 1000000) (hby : i.bytes ≤ 1000000) {new old : List Value} (hnew : (Builtin.firstCells i.size m x').run P w.drew = .ok new.toArray w.drew)
    (hold : (Builtin.firstCells i.size n (.slice base n c)).run P w.drew = .ok old.toArray w.drew) (hc : ¬ n + m ≤ c) :
    (Builtin.append_ ts ty args).run P w = .ok (.slice (some ⟨w.heap.size, 0, none⟩) (n + m) (grownCap w (n + m) c e)) (w.drew.alloc (.cells ((old ++ new) ++ (repl z.cells.toList (grownCap w (n + m) c e - (n + m)))).toArray e)) := by
  obtain ⟨d, hd, hdi⟩ := apT_inv hxt
  have hzeros : (match d with | .int _ => true | _ => false) = false := by
    cases d <;> first | rfl | exact absurd rfl (hdi _)
  have h63 : ¬ (9223372036854775807 < ((n : Int) + (m : Int))) := by omega
  have hfit : Builtin.nextslicecap (n + m) c * i.bytes ≤ 281474976710656 := growslice_fits (by omega) (by
    calc (n + m) * i.bytes ≤ 1000000 * 1000000 := Nat.mul_le_mul hsm hby
      _ ≤ 140737488355328 := by decide)
  have h48 : ¬ (281474976710656 < Builtin.nextslicecap (n + m) c * i.bytes) := by omega
  simp [Builtin.append_, h0, h1, ha, hb, run_und hst, run_und hd, sizeOf, typeInfo, hi, hlen, hc, hzeros, h63, h48, Question.forced, hold, hnew, newRow, zeroValue, hz, grownCap, zeroCells_eq]
theorem grown_ge (w : World) (need old : Nat) (e : TypeId) : need ≤ grownCap w need old e := grownCap_ge w need old e
theorem sameT_new (e e' : TypeId) (o : Nat) : sameT e e' o = 0 ∨ sameT e e' o = e := by
  unfold sameT; split
  · exact .inr rfl
  · exact .inl rfl
theorem sameT_old (e e' : TypeId) (o : Nat) : sameT e e' o = 0 ∨ (sameT e e' o = e ∧ e = e' ∧ o = 0) := by
  unfold sameT; split
  · rename_i h
    simp only [Bool.and_eq_true] at h
    exact .inr ⟨rfl, Nat.eq_of_beq_eq_true h.1, Nat.eq_of_beq_eq_true h.2⟩
  · exact .inl rfl
theorem append_run (hR : Rel E A w) {st xt : TypeId} {s s' x x' : Value} (hs : VRel E s s') (hx : VRel E x x') {v : Value} {A' : AH} (h : appendA P A st xt s x = some (v, A'))
    (ts : Array TypeId) (h0 : ts[0]? = some st) (h1 : ts[1]? = some xt) (ty : TypeId) (args : Array Value) (ha : args[0]? = some s') (hb : args[1]? = some x') :
    ∃ E' v' w', Stp E A w E' A' w' ∧ VRel E' v v' ∧ (Builtin.append_ ts ty args).run P w = .ok v' w' := by
  unfold appendA at h
  split at h <;> first | (cases h; done) | skip
  rename_i e base n c hst hxt
  split at h <;> first | (cases h; done) | skip
  rename_i i m hi hm
  split at h <;> first | (cases h; done) | skip
  rename_i old new hold hnew
  have hlen : ∀ w, (Builtin.lenOf x').run P w = .ok m w := fun w => lenX_run hx hm
  obtain ⟨new', n1, n2, n3, n4, _⟩ := firstA_run (P := P) hR hx hnew hm (Nat.le_refl _)
  obtain ⟨old', o1, o2, o3, o4, oldc⟩ := firstA_run (P := P) hR hs hold rfl (Nat.le_refl _)
  split at h <;> first | (cases h; done) | skip
  · -- nothing is appended
    cases h
    have hnew0 : new' = [] := by
      have : new = [] := by simpa using n3
      subst this; cases n1; rfl
    subst hnew0
    refine ⟨E, s', w, .refl hR, hs, ?_⟩
    have key : ∀ b n c, s' = .slice b n c → n ≤ c → (Builtin.append_ ts ty args).run P w = .ok s' w := fun b n c hq hle => by
      rw [append_room hst hxt hi hlen ts h0 h1 ty args (by rw [ha, hq]) hb (n4 w rfl) (by omega), hq]
      cases b <;> simp [storeCells]
    cases hs with
    | slcNil => exact key _ _ _ rfl (Nat.le_refl _)
    | slc0 => exact key _ _ _ rfl (Nat.le_refl _)
    | slc bb o n c c' B s sz' hbl hn hc hr => exact key _ _ _ rfl (Nat.le_trans hn hc)
  · rename_i m z hz
    split at h <;> first | (cases h; done) | skip
    rename_i hchk
    simp only [Bool.and_eq_true] at hchk
    have hzs := Nat.eq_of_beq_eq_true hchk.1.1
    have hsm := Nat.le_of_ble_eq_true hchk.1.2
    have hby := Nat.le_of_ble_eq_true hchk.2
    have hone : (old ++ new).all oneC = true := by
      rw [List.all_append, Bool.and_eq_true]
      exact ⟨List.all_eq_true.2 o2, List.all_eq_true.2 n2⟩
    have hroom : ∀ g, n + (m + 1) ≤ g → ((old' ++ new') ++ repl z.cells.toList (g - (n + (m + 1)))).toArray.size = g * i.size := fun g hg => by
      have l1 := o1.length; have l2 := n1.length
      simp only [List.size_toArray, List.length_append, repl_len, Array.length_toList]
      rw [← l1, ← l2, o3, n3, hzs, ← Nat.add_mul, ← Nat.add_mul]
      congr 1; omega
    split at h
    · -- there is no row yet
      rw [AH.new_eq] at h
      cases h
      cases hs
      have hold0 : old = [] := by simpa using o3
      subst hold0
      cases o1
      have hrun := append_grow (w := w) hst hxt hi hz hlen ts h0 h1 ty args ha hb hsm hby (n4 w.drew rfl) (o4 w.drew rfl) (by omega)
      have hst2 := Stp.row (e := e) (t := e) (w' := w.drew.alloc (.cells (([] ++ new') ++ (repl z.cells.toList (grownCap w (0 + (m + 1)) 0 e - (0 + (m + 1))))).toArray e)) (rest := repl z.cells.toList (grownCap w (0 + (m + 1)) 0 e - (0 + (m + 1)))) hR rfl (VRels.append (.nil) n1) hone
      refine ⟨_, _, _, hst2, ?_, hrun⟩
      refine .slc _ 0 _ _ _ _ 0 _ (new_blk _ _) (Nat.le_refl _) (grown_ge _ _ _ _) ?_
      rw [new_room, hroom _ (grown_ge _ _ _ _)]
      simp
    · rename_i b
      split at h <;> first | (cases h; done) | skip
      rename_i e' cs mt ho hsp
      simp only [AH.new_eq] at h
      have hspot : b.spot = some i.size := spotIs_eq (b := b) (by simpa [spotIs] using hsp)
      have hput : ∀ x o', ((unmate A mt).put b.block (.row e' (cs.take (b.off + n * i.size)) (some (unmate A mt).next))).obj x = some o' → (x = b.block ∧ o' = .row e' (cs.take (b.off + n * i.size)) (some A.next)) ∨ (x ≠ b.block ∧ some x ≠ mt ∧ A.obj x = some o') ∨ (x ≠ b.block ∧ some x = mt ∧ o' = .dead) := fun x o' hx => by
        have := AH.put_wrote hx
        rwa [AH.next_unmate] at this
      have hnx : ((unmate A mt).put b.block (.row e' (cs.take (b.off + n * i.size)) (some (unmate A mt).next))).next = A.next := by rw [AH.next_put, AH.next_unmate]
      generalize (unmate A mt).put b.block (.row e' (cs.take (b.off + n * i.size)) (some (unmate A mt).next)) = A1 at h hput hnx
      obtain ⟨B, sh, carr, hbl, hrow, hsize, hcs⟩ := hR.row b.block e' cs mt ho
      -- the old row is cut
      have cut : ∀ {w' : World} {c' : Array Value}, w'.heap.size = w.heap.size → Row w' B c' → c'.size = E.room B → (∀ k, k ≠ B → w'.heap[k]? = w.heap[k]?) → (∀ j, j < b.off + n * i.size + sh → c'[j]? = carr[j]?) → (∀ c t fr, w.heap[B]? = some (.cells c t fr) → ∃ c' fr', w'.heap[B]? = some (.cells c' t fr')) → Env w w' → Stp E A w E A1 w' := fun hsz hw hc hoth hsame htt henv => by
        refine Stp.wrote hR ho hbl hsz hw hc hoth ?_ hnx (fun x o' hx => hput x o' hx) rfl htt henv (cs' := cs.take (b.off + n * i.size)) (e' := e') (m' := some A.next)
        intro j u hu
        rw [List.getElem?_take] at hu
        split at hu
        · rename_i hj
          obtain ⟨g0, v', g1, g2⟩ := hcs j u hu
          exact ⟨g0, v', by rw [hsame _ (by omega)]; exact g1, g2⟩
        · cases hu
      have grow : ∀ base' c', s' = .slice base' n c' → ¬ n + (m + 1) ≤ c' →
          ∃ E' v' w', Stp E A w E' ⟨A1.heap.set (.row (sameT e e' b.off) (old ++ new) (some b.block)) A.next, A.next + 1⟩ w' ∧ VRel E' (.slice (some ⟨A.next, 0, some i.size⟩) (n + (m + 1)) (n + (m + 1))) v' ∧ (Builtin.append_ ts ty args).run P w = .ok v' w' := fun base' c' hq hno => by
        have hrun := append_grow (w := w) hst hxt hi hz hlen ts h0 h1 ty args (by rw [ha, hq]) hb hsm hby (n4 w.drew rfl) (by rw [← hq]; exact o4 w.drew rfl) hno
        have hrm := hroom _ (grown_ge w (n + (m + 1)) c' e)
        generalize hrest : repl z.cells.toList (grownCap w (n + (m + 1)) c' e - (n + (m + 1))) = rest at hrun hrm
        have s1 := cut (w' := w) (c' := carr) rfl hrow hsize (fun _ _ => rfl) (fun _ _ => rfl) (fun c t fr q => ⟨c, fr, q⟩) (.refl w)
        have hR1 := s1.rel
        have s2 := Stp.new (o := .row (sameT e e' b.off) (old ++ new) (some b.block)) hR1 (w' := w.drew.alloc (.cells ((old' ++ new') ++ rest).toArray e)) (ob := .cells ((old' ++ new') ++ rest).toArray e) rfl
          (hR1.newRow rfl (crel_of (VRels.mono (Em.le_new hR1 _) (o1.append n1)) hone) (sameT_new _ _ _))
        rw [hnx] at s2
        refine ⟨_, _, _, s1.trans s2, ?_, hrun⟩
        refine .slc _ 0 _ _ _ _ 0 _ (new_blk _ _) (Nat.le_refl _) (grown_ge _ _ _ _) ?_
        rw [new_room, hrm]
        simp
      rw [hnx] at h
      cases h
      cases hs with
      | slc0 bb o sz' b' => exact grow _ _ rfl (by omega)
      | slc bb o n c c' B2 s sz' hbl2 hn hc hr =>
        by_cases hfit : n + (m + 1) ≤ c'
        · -- there is room
          rw [hbl] at hbl2
          cases hbl2
          cases hspot
          simp only at hcs cut hput ho
          have hrun := append_room (w := w) hst hxt hi hlen ts h0 h1 ty args ha hb (n4 w rfl) hfit
          have hl2 := n1.length
          have hcap : (n + (m + 1)) * i.size ≤ c' * i.size := Nat.mul_le_mul_right _ hfit
          rw [Nat.add_mul] at hcap
          obtain ⟨c2, f1, f2, f3⟩ := Row.storeCells P B (o + sh + n * i.size) new' 0 carr w hrow (by rw [hsize, ← hl2, n3]; show _ + 0 + (m + 1) * i.size ≤ _; omega) (VRels.one n1 n2)
          simp only [Nat.add_zero] at f3
          have s1 := cut (w' := w.setRow B c2) (c' := c2) (size_setRow _ _ _) (hrow.set c2 f2) (by rw [f2]; exact hsize) (fun k hk => setRow_other w B k c2 hk) (fun j hj => by
            rw [f3, if_neg (by omega)]) (fun c0 t fr h0 => ⟨_, _, setRow_heap w B c0 c2 t fr h0⟩) ⟨rfl, rfl, rfl⟩
          have hR1 := s1.rel
          have hfr : E.blk A.next = none := hR.fresh _ (Nat.le_refl _)
          have hle : E.le (E.add A.next B (o + sh) (E.room B)) := Em.le_add hfr (.inr rfl)
          have hnew2 : (E.add A.next B (o + sh) (E.room B)).blk A.next = some (B, o + sh) := by simp [Em.add]
          have hroom2 : (E.add A.next B (o + sh) (E.room B)).room B = E.room B := by simp [Em.add]
          have hother : ∀ x, x ≠ A.next → (E.add A.next B (o + sh) (E.room B)).blk x = E.blk x := fun x hx => by simp [Em.add, hx]
          generalize E.add A.next B (o + sh) (E.room B) = E2 at hle hnew2 hroom2 hother
          have hobj : ∀ x o', (AH.mk (A1.heap.set (.row (sameT e e' o) (old ++ new) (some bb)) A.next) (A.next + 1)).obj x = some o' →
              (x = A.next ∧ o' = .row (sameT e e' o) (old ++ new) (some bb)) ∨ (x ≠ A.next ∧ A1.obj x = some o') := fun x o' hx => by
            have := AH.obj_new (A := A1) (o := .row (sameT e e' o) (old ++ new) (some bb)) (x := x) (o' := o') (by rw [hnx]; exact hx)
            rwa [hnx] at this
          have hcr : CRel E2 (o + sh) (old ++ new) c2 := by
            intro j u hu
            have hone' := (List.all_eq_true.1 hone) u (List.mem_of_getElem? hu)
            refine ⟨hone', ?_⟩
            rcases Nat.lt_or_ge j old.length with hj | hj
            · rw [List.getElem?_append_left hj] at hu
              obtain ⟨v', g1, g2⟩ := o1.get hu
              refine ⟨v', ?_, g2.mono hle⟩
              rw [f3, if_neg (by rw [o3] at hj; omega)]
              have hcell := oldc _ _ _ rfl j v' g1
              rw [addr_add, hrow.cell] at hcell
              rw [show j + (o + sh) = o + sh + j by omega]; exact hcell
            · rw [List.getElem?_append_right hj] at hu
              obtain ⟨v', g1, g2⟩ := n1.get hu
              refine ⟨v', ?_, g2.mono hle⟩
              have hlt := (List.getElem?_eq_some_iff.1 g1).1
              rw [f3, if_pos (by rw [o3] at hj hlt; omega), ← g1]
              congr 1
              rw [o3] at hj ⊢; omega
          have hR2 : Rel E2 (AH.mk (A1.heap.set (.row (sameT e e' o) (old ++ new) (some bb)) A.next) (A.next + 1)) (w.setRow B c2) := by
            refine hR1.add hle (B := B) (s := o + sh) (by rw [hnx]; exact hnew2) (fun x hx => hother x (by rw [hnx] at hx; exact hx)) (Nat.le_refl _) (by rw [size_setRow]; exact hrow.lt) (fun _ _ => rfl) (by rw [hnx]) (o := .row (sameT e e' o) (old ++ new) (some bb)) (fun x o' hx => by rw [hnx]; exact hobj x o' hx) ?_
            refine ⟨⟨c2, hrow.set c2 f2, by rw [f2, hroom2]; exact hsize, hcr⟩, ?_, fun x e1 cs1 m1 s1' hx hX => ?_⟩
            · rcases sameT_old e e' o with q | ⟨q, rfl, rfl⟩
              · exact .inl q
              · rcases hR.typ _ _ _ _ ho with q2 | ⟨X, c0, fr, g1, g2⟩
                · exact .inl (q.trans q2)
                · simp only at hbl
                  rw [hbl] at g1
                  cases g1
                  exact .inr ⟨rfl, c2, fr, by rw [q]; exact setRow_heap w B c0 c2 _ fr g2⟩
            rw [hnx]
            rcases hput x _ hx with ⟨rfl, hq⟩ | ⟨hxb, hxm, hxo⟩ | ⟨_, _, hq⟩
            · cases hq; exact ⟨rfl, rfl⟩
            · exact absurd (hR.apart bb x _ _ _ _ _ _ _ _ _ (Ne.symm hxb) ho hxo hbl hX).symm hxm
            · cases hq
          refine ⟨E2, .slice (some ⟨B, o + sh, none⟩) (n + (m + 1)) c', w.setRow B c2, ⟨hle, hR2, by rw [size_setRow]; exact Nat.le_refl _, Nat.le_succ _, fun x hx => hother x (by omega), fun X hX hno => ?_, ⟨rfl, rfl, rfl⟩⟩, ?_, ?_⟩
          · obtain ⟨q6, q7⟩ := s1.frame X hX hno
            refine ⟨q6, ?_⟩
            rintro ⟨x, o', s', q1, q2, q3⟩
            rcases hobj x o' q1 with ⟨rfl, rfl⟩ | ⟨q4, q5⟩
            · rw [hnew2] at q3; cases q3
              exact hno ⟨bb, _, sh, ho, by simp, hbl⟩
            · rw [hother x q4] at q3
              exact q7 ⟨x, o', s', q5, q2, q3⟩
          · have := VRel.slc (E := E2) A.next 0 (n + (m + 1)) (n + (m + 1)) c' B (o + sh) i.size hnew2 (Nat.le_refl _) hfit (by rw [hroom2]; omega)
            rw [Nat.zero_add] at this
            exact this
          · rw [hrun]
            simp only [Sem.run_bind, addr_add, f1, Result.andThen_ok, Sem.run_pure]
        · exact grow _ _ rfl hfit
end
end Go.Proofs.YtohnakjamlhhkaaGreatDoor
