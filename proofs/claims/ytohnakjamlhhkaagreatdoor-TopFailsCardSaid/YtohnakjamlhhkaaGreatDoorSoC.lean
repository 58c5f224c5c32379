/- Operations: conversions, iterators, calls; all of them. -/
import Derived.Test.YtohnakjamlhhkaaGreatDoorSoB
import Derived.Laws.BytesString
namespace Go.Proofs.YtohnakjamlhhkaaGreatDoor
open Go
set_option linter.unusedVariables false
set_option linter.unusedSimpArgs false

section
variable {P : Program} {E : Em} {F : FT} {A : AH} {a : Act} {w : World} {out : Out}
/-! ### Conversions -/
theorem push_all (g : Int → UInt8) : ∀ (ns : List Int) (s : ByteArray), (ns.foldl (fun r n => r.push (g n)) s).data.toList = s.data.toList ++ ns.map g
  | [], s => by simp
  | n :: ns, s => by
    rw [List.foldl_cons, push_all g ns]
    simp
theorem bytesOfA_inv : ∀ {r : List Value} {bs : List UInt8}, bytesOfA r = some bs → ∃ ns : List Int, r = ns.map (Value.int .u8) ∧ bs = ns.map fun n => UInt8.ofNat n.toNat
  | [], bs, h => by cases h; exact ⟨[], rfl, rfl⟩
  | v :: r, bs, h => by
    unfold bytesOfA at h
    split at h
    · rename_i hq; cases hq
    · rename_i n r' hq
      cases hq
      split at h
      · rename_i bs' hbs
        cases h
        obtain ⟨ns, rfl, rfl⟩ := bytesOfA_inv hbs
        exact ⟨n :: ns, rfl, rfl⟩
      · cases h
    · cases h
theorem ints_rel {ns : List Int} {r' : List Value} (h : VRels E (ns.map (Value.int .u8)) r') : r' = ns.map (Value.int .u8) := by
  induction ns generalizing r' with
  | nil => cases h; rfl
  | cons n ns ih =>
    cases h with
    | cons _ v' _ l' hv ht =>
      rw [int_inv hv, ih ht]; rfl
theorem fold_bytes (ns : List Int) : ns.foldl (fun r n => r.push (UInt8.ofNat n.toNat)) ByteArray.empty = ⟨(ns.map fun n => UInt8.ofNat n.toNat).toArray⟩ := by
  have := push_all (fun n => UInt8.ofNat n.toNat) ns ByteArray.empty
  generalize (ns.foldl (fun r n => r.push (UInt8.ofNat n.toNat)) ByteArray.empty) = q at this
  cases q with | mk q =>
  congr 1
  apply Array.ext'
  simp only [ByteArray.empty, ByteArray.emptyWithCapacity] at this
  rw [this]
  simp
  rfl
theorem heap_push_modify (h : Array Obj) (o : Obj) (f : Obj → Obj) : (h.push o).modify h.size f = h.push (f o) := by
  apply Array.ext
  · simp
  · intro i h1 h2
    rw [Array.getElem_modify]
    simp only [Array.getElem_push]
    by_cases hi : i < h.size
    · simp [hi, Nat.ne_of_gt hi]
    · have : h.size = i := by simp at h1; omega
      simp [this]
theorem conv_text (hR : Rel E A w) {src dst e : TypeId} {c : Option Addr} {n q : Nat} {x' : Value} {r : List Value} (hs : P.underlying src = some (.slice e)) (hd : P.underlying dst = some .string) (he : P.underlying e = some (.int .u8))
    (hx : VRel E (.slice c n q) x') (hr : firstA A 1 n (.slice c n n) = some r) (ns : List Int) (hall : ∀ r', VRels E r r' → r' = ns.map (Value.int .u8)) {v : Value} (hv : VRel E v (.string ⟨(ns.map fun n => UInt8.ofNat n.toNat).toArray⟩)) :
    OutOK P E A w ((do pure (Next.value (← convert src dst x')) : Sem Next).run P w) (.val v A) := by
  have fin : ∀ a' l c', x' = .slice (some a') l c' → (loadCells a' l).run P w = .ok (ns.map (Value.int .u8)).toArray w → OutOK P E A w ((do pure (Next.value (← convert src dst x')) : Sem Next).run P w) (.val v A) := fun a' l c' hq hl => by
    refine .same hR hv (run_value ?_)
    rw [hq, run_convert_bytes_string w src dst e _ _ _ hs he hd, run_bytesToString w a' l c' ns hl, fold_bytes]
  have nil : ns = [] → x' = .slice none 0 0 → OutOK P E A w ((do pure (Next.value (← convert src dst x')) : Sem Next).run P w) (.val v A) := fun hn hq => by
    subst hn
    refine .same hR hv (run_value ?_)
    rw [hq, run_convert_bytes_string w src dst e _ _ _ hs he hd]
    simp [Conv.bytesToString]
    rfl
  cases hx with
  | slcNil =>
    refine nil ?_ rfl
    have h2 : some ([] : List Value) = some r := hr
    have h3 : r = [] := by simpa using h2.symm
    subst h3
    simpa using (hall [] .nil).symm
  | slc0 bb o sz' b' =>
    refine fin _ _ _ rfl ?_
    have h2 : some ([] : List Value) = some r := hr
    have h3 : r = [] := by simpa using h2.symm
    subst h3
    rw [← hall [] .nil]; rfl
  | slc bb o nn c1 c' B s2 sz' hbl hn hc hrm =>
    obtain ⟨r', n1, n2, n3, n4, n5⟩ := firstA_run (P := P) hR (VRel.slc (E := E) bb o n n c' B s2 sz' hbl (Nat.le_refl _) (Nat.le_trans hn hc) hrm) hr rfl (Nat.le_refl _)
    have := hall r' n1
    subst this
    refine fin _ _ _ rfl ?_
    have h4 := n4 w rfl
    simpa [Builtin.firstCells] using h4
theorem convA_run (hR : Rel E A w) {src dst : TypeId} {x x' : Value} (hx : VRel E x x') (h : convA P A src dst x = some out) :
    OutOK P E A w ((do pure (Next.value (← convert src dst x')) : Sem Next).run P w) out := by
  unfold convA at h
  split at h
  · rename_i e c n q hs hd
    split at h <;> first | (cases h; done) | skip
    rename_i he
    split at h <;> first | (cases h; done) | skip
    rename_i r hr
    split at h
    · rename_i bs hbs
      cases h
      obtain ⟨ns, rfl, rfl⟩ := bytesOfA_inv hbs
      exact conv_text hR hs hd he hx hr ns (fun _ h => ints_rel h) (.string _)
    · split at h <;> first | (cases h; done) | skip
      rename_i k hk
      cases h
      obtain ⟨ns, h1, h2⟩ := E.opq.text r k hk
      exact conv_text hR hs hd he hx hr ns (fun _ h => by rw [h.subs (strK_plain hk), h1]) (by rw [show (Value.string ⟨(ns.map fun n => UInt8.ofNat n.toNat).toArray⟩) = E.val k from h2.symm]; exact .opq k)
  · rename_i e s hs hd
    split at h <;> first | (cases h; done) | skip
    rename_i he
    rw [AH.new_eq] at h
    cases h
    rw [str_inv hx]
    let cap := grownCap w s.size 0 e
    have hge : s.size ≤ cap := grownCap_ge w s.size 0 e
    let cells : Array Value := (s.data.map fun b => Value.int .u8 b.toNat) ++ Array.replicate (cap - s.size) (Value.int .u8 0)
    have hsz : cells.size = cap := by simp [cells]; omega
    let w' : World := (w.drew.alloc (.cells cells e)).freeze ⟨w.heap.size, cells.size, none⟩ 1
    have hheap : w'.heap = w.heap.push (.cells cells e (cells.size, cells.size + 1)) := by
      simp only [w', World.freeze, if_neg (show ¬ (1 = 0) by decide)]
      show ((w.heap.push (.cells cells e)).modify w.heap.size _) = _
      rw [heap_push_modify]
      simp
    have henv : Env w w' := by
      simp only [w', World.freeze, if_neg (show ¬ (1 = 0) by decide)]
      exact ⟨rfl, rfl, rfl⟩
    have hcs : (s.data.toList.map fun b => Value.int .u8 (b.toNat : Int)).all oneC = true := List.all_eq_true.2 fun v hv => by
      obtain ⟨b, _, rfl⟩ := List.mem_map.1 hv
      rfl
    have hrel : ∀ E', VRels E' (s.data.toList.map fun b => Value.int .u8 (b.toNat : Int)) (s.data.toList.map fun b => Value.int .u8 (b.toNat : Int)) := fun E' => VRels.of_all (P := flat) (fun v hv => flat_refl hv) (List.all_eq_true.2 fun v hv => by
      obtain ⟨b, _, rfl⟩ := List.mem_map.1 hv
      rfl)
    have hce : cells = ((s.data.toList.map fun b => Value.int .u8 (b.toNat : Int)) ++ List.replicate (cap - s.size) (Value.int .u8 0)).toArray := by
      apply Array.ext'; simp [cells]
    have hr := hR.newRowF (e := e) (m := none) hheap (fun i hi => by simp; omega) (cs := s.data.toList.map fun b => Value.int .u8 (b.toNat : Int)) (by rw [hce]; exact crel_of (hrel _) hcs) (.inr rfl)
    refine ⟨_, .slice (some ⟨w.heap.size, 0, none⟩) s.size cap, w', Stp.new hR hheap hr henv, ?_, run_value ?_⟩
    · refine .slc _ 0 _ _ _ _ 0 _ (new_blk _ _) (Nat.le_refl _) hge ?_
      rw [new_room, hsz]; omega
    · have hnew : (newRow e cells).run P w.drew = .ok ⟨w.heap.size, 0, none⟩ (w.drew.alloc (.cells cells e)) := rfl
      have hsh : (w.drew.alloc (.cells cells e)).shape? w.heap.size = some (e, cells.size) := by
        have := heap_alloc_new w.drew (.cells cells e)
        simp only [World.shape?]
        rw [show w.heap.size = w.drew.heap.size from rfl, this]
      have hm : (markStringish ⟨w.heap.size, 0, none⟩).run P (w.drew.alloc (.cells cells e)) = .ok () w' := by
        simp only [markStringish, Sem.run_bind, run_shape, hsh, Result.andThen_ok, run_freeze]
        rfl
      have hch : (choose (.appendCap s.size 0 e)).run P w = .ok cap w.drew := by simp [Question.forced, cap, grownCap]
      have hconv : (convert src dst (.string s)).run P w = (Conv.stringToBytes e s).run P w := by simp [convert, run_und hs, run_und hd, run_und he]
      rw [hconv]
      simp only [Conv.stringToBytes, Sem.run_bind, hch, Result.andThen_ok]
      show ((newRow e cells).run P w.drew).andThen _ = _
      simp only [hnew, Result.andThen_ok, hm, Sem.run_pure]
  · rename_i k hs hd
    split at h <;> first | (cases h; done) | skip
    rename_i hb
    cases h
    simp only [Bool.and_eq_true] at hb
    have h1 := Nat.le_of_ble_eq_true hb.1
    have h2 := Nat.le_of_ble_eq_true hb.2
    obtain ⟨n, e1, e2, _⟩ := E.opq.low (k - 14) (by omega)
    rw [show 14 + (k - 14) = k by omega] at e1
    rw [show 9 + (k - 14) = Nat.sub k 5 by show _ = k - 5; omega] at e2
    cases hx
    rw [e1]
    refine .same hR (v' := .int .u8 (n % 256 : Nat)) (by rw [← e2]; exact .opq _) (run_value ?_)
    simp [convert, run_und hs, run_und hd, Conv.intToInt, IntKind.wrap, IntKind.bits, IntKind.signed]
  · split at h
    · rename_i hf
      obtain ⟨r, hr, hfr, rfl⟩ := flatR_inv h
      rw [flat_eq hf hx]
      exact .same hR (flat_refl hfr) (peval_value hr)
    · cases h
/-! ### Iterators -/
theorem ok_range (hR : Rel E A w) (hF : FRel E F a.tmps) {t : TypeId} {x : Operand} (h : opRange P F A t x = some out) :
    OutOK P E A w ((do pure (Next.value (← Instr.range t (a.eval x))) : Sem Next).run P w) out := by
  unfold opRange at h
  split at h <;> first | (cases h; done) | skip
  rename_i m kt hx hm
  split at h <;> first | (cases h; done) | skip
  rename_i ho
  rw [AH.new_eq] at h
  cases h
  obtain ⟨k, e⟩ := kt
  have hu := mapK_inv hm
  obtain ⟨R, hb, e1⟩ := map_inv (evC_rel hF (eval_some hx))
  obtain ⟨ents, clock, hw, hmr⟩ := hR.mapAt ho hb
  refine ⟨_, .pointer (some ⟨w.heap.size, 0, none⟩), w.alloc (.mapIter (some R) clock #[] clock), Stp.new hR rfl (hR.newIter hb rfl), .ptr _ 0 _ 0 (new_blk _ _), run_value ?_⟩
  simp [Instr.range, run_und hu, e1, run_getObj hw]
theorem ok_next (hR : Rel E A w) (hF : FRel E F a.tmps) {x : Operand} {ty : TypeId} (h : opNext F A x = some out) :
    OutOK P E A w ((do pure (Next.value (← Instr.next (a.eval x) false ty)) : Sem Next).run P w) out := by
  unfold opNext at h
  split at h <;> first | (cases h; done) | skip
  rename_i b hx
  split at h <;> first | (cases h; done) | skip
  rename_i m ho
  split at h <;> first | (cases h; done) | skip
  rename_i hm
  cases h
  obtain ⟨B, M, since, seen, last, h1, h2, h3⟩ := hR.iter b m ho
  obtain ⟨ents, clock, hw, hmr⟩ := hR.mapAt hm h2
  have hv := evC_rel hF (eval_some hx)
  obtain ⟨B', s, _, h4, h5⟩ := hv.ptr_inv
  rw [h1] at h4; cases h4
  have he : ents = #[] := by
    obtain ⟨⟨l, g1, g2⟩, _⟩ := hmr
    cases g1
    have := g2.length_eq
    exact Array.eq_empty_of_size_eq_zero (by simpa using this.symm)
  subst he
  refine .same hR (.tuple _ _ (.cons _ _ _ _ (.bool _) .nil)) (run_value ?_)
  simp [Instr.next, h5, run_getObj h3, run_getObj hw, Question.forced]
/-! ### Calls -/
theorem builtinA_run (hR : Rel E A w) {b : Builtin} {ts : Array TypeId} {ty : TypeId} {cs : List Bool} {consts : Array Bool} {args args' : List Value} (ha : VRels E args args') (h : builtinA P A b ts.toList ty cs args = some out) :
    OutOK P E A w ((builtin b ts ty consts args'.toArray).run P w) out := by
  unfold builtinA at h
  split at h
  · rename_i t ts' x hts
    split at h <;> first | (cases h; done) | skip
    rename_i n hn
    cases h
    cases ha with
    | cons _ x' _ _ hx ht =>
      cases ht
      have h0 : ts[0]? = some t := by rw [← Array.getElem?_toList, hts]; rfl
      refine .same hR (.int _ _) ?_
      exact run_value (lenOfA_run hR hx hn ts h0 ty _ (by simp))
  · rename_i t u ts' s x hts
    split at h <;> first | (cases h; done) | skip
    rename_i v A' hap
    cases h
    cases ha with
    | cons _ s' _ _ hs ht =>
      cases ht with
      | cons _ x' _ _ hx ht =>
        cases ht
        have h0 : ts[0]? = some t := by rw [← Array.getElem?_toList, hts]; rfl
        have h1 : ts[1]? = some u := by rw [← Array.getElem?_toList, hts]; rfl
        obtain ⟨E', v', w', g1, g2, g3⟩ := append_run (P := P) hR hs hx hap ts h0 h1 ty #[s', x'] (by simp) (by simp)
        exact ⟨E', v', w', g1, g2, run_value g3⟩
  · rename_i t ts' d s hts
    split at h <;> first | (cases h; done) | skip
    rename_i v A' hap
    cases h
    cases ha with
    | cons _ s' _ _ hs ht =>
      cases ht with
      | cons _ x' _ _ hx ht =>
        cases ht
        have h0 : ts[0]? = some t := by rw [← Array.getElem?_toList, hts]; rfl
        obtain ⟨v', w', g1, g2, g3⟩ := copy_run (P := P) hR hs hx hap ts h0 ty #[s', x'] (by simp) (by simp)
        exact ⟨E, v', w', g1, g2, run_value g3⟩
  · rename_i t ts' x hts
    split at h <;> first | (cases h; done) | skip
    rename_i A' hap
    cases h
    cases ha with
    | cons _ x' _ _ hx ht =>
      cases ht
      have h0 : ts[0]? = some t := by rw [← Array.getElem?_toList, hts]; rfl
      obtain ⟨w', g1, g3⟩ := clear_run (P := P) hR hx hap ts h0 ty #[x'] (by simp)
      exact ⟨E, _, w', g1, .tuple _ _ .nil, run_value g3⟩
  · rename_i t ts' r k hts
    split at h <;> first | (cases h; done) | skip
    rename_i es kt e ho hm
    split at h <;> first | (cases h; done) | skip
    rename_i es' hkt hd
    cases h
    cases ha with
    | cons _ m' _ _ hx ht =>
      cases ht with
      | cons _ k' _ _ hk ht =>
        cases ht
        have h0 : ts[0]? = some t := by rw [← Array.getElem?_toList, hts]; rfl
        obtain ⟨R, hb, rfl⟩ := map_inv hx
        rw [keyT_rel hkt hk]
        obtain ⟨w', g1, g3⟩ := delete_run (P := P) hR (mapK_inv hm) ho hb hkt hd ts h0 ty #[.map (some R), k] (by simp) (by simp)
        exact ⟨E, _, w', g1, .tuple _ _ .nil, run_value g3⟩
  · rename_i ts' k x j y
    cases h
    cases ha with
    | cons _ x' _ _ hx ht =>
      cases ht with
      | cons _ y' _ _ hy ht =>
        cases ht
        rw [int_inv hx, int_inv hy]
        refine .same hR (.int _ _) ?_
        exact run_value (by simp [Builtin.min_, Builtin.min2])
  · cases h
/-- What a promoted method expression comes to. -/
theorem methodA_run {t : TypeId} {name : String} {g : FuncId} {off : Nat} (h : methodA P t name = some (g, off)) (B o : Nat) (n : Nat) :
    (method (n + 1) t (.pointer (some ⟨B, o, none⟩)) name).run P w = .ok (g, .pointer (some ⟨B, o + off, none⟩)) w ∧ (∃ e, P.underlying t = some (.pointer e)) := by
  unfold methodA at h
  split at h <;> first | (cases h; done) | skip
  rename_i e i hu hi
  split at h <;> first | (cases h; done) | skip
  rename_i m hm
  split at h <;> first | (cases h; done) | skip
  rename_i s f hp hf
  split at h <;> first | (cases h; done) | skip
  rename_i fs hd hus
  split at h <;> first | (cases h; done) | skip
  rename_i fd hfd
  split at h <;> first | (cases h; done) | skip
  rename_i fs2 sz hu2 hsz
  cases h
  refine ⟨?_, e, hu⟩
  have hne : m.path.isEmpty = false := by
    rw [Array.isEmpty_eq_false_iff]
    intro q
    rw [q] at hp; cases hp
  simp [method, typeInfo, hi, hm, hp, follow, run_und hus, hfd, hd, Place.get, asAddr, fieldPlace, run_size hsz, hf, receiverAt, run_und hu2, addr_add]
theorem VRels.toArray_append {l m n : List Value} : (l.toArray ++ m.toArray ++ n.toArray) = (l ++ m ++ n).toArray := by simp
theorem ok_call (hR : Rel E A w) (hF : FRel E F a.tmps) {c : Call} {ty : TypeId} (h : opCall P F A c ty = some out) :
    OutOK P E A w ((do let d ← resolve a.eval c ty; invoke d.target d.args : Sem Next).run P w) out := by
  unfold opCall at h
  split at h <;> first | (cases h; done) | skip
  rename_i args hargs
  have hv := evsC_rel hF hargs
  have hm : c.args.map a.eval = (c.args.toList.map a.eval).toArray := by apply Array.ext'; rw [Array.toList_map]
  split at h
  · rename_i f hc
    split at h
    · rename_i g first cap hf
      cases h
      have hfv := evC_rel hF (eval_some hf)
      generalize hq : a.eval f = q at hfv
      cases hfv with
      | func _ _ _ first' cap' h1 h2 =>
        refine ⟨rfl, first'.toList ++ c.args.toList.map a.eval ++ cap'.toList, (h1.append hv).append h2, ?_⟩
        simp only [resolve, hc, hq, Deferred.ofValue, invoke, pure_bind, Sem.run_bind, Sem.run_pure, Result.andThen_ok]
        congr 2
        apply Array.ext'; simp
    · rename_i t name first cap hf
      split at h <;> first | (cases h; done) | skip
      rename_i b rest hargs'
      split at h <;> first | (cases h; done) | skip
      rename_i g off hmeth
      cases h
      have hfv := evC_rel hF (eval_some hf)
      generalize hq : a.eval f = q at hfv
      cases hfv with
      | func _ _ _ first' cap' h1 h2 =>
        have happ := h1.append hv
        rw [hargs'] at happ
        generalize hl : first'.toList ++ List.map a.eval c.args.toList = l at happ
        cases happ with
        | cons _ p' _ rest' hp ht =>
          obtain ⟨B, s, hsp, hb, rfl⟩ := hp.ptr_inv
          obtain ⟨hmr, e, hu⟩ := methodA_run (w := w) hmeth B (b.off + s) (P.types.size + Made.depth - 1)
          refine ⟨rfl, .pointer (some ⟨B, b.off + s + off, none⟩) :: rest', .cons _ _ _ _ ?_ ht, ?_⟩
          · rw [show b.off + s + off = b.off + off + s by omega]; exact .ptr _ _ _ _ hb
          · have hargs2 : first' ++ c.args.map a.eval = (.pointer (some ⟨B, b.off + s, none⟩) :: rest').toArray := by
              apply Array.ext'
              rw [Array.toList_append, hm]
              simpa using hl
            have hdep : P.types.size + Made.depth - 1 + 1 = P.types.size + Made.depth := by simp [Made.depth]
            rw [hdep] at hmr
            simp only [resolve, hc, hq, Deferred.ofValue, invoke, pure_bind, Sem.run_bind, Sem.run_pure, Result.andThen_ok, hargs2]
            simp only [List.getElem?_toArray, List.getElem?_cons_zero, Sem.run_bind, run_und hu, Result.andThen_ok, callMethod, run_program, hmr]
            congr 2
            apply Array.ext'; simp
    · cases h
  · rename_i bt hc
    simp only [resolve, hc, invoke, pure_bind, Sem.run_bind, Sem.run_pure, Result.andThen_ok]
    rw [hm]
    exact builtinA_run (P := P) hR hv h
  · cases h
theorem ok_convert (hR : Rel E A w) (hF : FRel E F a.tmps) {src dst : TypeId} {x : Operand} (h : opConvert P F A src dst x = some out) :
    OutOK P E A w ((do pure (Next.value (← convert src dst (a.eval x))) : Sem Next).run P w) out := by
  unfold opConvert at h
  split at h
  · rename_i v hx
    exact convA_run hR (evC_rel hF (eval_some hx)) h
  · cases h
/-- **An operation does in the world what the evaluator says.** -/
theorem oper_ok (hR : Rel E A w) (hF : FRel E F a.tmps) {o : Oper} (h : (operC P o).run F A = some out) : OutOK P E A w ((execOp a.eval o).run P w) out := by
  unfold operC at h
  unfold execOp
  split at h <;> rename_i ho <;> first | (rw [ho]) | skip
  · exact ok_move hR hF h
  · exact ok_move hR hF h
  · exact ok_pick hR hF h
  · exact ok_alloc (F := F) hR h
  · exact ok_box hR hF h
  · exact ok_build hR hF h
  · exact ok_buildSlice hR hF h
  · exact ok_load hR hF h
  · exact ok_store hR hF h
  · have := ok_nilCheck (P := P) hR hF ho h
    unfold execOp at this
    rw [ho] at this
    exact this
  · exact ok_binOp hR hF h
  · exact ok_unOp hR hF h
  · exact ok_convert hR hF h
  · exact ok_makeFunc hR hF h
  · exact ok_makeMap (F := F) hR h
  · exact ok_makeSlice hR hF h
  · exact ok_slice hR hF h
  · exact ok_slice3 hR hF h
  · exact ok_fieldAddr hR hF h
  · exact ok_field hR hF h
  · exact ok_indexAddr hR hF h
  · exact ok_index hR hF h
  · exact ok_lookup hR hF h
  · exact ok_mapUpdate hR hF h
  · exact ok_mapUpdate hR hF h
  · exact ok_range hR hF h
  · exact ok_next hR hF h
  · exact ok_s2ap hR hF h
  · exact ok_extract hR hF h
  · exact ok_call hR hF h
  · cases h
end
end Go.Proofs.YtohnakjamlhhkaaGreatDoor
