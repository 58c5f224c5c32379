/- lines.commands: the first operations done; asks; the map that is ranged over. -/
import Derived.Test.YtohnakjamlhhkaaGreatDoorKF
import Derived.Maps.RangeRun
namespace Go.Proofs.YtohnakjamlhhkaaGreatDoor
open Go Go.Proofs Go.RowKit
set_option maxRecDepth 100000
set_option linter.unusedVariables false
set_option linter.unusedSimpArgs false
theorem alloc_store (w : World) (c : Array Value) (t : TypeId) (b i : Nat) (v : Value) (hb : b = w.heap.size) (h1 : v.oneCell' = true) (hi : i < c.size) : (store ⟨b, i, none⟩ v).run Tryz.prog (w.alloc (.cells c t)) = .ok () (w.alloc (.cells (c.setIfInBounds i v) t)) := by
  subst hb
  have hrow : Row (w.alloc (.cells c t)) w.heap.size c := ⟨t, (0, 0), heap_push_new, fun i _ => by simp⟩
  rw [hrow.store Tryz.prog hi h1]
  congr 1
  show World.setRow _ _ _ = _
  unfold World.setRow World.alloc
  simp only
  congr 1
  exact (heap_push_modify ..).trans (by simp)
theorem alloc_loadVar (w : World) (c : Array Value) (t : TypeId) (b : Nat) (hb : b = w.heap.size) (h1 : ∀ w, (isAgg t).run Tryz.prog w = .ok true w) (n : Nat) (h2 : ∀ w, (Go.sizeOf t).run Tryz.prog w = .ok n w) (hn : c.size = n) : (loadVar t ⟨b, 0, none⟩).run Tryz.prog (w.alloc (.cells c t)) = .ok (.agg c) (w.alloc (.cells c t)) := by
  subst hb; subst hn
  have hrow : Row (w.alloc (.cells c t)) w.heap.size c := ⟨t, (0, 0), heap_push_new, fun i _ => by simp⟩
  have hl := run_loadCells_list (P := Tryz.prog) (w.alloc (.cells c t)) ⟨w.heap.size, 0, none⟩ c.toList (fun j v hv => by rw [addr_add, hrow.cell, Nat.zero_add]; simpa using hv)
  simp only [Array.length_toList] at hl
  simp [loadVar, h1, h2, hl]
theorem results_cell {fn : Func} {t : Tmp} {ty : TypeId} {tmps : Array Value} {b : Addr} {v : Value} {w : World} (hr : fn.results = #[.cell t ty]) (ht : tmps.getD t undef = .pointer (some b)) (hl : (loadVar ty b).run Tryz.prog w = .ok v w) : (results fn tmps).run Tryz.prog w = .ok v w := by
  rw [results_eq, hr]
  simp [resF, ht, asAddr, hl]
theorem asks_calls (pb po : Nat) (k m : Int) (hm : 0 ≤ m) (hm' : m ≤ 100) (w : World) : Calls Tryz.prog 165 #[.pointer (some ⟨pb, po, none⟩), .int .i64 k, .int .i64 m] w fun e w' =>
    e = .returned (.agg #[.int .i64 (3 + m), .func (.func 214) #[] #[.pointer (some ⟨w.heap.size + 1, 0, none⟩), .pointer (some ⟨w.heap.size + 2, 0, none⟩), .pointer (some ⟨w.heap.size, 0, none⟩)]]) ∧
    w'.heap = (((w.heap.push (.cells #[.pointer (some ⟨pb, po, none⟩)] 119 (0, 0))).push (.cells #[.int .i64 k] 3 (0, 0))).push (.cells #[.int .i64 m] 3 (0, 0))).push (.cells #[.int .i64 (3 + m), .func (.func 214) #[] #[.pointer (some ⟨w.heap.size + 1, 0, none⟩), .pointer (some ⟨w.heap.size + 2, 0, none⟩), .pointer (some ⟨w.heap.size, 0, none⟩)]] 176 (0, 0)) ∧ Env w w' := by
  have h1 : wrap64 (3 + m) = 3 + m := by unfold wrap64; omega
  go_enter Tryz.func165, Tryz.ntmps165
  go_wp2
  rw [alloc_store _ _ _ _ _ _ (by simp) (by rfl) (by simp)]
  simp only [Result.andThen_ok]
  rw [Oper.upon_skip]
  go_wp2
  have hr : Tryz.f165.results = #[.cell 6 176] := by kernel_rfl
  refine ⟨rfl, _, ?_, rfl, ?_, ?_⟩
  · exact results_cell hr rfl (alloc_loadVar (((w.alloc (.cells #[.pointer (some ⟨pb, po, none⟩)] 119)).alloc (.cells #[.int .i64 k] 3)).alloc (.cells #[.int .i64 m] 3)) #[.int .i64 (3 + m), .func (.func 214) #[] #[.pointer (some ⟨w.heap.size + 1, 0, none⟩), .pointer (some ⟨w.heap.size + 2, 0, none⟩), .pointer (some ⟨w.heap.size, 0, none⟩)]] 176 (w.heap.size + 1 + 1 + 1) (by simp) Tryz.isAgg176 2 Tryz.sizeOf176 rfl)
  · rfl
  · exact ⟨rfl, rfl, rfl⟩

/-! ### Small calls -/
theorem pure_grew {P : Program} {C : Con} {V : Nat → Value} {w : World} (hV : ∀ k, (V k).oneCell' = true) (ho : Opq V) (hC : ConOK P V C) {f : FuncId} {args args' : List Value} {v : Value} {A' : AH} (h : C f args ⟨.leaf, 0⟩ = some (v, A')) (ha : VRels (Em.empty V hV ho) args args') :
    Does P f args'.toArray w fun _ w' => Grew w w' := by
  refine (hC f args _ v A' h (Em.empty V hV ho) w args' rfl ha (Rel.empty V hV ho w)).mono ?_
  rintro v' w' ⟨E', hs, hr⟩
  exact grew_of_stp hs
def isSome' : Option (Value × AH) → Bool
  | some _ => true
  | none => false
theorem streams_ev : isSome' (ev Tryz.prog 91 noC 5 135 [.chan (some 0)] ⟨.leaf, 0⟩) = true := by kernel_rfl
theorem streams_does (x : Value) (w : World) (hx : x.oneCell' = true) : Does Tryz.prog 135 #[x] w fun _ w' => Grew w w' := by
  have h := streams_ev
  cases he : ev Tryz.prog 91 noC 5 135 [.chan (some 0)] ⟨.leaf, 0⟩ with
  | none => rw [he] at h; cases h
  | some p =>
    obtain ⟨v, A'⟩ := p
    exact pure_grew (V := withV x (.int .i64 0) 0 0) (withV_one hx rfl 0 0) (withV_opq _ _ 0 0) (ev_ok mixed_ok names_ok codes_ok noC_ok 5) he (args' := [x]) (.cons _ _ _ _ (.opq 0) .nil)
def nameOf : Nat → ByteArray
  | 1 => ⟨#[102, 101, 116, 99, 104]⟩
  | 2 => ⟨#[114, 101, 97, 100]⟩
  | 3 => ⟨#[119, 114, 105, 116, 101]⟩
  | 4 => ⟨#[117, 110, 112, 105, 110]⟩
  | 5 => ⟨#[102, 108, 117, 115, 104]⟩
  | 6 => ⟨#[102, 108, 117, 115, 104, 97, 108, 108]⟩
  | 7 => ⟨#[100, 105, 115, 99, 97, 114, 100]⟩
  | 8 => ⟨#[115, 116, 97, 116, 115]⟩
  | _ => ⟨#[]⟩
def isName (k : Nat) : Option (Value × AH) → Bool
  | some (v, _) => veq v (.string (nameOf k))
  | none => false
theorem names_ev : ((List.range' 1 8).all fun k => isName k (ev Tryz.prog 91 noC 5 166 [.int .i64 (.ofNat k)] ⟨.leaf, 0⟩)) = true := by kernel_rfl
theorem name_does (k : Nat) (h1 : 1 ≤ k) (h2 : k ≤ 8) (w : World) : Does Tryz.prog 166 #[.int .i64 k] w fun v' w' => v' = .string (nameOf k) ∧ Grew w w' := by
  have h := List.all_eq_true.1 names_ev k (by rw [List.mem_range'_1]; omega)
  unfold isName at h
  split at h
  · rename_i v A' he
    rw [veq_eq h] at he
    exact pure_does (V := withV (.int .i64 0) (.int .i64 0) 0 0) (withV_one rfl rfl 0 0) (withV_opq _ _ 0 0) (ev_ok mixed_ok names_ok codes_ok noC_ok 5) he (args' := [.int .i64 k]) (.cons _ _ _ _ (.int _ _) .nil) rfl w
  · cases h

/-! ### The first operations -/
def specs15 (qb : Nat) : Specs := insIx.map fun r => (r.2.1, spec1 qb r.1)
theorem size1 : ops1.size = 57 := by kernel_rfl
theorem deps1 : depsB ops1.toList 0 = true := by kernel_rfl
theorem region1 {D : List Deferred} {pb po qb : Nat} {x1 x2 : Value} {a : Act} {w : World} {Q : Exit → Act → World → Prop} (o1 : x1.oneCell' = true) (o2 : x2.oneCell' = true)
    (hsz : a.tmps.size = 63) (hd : a.defers = D) (ht : a.tmps[1]? = some (.pointer (some ⟨qb, 0, none⟩))) (hq : w.cell? ⟨qb, 0, none⟩ = some (.pointer (some ⟨pb, po, none⟩)))
    (h1 : w.cell? ((⟨pb, po, none⟩ : Addr).add 1) = some x1) (h2 : w.cell? ((⟨pb, po, none⟩ : Addr).add 2) = some x2)
    (hQ : ∀ (a' : Act) (w' : World) (R : Nat), a'.tmps.size = 63 → a'.defers = D → a'.tmps[1]? = some (.pointer (some ⟨qb, 0, none⟩)) → a'.tmps[3]? = some (.map (some R)) → w.heap.size ≤ R → Grew w w' → MapHas w' R (specs15 qb) → Q .normal a' w') :
    (Code.region 1 ops1 true).wp Tryz.prog Q a w := by
  refine wp_region_any mixed_ok ?_
  have hrep : ∀ i, (Array.replicate ops1.size false).getD i false = false := fun i => by
    simp only [Array.getD_eq_getD_getElem?, Array.getElem?_replicate]
    split <;> rfl
  refine wpAny_inv (I := R1 D w pb po qb x1 x2) (fun L a w i hI hi => step1 o1 o2 (fun x w hx => streams_does x w hx) i (ready_lt hi hI.lsz).1 hI hi) (fun L a w' hI hr => ?_) _ _ _ _ ?_ ?_
  · have hall := all_listed deps1 hr (by rw [hI.lsz, size1])
    rw [size1] at hall
    obtain ⟨R, g1, g2, g3, g4, g5⟩ := hI.mp (hall 0 (by omega))
    refine hQ a w' R hI.sz hI.df hI.t1 (g4 (hall 56 (by omega))) g1 hI.grew ?_
    have : insSpecs qb L = specs15 qb := by
      unfold insSpecs specs15
      rw [List.filter_eq_self.2]
      intro r hr
      have hlt : (insIx.all fun r => Nat.blt r.1 57) = true := by kernel_rfl
      have := Nat.le_of_ble_eq_true (List.all_eq_true.1 hlt r hr)
      exact hall _ (by omega)
    rw [← this]; exact g5
  · refine Nat.le_trans List.countP_le_length ?_
    simp
  · refine ⟨by rw [Array.size_replicate, size1], hsz, hd, ht, ⟨Nat.le_refl _, fun _ _ => rfl, rfl, rfl, rfl⟩, hq, h1, h2, fun r _ hl => ?_, fun _ => ⟨hrep _, hrep _, fun r _ => hrep _⟩, fun hl => ?_⟩
    · rw [hrep] at hl; cases hl
    · rw [hrep] at hl; cases hl
end Go.Proofs.YtohnakjamlhhkaaGreatDoor
