/- The check of 16 bytes is one function of them, and nothing that stood is changed. -/
import Derived.Test.YtohnakjamlhhkaaGreatDoorKB
import Derived.Laws.Tables
import Derived.Laws.Closers25b
import Derived.WalkKit
import Derived.WalkLawsBesides
import Derived.WalkSpells
import Derived.Outline
import Derived.Below
import Derived.Lib.Hide
namespace Go.Proofs.YtohnakjamlhhkaaGreatDoor
open Go Go.RowKit
set_option linter.unusedVariables false
set_option linter.unusedSimpArgs false
set_option maxRecDepth 100000

def crcC : Array Value := match crcV with
  | .agg cs => cs
  | _ => #[]
def crcN (i : Nat) : Int := match crcC[i]? with
  | some (.int .u32 n) => n
  | _ => 0
theorem crcC_size : crcC.size = 256 := by kernel_rfl
def isU32 : Option Value → Bool
  | some (.int .u32 (.ofNat n)) => Nat.blt n 4294967296
  | _ => false
theorem crcC_all : ((List.range 256).all fun i => isU32 crcC[i]?) = true := by kernel_rfl
theorem crcC_at {i : Nat} (h : i < 256) : crcC[i]? = some (.int .u32 (crcN i)) := by
  have := List.all_eq_true.1 crcC_all i (by simpa using h)
  unfold isU32 at this
  split at this
  · rename_i n hn
    unfold crcN
    rw [hn]
  · cases this
theorem crcC_one : ∀ v ∈ crcC.toList, v.oneCell' = true := by
  intro v hv
  obtain ⟨i, hi, rfl⟩ := List.mem_iff_getElem.1 hv
  have h := crcC_at (i := i) (by simpa [crcC_size] using hi)
  rw [Array.getElem?_eq_some_iff] at h
  obtain ⟨_, h⟩ := h
  simp at h ⊢
  rw [h]; rfl
theorem zero306_size : Tryz.zeroCells306.size = 256 := by kernel_rfl
theorem setRow_alloc (w : World) (t : TypeId) (old c : Array Value) : (w.alloc (.cells old t)).setRow w.heap.size c = w.alloc (.cells c t) := by
  cases w with | mk heap tape drawn os output =>
  simp only [World.setRow, World.alloc]
  congr 1
  apply Array.ext
  · simp
  · intro k h1 h2
    rw [Array.getElem_modify]
    simp only [Array.getElem_push]
    split
    · rename_i hk; subst hk; simp
    · rename_i hk
      have : k < heap.size := by simp at h2; omega
      simp [this]
theorem store_crc (w1 : World) : (storeCells ⟨w1.heap.size, 0, none⟩ crcC.toList).run Tryz.prog (w1.alloc (.cells Tryz.zeroCells306 306)) = .ok () (w1.alloc (.cells crcC 306)) := by
  rw [run_storeCells_from w1.heap.size 306 crcC.toList 0 Tryz.zeroCells306 _ (heap_alloc_new _ _) (by rw [zero306_size, Array.length_toList, crcC_size]) crcC_one]
  rw [List.take_zero, List.nil_append, Array.toArray_toList, setRow_alloc]
/-- One byte more. -/
def stepI (s c : Int) : Int := bits .xor .u32 (s / 256) (crcN (bits .xor .u8 (s % 256) c).toNat)
/-- What has come of the first bytes. -/
def stI (s : Int) (n : Nat → Int) : Nat → Int
  | 0 => bits .xor .u32 IntKind.u32.max s
  | k + 1 => stepI (stI s n k) (n k)
theorem more_at (B o c : Nat) (n : Nat → Int) (s : Int) (w : World) (hB : B < w.heap.size)
    (hc : ∀ k, k < 16 → w.cell? ⟨B, o + k, none⟩ = some (.int .u8 (n k))) (x : Int) (hx : bits .xor .u32 IntKind.u32.max (stI s n 16) = x) :
    Calls Tryz.prog 184 #[.int .u32 s, .slice (some ⟨B, o, none⟩) 16 c] w fun e w' => e = .returned (.int .u32 x) ∧ Grew w w' := by
  have HX := Lib.hid hx
  clear hx
  go_enter Tryz.func184, Tryz.ntmps184
  go_wp2_with fail
  refine (calls_of_does Tryz.func231 (by rfl) (by kernel_rfl) (table_does (fun _ => .int .i64 0) (fun _ => rfl) w)).mono ?_
  rintro e w1 h
  cases e with
  | panicked _ => exact h.elim
  | outgrown => exact h.elim
  | returned v =>
    obtain ⟨rfl, hg⟩ := h
    have hcv : crcV = .agg crcC := rfl
    rw [hcv]
    have hsz := crcC_size
    have hst := store_crc w1
    go_wp2_with fail
    clear hst
    have hB1 : B < w1.heap.size := Nat.lt_of_lt_of_le hB hg.size
    have hgs := hg.size
    have hgW : Grew w (w1.alloc (.cells crcC 306)) := ⟨by show _ ≤ (w1.heap.push _).size; rw [Array.size_push]; omega, fun b hb => by
      show (w1.heap.push _)[b]? = _
      rw [Array.getElem?_push, if_neg (by omega), hg.old b hb], hg.env.trans ⟨rfl, rfl, rfl⟩⟩
    have hcell : ∀ k, k < 16 → (w1.alloc (.cells crcC 306)).cell? ⟨B, o + k, none⟩ = some (.int .u8 (n k)) := fun k hk => by
      rw [← hc k hk]
      exact World.cell?_of_block (hgW.old B hB)
    have htab : ∀ i : Nat, i < 256 → (w1.alloc (.cells crcC 306)).cell? ⟨w1.heap.size, i, none⟩ = some (.int .u32 (crcN i)) := fun i hi => by
      simp only [World.cell?, heap_alloc_new]
      exact crcC_at hi
    generalize w1.alloc (.cells crcC 306) = W at *
    generalize w1.heap.size = T at *
    clear hcv hsz hg hB hB1 hc hgs
    have hbit : ∀ a b : Int, 0 ≤ bits BinOp.xor IntKind.u8 a b ∧ bits BinOp.xor IntKind.u8 a b < 256 := fun a b => ⟨bits_lo_u8 _ a b, by have := bits_hi_u8 .xor a b; omega⟩
    have hld : ∀ a b : Int, W.cell? ⟨T, (bits BinOp.xor IntKind.u8 a b).toNat, none⟩ = some (.int .u32 (crcN (bits BinOp.xor IntKind.u8 a b).toNat)) := fun a b => htab _ (by have := hbit a b; omega)
    have hs0 : stI s n 0 = bits .xor .u32 IntKind.u32.max s := rfl
    have hsk : ∀ k, stI s n (k + 1) = bits .xor .u32 (stI s n k / 256) (crcN (bits .xor .u8 (stI s n k % 256) (n k)).toNat) := fun k => rfl
    rw [← hs0]
    generalize crcC = X
    have hx := HX.out
    clear HX
    have c0 := hcell 0 (by decide)
    have i0 := hbit (stI s n 0 % 256) (n 0)
    have l0 := hld (stI s n 0 % 256) (n 0)
    have e0 := (hsk 0).symm
    have c1 := hcell 1 (by decide)
    have i1 := hbit (stI s n 1 % 256) (n 1)
    have l1 := hld (stI s n 1 % 256) (n 1)
    have e1 := (hsk 1).symm
    have c2 := hcell 2 (by decide)
    have i2 := hbit (stI s n 2 % 256) (n 2)
    have l2 := hld (stI s n 2 % 256) (n 2)
    have e2 := (hsk 2).symm
    have c3 := hcell 3 (by decide)
    have i3 := hbit (stI s n 3 % 256) (n 3)
    have l3 := hld (stI s n 3 % 256) (n 3)
    have e3 := (hsk 3).symm
    have c4 := hcell 4 (by decide)
    have i4 := hbit (stI s n 4 % 256) (n 4)
    have l4 := hld (stI s n 4 % 256) (n 4)
    have e4 := (hsk 4).symm
    have c5 := hcell 5 (by decide)
    have i5 := hbit (stI s n 5 % 256) (n 5)
    have l5 := hld (stI s n 5 % 256) (n 5)
    have e5 := (hsk 5).symm
    have c6 := hcell 6 (by decide)
    have i6 := hbit (stI s n 6 % 256) (n 6)
    have l6 := hld (stI s n 6 % 256) (n 6)
    have e6 := (hsk 6).symm
    have c7 := hcell 7 (by decide)
    have i7 := hbit (stI s n 7 % 256) (n 7)
    have l7 := hld (stI s n 7 % 256) (n 7)
    have e7 := (hsk 7).symm
    have c8 := hcell 8 (by decide)
    have i8 := hbit (stI s n 8 % 256) (n 8)
    have l8 := hld (stI s n 8 % 256) (n 8)
    have e8 := (hsk 8).symm
    have c9 := hcell 9 (by decide)
    have i9 := hbit (stI s n 9 % 256) (n 9)
    have l9 := hld (stI s n 9 % 256) (n 9)
    have e9 := (hsk 9).symm
    have c10 := hcell 10 (by decide)
    have i10 := hbit (stI s n 10 % 256) (n 10)
    have l10 := hld (stI s n 10 % 256) (n 10)
    have e10 := (hsk 10).symm
    have c11 := hcell 11 (by decide)
    have i11 := hbit (stI s n 11 % 256) (n 11)
    have l11 := hld (stI s n 11 % 256) (n 11)
    have e11 := (hsk 11).symm
    have c12 := hcell 12 (by decide)
    have i12 := hbit (stI s n 12 % 256) (n 12)
    have l12 := hld (stI s n 12 % 256) (n 12)
    have e12 := (hsk 12).symm
    have c13 := hcell 13 (by decide)
    have i13 := hbit (stI s n 13 % 256) (n 13)
    have l13 := hld (stI s n 13 % 256) (n 13)
    have e13 := (hsk 13).symm
    have c14 := hcell 14 (by decide)
    have i14 := hbit (stI s n 14 % 256) (n 14)
    have l14 := hld (stI s n 14 % 256) (n 14)
    have e14 := (hsk 14).symm
    have c15 := hcell 15 (by decide)
    have i15 := hbit (stI s n 15 % 256) (n 15)
    have l15 := hld (stI s n 15 % 256) (n 15)
    have e15 := (hsk 15).symm
    simp only [Nat.add_zero, Nat.reduceAdd, Nat.zero_add] at c0 e0 c1 e1 c2 e2 c3 e3 c4 e4 c5 e5 c6 e6 c7 e7 c8 e8 c9 e9 c10 e10 c11 e11 c12 e12 c13 e13 c14 e14 c15 e15
    clear hs0 hsk hcell htab hbit hld
    generalize stI s n 0 = s0 at *
    generalize stI s n 1 = s1 at *
    generalize stI s n 2 = s2 at *
    generalize stI s n 3 = s3 at *
    generalize stI s n 4 = s4 at *
    generalize stI s n 5 = s5 at *
    generalize stI s n 6 = s6 at *
    generalize stI s n 7 = s7 at *
    generalize stI s n 8 = s8 at *
    generalize stI s n 9 = s9 at *
    generalize stI s n 10 = s10 at *
    generalize stI s n 11 = s11 at *
    generalize stI s n 12 = s12 at *
    generalize stI s n 13 = s13 at *
    generalize stI s n 14 = s14 at *
    generalize stI s n 15 = s15 at *
    generalize stI s n 16 = s16 at *
    generalize n 0 = n0 at *
    generalize n 1 = n1 at *
    generalize n 2 = n2 at *
    generalize n 3 = n3 at *
    generalize n 4 = n4 at *
    generalize n 5 = n5 at *
    generalize n 6 = n6 at *
    generalize n 7 = n7 at *
    generalize n 8 = n8 at *
    generalize n 9 = n9 at *
    generalize n 10 = n10 at *
    generalize n 11 = n11 at *
    generalize n 12 = n12 at *
    generalize n 13 = n13 at *
    generalize n 14 = n14 at *
    generalize n 15 = n15 at *
    generalize crcN (bits BinOp.xor IntKind.u8 (s0 % 256) n0).toNat = r0 at *
    generalize crcN (bits BinOp.xor IntKind.u8 (s1 % 256) n1).toNat = r1 at *
    generalize crcN (bits BinOp.xor IntKind.u8 (s2 % 256) n2).toNat = r2 at *
    generalize crcN (bits BinOp.xor IntKind.u8 (s3 % 256) n3).toNat = r3 at *
    generalize crcN (bits BinOp.xor IntKind.u8 (s4 % 256) n4).toNat = r4 at *
    generalize crcN (bits BinOp.xor IntKind.u8 (s5 % 256) n5).toNat = r5 at *
    generalize crcN (bits BinOp.xor IntKind.u8 (s6 % 256) n6).toNat = r6 at *
    generalize crcN (bits BinOp.xor IntKind.u8 (s7 % 256) n7).toNat = r7 at *
    generalize crcN (bits BinOp.xor IntKind.u8 (s8 % 256) n8).toNat = r8 at *
    generalize crcN (bits BinOp.xor IntKind.u8 (s9 % 256) n9).toNat = r9 at *
    generalize crcN (bits BinOp.xor IntKind.u8 (s10 % 256) n10).toNat = r10 at *
    generalize crcN (bits BinOp.xor IntKind.u8 (s11 % 256) n11).toNat = r11 at *
    generalize crcN (bits BinOp.xor IntKind.u8 (s12 % 256) n12).toNat = r12 at *
    generalize crcN (bits BinOp.xor IntKind.u8 (s13 % 256) n13).toNat = r13 at *
    generalize crcN (bits BinOp.xor IntKind.u8 (s14 % 256) n14).toNat = r14 at *
    generalize crcN (bits BinOp.xor IntKind.u8 (s15 % 256) n15).toNat = r15 at *
    clear n
    have HX := Lib.hid hx
    clear hx
    have Hc0 := Lib.hid c0
    have Hi0 := Lib.hid i0
    have Hl0 := Lib.hid l0
    have He0 := Lib.hid e0
    clear c0 i0 l0 e0
    have Hc1 := Lib.hid c1
    have Hi1 := Lib.hid i1
    have Hl1 := Lib.hid l1
    have He1 := Lib.hid e1
    clear c1 i1 l1 e1
    have Hc2 := Lib.hid c2
    have Hi2 := Lib.hid i2
    have Hl2 := Lib.hid l2
    have He2 := Lib.hid e2
    clear c2 i2 l2 e2
    have Hc3 := Lib.hid c3
    have Hi3 := Lib.hid i3
    have Hl3 := Lib.hid l3
    have He3 := Lib.hid e3
    clear c3 i3 l3 e3
    have Hc4 := Lib.hid c4
    have Hi4 := Lib.hid i4
    have Hl4 := Lib.hid l4
    have He4 := Lib.hid e4
    clear c4 i4 l4 e4
    have Hc5 := Lib.hid c5
    have Hi5 := Lib.hid i5
    have Hl5 := Lib.hid l5
    have He5 := Lib.hid e5
    clear c5 i5 l5 e5
    have Hc6 := Lib.hid c6
    have Hi6 := Lib.hid i6
    have Hl6 := Lib.hid l6
    have He6 := Lib.hid e6
    clear c6 i6 l6 e6
    have Hc7 := Lib.hid c7
    have Hi7 := Lib.hid i7
    have Hl7 := Lib.hid l7
    have He7 := Lib.hid e7
    clear c7 i7 l7 e7
    have Hc8 := Lib.hid c8
    have Hi8 := Lib.hid i8
    have Hl8 := Lib.hid l8
    have He8 := Lib.hid e8
    clear c8 i8 l8 e8
    have Hc9 := Lib.hid c9
    have Hi9 := Lib.hid i9
    have Hl9 := Lib.hid l9
    have He9 := Lib.hid e9
    clear c9 i9 l9 e9
    have Hc10 := Lib.hid c10
    have Hi10 := Lib.hid i10
    have Hl10 := Lib.hid l10
    have He10 := Lib.hid e10
    clear c10 i10 l10 e10
    have Hc11 := Lib.hid c11
    have Hi11 := Lib.hid i11
    have Hl11 := Lib.hid l11
    have He11 := Lib.hid e11
    clear c11 i11 l11 e11
    have Hc12 := Lib.hid c12
    have Hi12 := Lib.hid i12
    have Hl12 := Lib.hid l12
    have He12 := Lib.hid e12
    clear c12 i12 l12 e12
    have Hc13 := Lib.hid c13
    have Hi13 := Lib.hid i13
    have Hl13 := Lib.hid l13
    have He13 := Lib.hid e13
    clear c13 i13 l13 e13
    have Hc14 := Lib.hid c14
    have Hi14 := Lib.hid i14
    have Hl14 := Lib.hid l14
    have He14 := Lib.hid e14
    clear c14 i14 l14 e14
    have Hc15 := Lib.hid c15
    have Hi15 := Lib.hid i15
    have Hl15 := Lib.hid l15
    have He15 := Lib.hid e15
    clear c15 i15 l15 e15
    refine wp_loop_rounds 17 ?_
    have c0 := Hc0.out
    have i0 := Hi0.out
    have l0 := Hl0.out
    have e0 := He0.out
    clear Hc0 Hi0 Hl0 He0
    rw [rounds_succ]
    go_wp2_with fail
    clear c0 i0 l0 e0
    have c1 := Hc1.out
    have i1 := Hi1.out
    have l1 := Hl1.out
    have e1 := He1.out
    clear Hc1 Hi1 Hl1 He1
    rw [rounds_succ]
    go_wp2_with fail
    clear c1 i1 l1 e1
    have c2 := Hc2.out
    have i2 := Hi2.out
    have l2 := Hl2.out
    have e2 := He2.out
    clear Hc2 Hi2 Hl2 He2
    rw [rounds_succ]
    go_wp2_with fail
    clear c2 i2 l2 e2
    have c3 := Hc3.out
    have i3 := Hi3.out
    have l3 := Hl3.out
    have e3 := He3.out
    clear Hc3 Hi3 Hl3 He3
    rw [rounds_succ]
    go_wp2_with fail
    clear c3 i3 l3 e3
    have c4 := Hc4.out
    have i4 := Hi4.out
    have l4 := Hl4.out
    have e4 := He4.out
    clear Hc4 Hi4 Hl4 He4
    rw [rounds_succ]
    go_wp2_with fail
    clear c4 i4 l4 e4
    have c5 := Hc5.out
    have i5 := Hi5.out
    have l5 := Hl5.out
    have e5 := He5.out
    clear Hc5 Hi5 Hl5 He5
    rw [rounds_succ]
    go_wp2_with fail
    clear c5 i5 l5 e5
    have c6 := Hc6.out
    have i6 := Hi6.out
    have l6 := Hl6.out
    have e6 := He6.out
    clear Hc6 Hi6 Hl6 He6
    rw [rounds_succ]
    go_wp2_with fail
    clear c6 i6 l6 e6
    have c7 := Hc7.out
    have i7 := Hi7.out
    have l7 := Hl7.out
    have e7 := He7.out
    clear Hc7 Hi7 Hl7 He7
    rw [rounds_succ]
    go_wp2_with fail
    clear c7 i7 l7 e7
    have c8 := Hc8.out
    have i8 := Hi8.out
    have l8 := Hl8.out
    have e8 := He8.out
    clear Hc8 Hi8 Hl8 He8
    rw [rounds_succ]
    go_wp2_with fail
    clear c8 i8 l8 e8
    have c9 := Hc9.out
    have i9 := Hi9.out
    have l9 := Hl9.out
    have e9 := He9.out
    clear Hc9 Hi9 Hl9 He9
    rw [rounds_succ]
    go_wp2_with fail
    clear c9 i9 l9 e9
    have c10 := Hc10.out
    have i10 := Hi10.out
    have l10 := Hl10.out
    have e10 := He10.out
    clear Hc10 Hi10 Hl10 He10
    rw [rounds_succ]
    go_wp2_with fail
    clear c10 i10 l10 e10
    have c11 := Hc11.out
    have i11 := Hi11.out
    have l11 := Hl11.out
    have e11 := He11.out
    clear Hc11 Hi11 Hl11 He11
    rw [rounds_succ]
    go_wp2_with fail
    clear c11 i11 l11 e11
    have c12 := Hc12.out
    have i12 := Hi12.out
    have l12 := Hl12.out
    have e12 := He12.out
    clear Hc12 Hi12 Hl12 He12
    rw [rounds_succ]
    go_wp2_with fail
    clear c12 i12 l12 e12
    have c13 := Hc13.out
    have i13 := Hi13.out
    have l13 := Hl13.out
    have e13 := He13.out
    clear Hc13 Hi13 Hl13 He13
    rw [rounds_succ]
    go_wp2_with fail
    clear c13 i13 l13 e13
    have c14 := Hc14.out
    have i14 := Hi14.out
    have l14 := Hl14.out
    have e14 := He14.out
    clear Hc14 Hi14 Hl14 He14
    rw [rounds_succ]
    go_wp2_with fail
    clear c14 i14 l14 e14
    have c15 := Hc15.out
    have i15 := Hi15.out
    have l15 := Hl15.out
    have e15 := He15.out
    clear Hc15 Hi15 Hl15 He15
    rw [rounds_succ]
    go_wp2_with fail
    clear c15 i15 l15 e15
    have hx := HX.out
    clear HX
    rw [rounds_succ]
    go_wp2_with fail
    go_ret
    exact ⟨rfl, hgW⟩
theorem sum_any (B o c : Nat) (n : Nat → Int) (w : World) (hB : B < w.heap.size)
    (hc : ∀ k, k < 16 → w.cell? ⟨B, o + k, none⟩ = some (.int .u8 (n k))) :
    Calls Tryz.prog 116 #[.slice (some ⟨B, o, none⟩) 16 c] w fun e w' => e = .returned (.int .u32 (bits .xor .u32 IntKind.u32.max (stI 0 n 16))) ∧ Grew w w' := by
  have H := Lib.hid (more_at B o c n 0 w hB hc _ rfl)
  clear hc
  go_enter Tryz.func116, Tryz.ntmps116
  go_wp2_with fail
  refine H.out.mono ?_
  rintro e w1 ⟨rfl, hg⟩
  go_wp2
  go_ret
  exact ⟨rfl, hg⟩
end Go.Proofs.YtohnakjamlhhkaaGreatDoor
