/- Things that are done, among the arguments. -/
import Derived.Test.YthdcffbifgifeaaPlaysS
import Derived.Deep.Slices
import Derived.Deep.Fields
import Derived.ChangeSame
import Derived.Lib.SmallJoins
namespace Go.Proofs.Ythdcffbifgifeaa
set_option linter.unusedVariables false
set_option linter.unusedSimpArgs false

/-- Something that is done, by its five numbers. -/
abbrev Op5 := Int × Int × Int × Int × Int
def Op5.wf (x : Op5) : Prop := (Lit.int .i64 x.1).wf = true ∧ (Lit.int .i64 x.2.1).wf = true ∧ (Lit.int .i64 x.2.2.1).wf = true ∧ (Lit.int .i64 x.2.2.2.1).wf = true ∧ (Lit.int .i64 x.2.2.2.2).wf = true
def InOps (W : World) (v : Value) (n : Nat) : Prop :=
  ∃ A c, v = .slice A n c ∧ n ≤ 9223372036854775807 ∧ (0 < n → ∃ b o, A = some ⟨b, o, none⟩ ∧ ∀ i, i < n → ∃ x : Op5, x.wf ∧ W.cell? ⟨b, o + i * 5, none⟩ = some (.int .i64 x.1) ∧ W.cell? ⟨b, o + i * 5 + 1, none⟩ = some (.int .i64 x.2.1) ∧ W.cell? ⟨b, o + i * 5 + 2, none⟩ = some (.int .i64 x.2.2.1) ∧
    W.cell? ⟨b, o + i * 5 + 3, none⟩ = some (.int .i64 x.2.2.2.1) ∧ W.cell? ⟨b, o + i * 5 + 4, none⟩ = some (.int .i64 x.2.2.2.2))

section
open Go.Joins Go.ChangeShapes Go.WideShapes Go.RowKit Go.Deep
section
variable {H : Type} {enc : TypeId × Value → H} {P : Program} {w : World} {base : Nat} {spare : Nat → Bool} {held : Bool}
theorem open_slice_fields {t e : TypeId} {fs : Array Field} {fuel : Nat} {cs : List Value} {x : DataW H × List MemPlace} (ht : P.underlying t = some (.slice e)) (he : P.underlying e = some (.struct fs))
    (hone : oneCellFields P fs = true) (hC : P.cellsOf e = fs.size) (h : DataW.trod enc P w base spare held fuel t cs = some x) :
    (cs = [.slice none 0 0] ∧ x = (.nil, [])) ∨
    ∃ (a : Addr) (len cap m : Nat) (D : Nat → DataW H) (Pl : Nat → List MemPlace), cs = [.slice (some a) len cap] ∧ base ≤ a.block ∧ len ≤ cap ∧ cap ≤ maxLen ∧ m = (if spare a.block then cap else len) ∧
      x = (.slice ((List.range len).map D) ((List.range (m - len)).map fun j => D (len + j)), MemPlace.row a (m * fs.size) ++ (List.range m).flatMap Pl) ∧
      ∀ i, i < m → ∃ (ys : List (DataW H × List MemPlace)) (n : Nat), D i = .agg (ys.map (·.1)) ∧ Pl i = ys.flatMap (·.2) ∧ ys.length = fs.size ∧
        ∀ (j : Nat) (f : Field), fs[j]? = some f → ∃ (v : Value) (y : DataW H × List MemPlace), w.cell? (a.add (i * fs.size + j)) = some v ∧ ys[j]? = some y ∧ DataW.trod enc P w base spare held n f.type [v] = some y := by
  rcases open_slice ht h with h0 | ⟨a, len, cap, m, n, D, Pl, hcs, hb, hl, hm, hmm, hx, hi⟩
  · exact .inl h0
  · refine .inr ⟨a, len, cap, m, D, Pl, hcs, hb, hl, hm, hmm, by rw [hC] at hx; exact hx, fun i him => ?_⟩
    obtain ⟨cs', hc, ht'⟩ := hi i him
    rw [hC] at hc
    obtain ⟨ys, n', hn', hy, hlen, hyl, hf⟩ := DataW.trod_struct he ht'
    obtain ⟨_, hcl, hat⟩ := World.cells?_some hc
    simp only [Prod.mk.injEq] at hy
    refine ⟨ys, n', hy.1, hy.2, hyl, fun j f hj => ?_⟩
    obtain ⟨ho, hk⟩ := hone_of hone j f hj
    have hjl : j < fs.size := (Array.getElem?_eq_some_iff.1 hj).1
    have hcell := hat j hjl
    have hv : cs'[j]? = some (cs'[j]'(by omega)) := List.getElem?_eq_getElem (by omega)
    have h1 := hf j f hj
    rw [ho, hk] at h1
    have hone' : (cs'.drop j).take 1 = [cs'[j]'(by omega)] := by
      rw [List.drop_eq_getElem_cons (by omega)]
      rfl
    rw [hone'] at h1
    have hys : ys[j]? = some (ys[j]'(by omega)) := List.getElem?_eq_getElem (by omega)
    refine ⟨_, _, ?_, hys, h1.trans hys⟩
    rw [← Go.Deep.add_add, hcell, hv]

end
theorem cells52 : Try.prog.cellsOf 52 = 5 := by kernel_rfl
theorem one52 : oneCellFields Try.prog #[{ name := "Do", type := 3, offset := 0, embedded := false, tag := "", pkgPath := "", byteOffset := 0 }, { name := "W", type := 3, offset := 1, embedded := false, tag := "", pkgPath := "", byteOffset := 8 }, { name := "V", type := 3, offset := 2, embedded := false, tag := "", pkgPath := "", byteOffset := 16 }, { name := "S", type := 3, offset := 3, embedded := false, tag := "", pkgPath := "", byteOffset := 24 }, { name := "N", type := 3, offset := 4, embedded := false, tag := "", pkgPath := "", byteOffset := 32 }] = true := by kernel_rfl
theorem open_ops {H : Type} {enc : TypeId × Value → H} {W : World} {r : Reach} {b0 base : Nat} {v : Value} {d : DataW H} {p : List MemPlace} (hv : Value.okWide Try.prog W r b0 46 v) (h : DataW.Trod enc Try.prog W base (fun _ => true) true 46 v d p) :
    ∃ n, InOps W v n := by
  obtain ⟨a, len, cap, rfl⟩ := okWide_slice Try.underlying46 hv
  obtain ⟨fuel, hf⟩ := h
  rcases open_slice_fields Try.underlying46 Try.underlying52 one52 (by rw [cells52]; rfl) hf with ⟨e3, _⟩ | ⟨x, l, c, m, D, Pl, e3, _, hl, hm, hmm, _, hi⟩
  · simp [Value.cells] at e3
    obtain ⟨rfl, rfl, rfl⟩ := e3
    exact ⟨0, none, 0, rfl, by omega, fun hp => absurd hp (by omega)⟩
  · simp [Value.cells] at e3
    obtain ⟨rfl, rfl, rfl⟩ := e3
    have hm' : m = cap := by simpa using hmm
    subst hm'
    have hx : ∀ i, i < len → ∃ y : Op5, y.wf ∧ W.cell? (x.add (i * 5)) = some (.int .i64 y.1) ∧ W.cell? (x.add (i * 5 + 1)) = some (.int .i64 y.2.1) ∧ W.cell? (x.add (i * 5 + 2)) = some (.int .i64 y.2.2.1) ∧ W.cell? (x.add (i * 5 + 3)) = some (.int .i64 y.2.2.2.1) ∧ W.cell? (x.add (i * 5 + 4)) = some (.int .i64 y.2.2.2.2) := by
      intro i him
      obtain ⟨ys, n', _, _, _, hf⟩ := hi i (by omega)
      obtain ⟨u0, z0, c0, _, t0⟩ := hf 0 _ rfl
      obtain ⟨u1, z1, c1, _, t1⟩ := hf 1 _ rfl
      obtain ⟨u2, z2, c2, _, t2⟩ := hf 2 _ rfl
      obtain ⟨u3, z3, c3, _, t3⟩ := hf 3 _ rfl
      obtain ⟨u4, z4, c4, _, t4⟩ := hf 4 _ rfl
      obtain ⟨q0, g0, _, k0⟩ := DataW.trod_int Try.underlying3 t0
      obtain ⟨q1, g1, _, k1⟩ := DataW.trod_int Try.underlying3 t1
      obtain ⟨q2, g2, _, k2⟩ := DataW.trod_int Try.underlying3 t2
      obtain ⟨q3, g3, _, k3⟩ := DataW.trod_int Try.underlying3 t3
      obtain ⟨q4, g4, _, k4⟩ := DataW.trod_int Try.underlying3 t4
      obtain rfl : u0 = .int .i64 q0 := by simpa using g0
      obtain rfl : u1 = .int .i64 q1 := by simpa using g1
      obtain rfl : u2 = .int .i64 q2 := by simpa using g2
      obtain rfl : u3 = .int .i64 q3 := by simpa using g3
      obtain rfl : u4 = .int .i64 q4 := by simpa using g4
      exact ⟨(q0, q1, q2, q3, q4), ⟨k0, k1, k2, k3, k4⟩, c0, c1, c2, c3, c4⟩
    have hlm : len ≤ 9223372036854775807 := by simp only [maxLen] at hm; omega
    refine ⟨len, some x, m, rfl, hlm, fun hp => ?_⟩
    obtain ⟨_, _, hz, _⟩ := hx 0 hp
    rw [Nat.zero_mul] at hz
    refine ⟨x.block, x.off, ?_, fun i hi' => ?_⟩
    · have := addr_plain (k := 0) hz
      rw [show x.add 0 = x by simp [Addr.add]] at this
      rw [this]
    · obtain ⟨y, hw, c0, c1, c2, c3, c4⟩ := hx i hi'
      rw [addr_plain hz] at c0 c1 c2 c3 c4
      exact ⟨y, hw, c0, c1, c2, c3, c4⟩
end
end Go.Proofs.Ythdcffbifgifeaa
