/- A configuration among the arguments, opened to its cells. -/
import Derived.Test.YtdlacafljlddhaaGState
import Derived.Deep.Slices
import Derived.Deep.Fields
import Derived.ChangeSame
import Derived.Lib.SmallJoins
namespace Go.Proofs.Ytdlacafljlddhaa
open Go.Joins Go.ChangeShapes Go.WideShapes Go.RowKit Go.Deep
set_option linter.unusedVariables false
set_option linter.unusedSimpArgs false

section
variable {H : Type} {enc : TypeId × Value → H} {P : Program} {w : World} {base : Nat} {spare : Nat → Bool} {held : Bool}
theorem open_slice_fields {t e : TypeId} {fs : Array Field} {fuel : Nat} {cs : List Value} {x : DataW H × List MemPlace} (ht : P.underlying t = some (.slice e)) (he : P.underlying e = some (.struct fs))
    (hone : oneCellFields P fs = true) (hC : P.cellsOf e = fs.size) (h : DataW.trod enc P w base spare held fuel t cs = some x) :
    (cs = [.slice none 0 0] ∧ x = (.nil, [])) ∨
    ∃ (a : Addr) (len cap m : Nat) (D : Nat → DataW H) (Pl : Nat → List MemPlace), cs = [.slice (some a) len cap] ∧ base ≤ a.block ∧ len ≤ cap ∧ cap ≤ maxLen ∧ m = (if spare a.block then cap else len) ∧
      x = (.slice ((List.range len).map D) ((List.range (m - len)).map fun j => D (len + j)), MemPlace.row a (m * fs.size) ++ (List.range m).flatMap Pl) ∧
      ∀ i, i < m → ∃ (ys : List (DataW H × List MemPlace)) (n : Nat), D i = .agg (ys.map (·.1)) ∧ Pl i = ys.flatMap (·.2) ∧ ys.length = fs.size ∧
        ∀ (j : Nat) (f : Field), fs[j]? = some f → ∃ (v : Value) (y : DataW H × List MemPlace), w.cell? (a.add (i * fs.size + j)) = some v ∧ ys[j]? = some y ∧ DataW.trod enc P w base spare held n f.type [v] = some y := by
  rcases open_slice ht h with h0 | ⟨a, len, cap, m, n, D, Pl, hcs, hb, hl, hm, hmm, hx, hi⟩
  · exact .inl h0
  · refine .inr ⟨a, len, cap, m, D, Pl, hcs, hb, hl, hm, hmm, by rw [hC] at hx; exact hx, fun i him => ?_⟩
    obtain ⟨cs', hc, ht'⟩ := hi i him
    rw [hC] at hc
    obtain ⟨ys, n', hn', hy, hlen, hyl, hf⟩ := DataW.trod_struct he ht'
    obtain ⟨_, hcl, hat⟩ := World.cells?_some hc
    simp only [Prod.mk.injEq] at hy
    refine ⟨ys, n', hy.1, hy.2, hyl, fun j f hj => ?_⟩
    obtain ⟨ho, hk⟩ := hone_of hone j f hj
    have hjl : j < fs.size := (Array.getElem?_eq_some_iff.1 hj).1
    have hcell := hat j hjl
    have hv : cs'[j]? = some (cs'[j]'(by omega)) := List.getElem?_eq_getElem (by omega)
    have h1 := hf j f hj
    rw [ho, hk] at h1
    have hone' : (cs'.drop j).take 1 = [cs'[j]'(by omega)] := by
      rw [List.drop_eq_getElem_cons (by omega)]
      rfl
    rw [hone'] at h1
    have hys : ys[j]? = some (ys[j]'(by omega)) := List.getElem?_eq_getElem (by omega)
    refine ⟨_, _, ?_, hys, h1.trans hys⟩
    rw [← Go.Deep.add_add, hcell, hv]

theorem addr_plain {w : World} {a : Addr} {k : Nat} {v : Value} (h : w.cell? (a.add 0) = some v) : a.add k = ⟨a.block, a.off + k, none⟩ := by
  have h0 : a.spot = none := by
    have e : a.add 0 = a := by simp [Addr.add]
    rw [e] at h
    unfold World.cell? at h
    split at h
    · split at h
      · cases h
      · rename_i hs; simpa using hs
    · cases h
  obtain ⟨b, o, s⟩ := a
  dsimp only at h0
  subst h0
  unfold Addr.add
  split
  · rename_i e; subst e; rfl
  · rfl
end

theorem cells48 : Try.prog.cellsOf 48 = 3 := by kernel_rfl
theorem cells24 : Try.prog.cellsOf 24 = 4 := by kernel_rfl
theorem one24 : oneCellFields Try.prog #[{ name := "Frames", type := 3, offset := 0, embedded := false, tag := "", pkgPath := "", byteOffset := 0 }, { name := "Depth", type := 3, offset := 1, embedded := false, tag := "", pkgPath := "", byteOffset := 8 }, { name := "Sectors", type := 3, offset := 2, embedded := false, tag := "", pkgPath := "", byteOffset := 16 }, { name := "Parts", type := 22, offset := 3, embedded := false, tag := "", pkgPath := "", byteOffset := 24 }] = true := by kernel_rfl
theorem one48 : oneCellFields Try.prog #[{ name := "Quota", type := 3, offset := 0, embedded := false, tag := "", pkgPath := "", byteOffset := 0 }, { name := "Base", type := 3, offset := 1, embedded := false, tag := "", pkgPath := "", byteOffset := 8 }, { name := "Pages", type := 3, offset := 2, embedded := false, tag := "", pkgPath := "", byteOffset := 16 }] = true := by kernel_rfl

theorem open_cfg {H : Type} {enc : TypeId × Value → H} {W : World} {r : Reach} {b0 base : Nat} {v : Value} {d : DataW H} {p : List MemPlace} (hv : Value.okWide Try.prog W r b0 24 v) (h : DataW.Trod enc Try.prog W base (fun _ => true) true 24 v d p) :
    ∃ (f de s : Int) (A : Option Addr) (len cap : Nat) (l : List PartT), v = .agg #[.int .i64 f, .int .i64 de, .int .i64 s, .slice A len cap] ∧ InCfg W f de s A len cap l := by
  obtain ⟨v0, v1, v2, v3, y0, y1, y2, y3, n, rfl, _, _, h0, h1, h2, h3⟩ := open_agg4 Try.underlying24 one24 cells24 hv h
  obtain ⟨f, e0, _, w0⟩ := DataW.trod_int Try.underlying3 h0
  obtain ⟨de, e1, _, w1⟩ := DataW.trod_int Try.underlying3 h1
  obtain ⟨s, e2, _, w2⟩ := DataW.trod_int Try.underlying3 h2
  obtain rfl : v0 = .int .i64 f := by simpa using e0
  obtain rfl : v1 = .int .i64 de := by simpa using e1
  obtain rfl : v2 = .int .i64 s := by simpa using e2
  rcases open_slice_fields Try.underlying22 Try.underlying48 one48 (by rw [cells48]; rfl) h3 with ⟨e3, _⟩ | ⟨a, len, cap, m, D, Pl, e3, _, hl, hm, hmm, _, hi⟩
  · obtain rfl : v3 = .slice none 0 0 := by simpa using e3
    exact ⟨f, de, s, none, 0, 0, [], rfl, ⟨w0, w1, w2, by omega, by omega, rfl, fun hp => absurd hp (by omega), by simp⟩⟩
  · obtain rfl : v3 = .slice (some a) len cap := by simpa using e3
    have hm' : m = cap := by simpa using hmm
    subst hm'
    have hx : ∀ i, i < len → ∃ x : PartT, W.cell? (a.add (i * 3)) = some (.int .i64 x.1) ∧ W.cell? (a.add (i * 3 + 1)) = some (.int .i64 x.2.1) ∧ W.cell? (a.add (i * 3 + 2)) = some (.int .i64 x.2.2) ∧ PartOk x := by
      intro i him
      obtain ⟨ys, n', _, _, _, hf⟩ := hi i (by omega)
      obtain ⟨u0, z0, c0, _, t0⟩ := hf 0 _ rfl
      obtain ⟨u1, z1, c1, _, t1⟩ := hf 1 _ rfl
      obtain ⟨u2, z2, c2, _, t2⟩ := hf 2 _ rfl
      obtain ⟨q, g0, _, k0⟩ := DataW.trod_int Try.underlying3 t0
      obtain ⟨b, g1, _, k1⟩ := DataW.trod_int Try.underlying3 t1
      obtain ⟨pg, g2, _, k2⟩ := DataW.trod_int Try.underlying3 t2
      obtain rfl : u0 = .int .i64 q := by simpa using g0
      obtain rfl : u1 = .int .i64 b := by simpa using g1
      obtain rfl : u2 = .int .i64 pg := by simpa using g2
      exact ⟨(q, b, pg), c0, c1, c2, k0, k1, k2⟩
    obtain ⟨F, hF⟩ := choose_lt hx
    have hlm : len ≤ 9223372036854775807 := by simp only [maxLen] at hm; omega
    refine ⟨f, de, s, some a, len, m, (List.range (min len 4)).map F, rfl, ⟨w0, w1, w2, hlm, hl, by simp, fun hp => ?_, ?_⟩⟩
    · have hz := (hF 0 hp).1
      rw [Nat.zero_mul] at hz
      refine ⟨a.block, a.off, ?_, ?_⟩
      · have := addr_plain (k := 0) hz
        rw [show a.add 0 = a by simp [Addr.add]] at this
        rw [this]
      · intro j x hj
        obtain ⟨hjl, rfl⟩ := List.getElem?_eq_some_iff.1 hj
        have hj' : j < len := by simp at hjl; omega
        obtain ⟨c0, c1, c2, _⟩ := hF j hj'
        rw [addr_plain hz] at c0 c1 c2
        simp only [List.getElem_map, List.getElem_range]
        exact ⟨c0, c1, c2⟩
    · intro x hx'
      obtain ⟨i, hi', rfl⟩ := List.mem_map.1 hx'
      exact (hF i (by have := List.mem_range.1 hi'; omega)).2.2.2
end Go.Proofs.Ytdlacafljlddhaa
