/- What the laws of extent keep behind Good, and plain laws on whose a sector is. -/
import Derived.Test.YtdlacafljlddhaaRefOwner
import Derived.Test.YtdlacafljlddhaaFree
namespace Go.Proofs.Ytdlacafljlddhaa
open Go.RowKit
set_option linter.unusedVariables false
set_option linter.unusedSimpArgs false

/-- The configuration that Good made lies at block G, and its parts at block gb. -/
def GState (w wr : World) (G : Nat) (fr de sec : Int) (gb cap : Nat) (ps : List PartT) : Prop :=
  wr.cell? ⟨G, 0, none⟩ = some (.int .i64 fr) ∧ wr.cell? ⟨G, 1, none⟩ = some (.int .i64 de) ∧ wr.cell? ⟨G, 2, none⟩ = some (.int .i64 sec) ∧ wr.cell? ⟨G, 3, none⟩ = some (.slice (some ⟨gb, 0, none⟩) ps.length cap) ∧
    PartsIn wr gb 0 ps ∧ Below w.heap.size w wr ∧ G < wr.heap.size
theorem GState.below {w wr w1 : World} {G gb cap : Nat} {fr de sec : Int} {ps : List PartT} (h : GState w wr G fr de sec gb cap ps) (hb : Below wr.heap.size wr w1) : GState w w1 G fr de sec gb cap ps := by
  obtain ⟨h0, h1, h2, h3, h4, h5, h6⟩ := h
  exact ⟨cell_below hb h0, cell_below hb h1, cell_below hb h2, cell_below hb h3, h4.below hb, h5.trans (hb.mono h5.size), by have := hb.size; omega⟩
theorem GState.mk0 {w w1 : World} {gb cap : Nat} {fr de sec : Int} {ps : List PartT} (hb : Below w.heap.size w w1) (hp : PartsIn w1 gb 0 ps) :
    GState w (w1.alloc (.cells #[.int .i64 fr, .int .i64 de, .int .i64 sec, .slice (some ⟨gb, 0, none⟩) ps.length cap] 24)) w1.heap.size fr de sec gb cap ps :=
  ⟨by go_simp, by go_simp, by go_simp, by go_simp, hp.below ((Below.refl _ _).alloc (Nat.le_refl _) _), hb.alloc hb.size _, by simp⟩

theorem own_in : ∀ (ps : List PartT) (a sec : Int) (i s : Int) (j : Nat) (x : PartT), Chain a ps sec → ps[j]? = some x → x.2.1 ≤ s → s < x.2.1 + 2 * x.2.2 → ownF ps i s = (i + j, (s - x.2.1) / 2, (s - x.2.1) % 2, true)
  | [], a, sec, i, s, j, x, h, hx, h0, h1 => by simp at hx
  | z :: r, a, sec, i, s, 0, x, h, hx, h0, h1 => by
    obtain rfl : z = x := by simpa using hx
    simp only [ownF]
    rw [if_pos ⟨h0, h1⟩]
    simp
  | z :: r, a, sec, i, s, j + 1, x, h, hx, h0, h1 => by
    obtain ⟨g1, g2, g3, g4, g5, g6⟩ := h
    have hx' : r[j]? = some x := by simpa using hx
    obtain ⟨k1, _, _, _⟩ := chain_at r _ sec g6 j x hx'
    simp only [ownF]
    rw [if_neg (by omega), own_in r _ sec (i + 1) s j x g6 hx' h0 h1]
    simp; omega
theorem own_out : ∀ (ps : List PartT) (i s : Int), (ownF ps i s).2.2.2 = true → ∃ (j : Nat) (x : PartT), (ownF ps i s).1 = i + j ∧ ps[j]? = some x ∧ x.2.1 ≤ s ∧ s < x.2.1 + 2 * x.2.2 ∧ (ownF ps i s).2.1 = (s - x.2.1) / 2 ∧ (ownF ps i s).2.2.1 = (s - x.2.1) % 2
  | [], i, s, h => by simp [ownF] at h
  | z :: r, i, s, h => by
    simp only [ownF] at h ⊢
    by_cases hz : z.2.1 ≤ s ∧ s < z.2.1 + 2 * z.2.2
    · rw [if_pos hz]
      exact ⟨0, z, by simp, by simp, hz.1, hz.2, rfl, rfl⟩
    · rw [if_neg hz] at h ⊢
      obtain ⟨j, x, h1, h2, h3⟩ := own_out r (i + 1) s h
      exact ⟨j + 1, x, by rw [h1]; omega, by simpa using h2, h3⟩
/-- A tenant's sectors are those of its part. -/
theorem own_tenant {ps : List PartT} {sec s : Int} {t : Nat} {x : PartT} (hc : Chain 0 ps sec) (hx : ps[t]? = some x) :
    (x.2.1 ≤ s ∧ s < x.2.1 + 2 * x.2.2) ↔ ((ownF ps 0 s).2.2.2 = true ∧ (ownF ps 0 s).1 = t) := by
  constructor
  · intro h
    rw [own_in ps 0 sec 0 s t x hc hx h.1 h.2]
    exact ⟨rfl, by simp⟩
  · intro h
    obtain ⟨j, y, h1, h2, h3, h4, _⟩ := own_out ps 0 s h.1
    have : j = t := by have := h.2; omega
    subst this
    rw [hx] at h2
    obtain rfl := Option.some.inj h2
    exact ⟨h3, h4⟩

/-- A configuration that came in: what is read of it. -/
structure InCfg (w : World) (f d s : Int) (A : Option Addr) (len cap : Nat) (l : List PartT) : Prop where
  hf : (Lit.int .i64 f).wf = true
  hd : (Lit.int .i64 d).wf = true
  hs : (Lit.int .i64 s).wf = true
  hlen : len ≤ 9223372036854775807
  hcap : len ≤ cap
  hl : l.length = min len 4
  hin : 0 < len → ∃ b o, A = some ⟨b, o, none⟩ ∧ PartsIn w b o l
  hok : ∀ x ∈ l, PartOk x
theorem InCfg.good {w w1 : World} {f d s : Int} {A : Option Addr} {len cap : Nat} {l : List PartT} (h : InCfg w f d s A len cap l) (hb : Below w.heap.size w w1) :
    Calls Try.prog 8 #[.agg #[.int .i64 f, .int .i64 d, .int .i64 s, .slice A len cap]] w1 (GoodPost w1) :=
  good_any f d s A len cap l w1 h.hf h.hd h.hs h.hlen h.hcap h.hl (fun h0 => by obtain ⟨b, o, e, hp⟩ := h.hin h0; exact ⟨b, o, e, hp.below hb⟩) h.hok
end Go.Proofs.Ytdlacafljlddhaa
