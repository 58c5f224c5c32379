/- What the document's functions tell of a list that stands beside the table's slots: in plain Lean. -/
import Derived.Test.YthdcffbifgifeaaPCapsPlaysx4
import Derived.Test.YthdcffbifgifeaaPCapsPlaysx2
import Derived.Test.YthdcffbifgifeaaLst
namespace Go.Proofs.Ythdcffbifgifeaa.Plays
open Go.RowKit Go.Proofs.Ythdcffbifgifeaa.PCapsPlays Go.Proofs.YthdcffbifgifeaaW.PrintWords Go.Proofs.YthdcffbifgifeaaW.PrintLast
set_option linter.unusedVariables false

def s28 (x : Int × Int) : S28 := ⟨x.1, x.2⟩
def s59 (x : Ent) : S59 := ⟨⟨x.1, x.2.1⟩, x.2.2⟩
def RL (f : Nat → Slot) : List S59 := (lst f).map s59
theorem wr1 {i : Int} (h0 : 0 ≤ i) (h1 : i < 10000000) : wrap64 (i + 1) = i + 1 := by unfold wrap64; omega
theorem rd59 (L : List Ent) {i : Nat} (h : i < L.length) : rd_T59 (L.map s59) i = s59 L[i] := by
  unfold rd_T59
  rw [Int.toNat_natCast, List.getD_eq_getElem?_getD, List.getElem?_map, List.getElem?_eq_getElem h]
  rfl
theorem rd28 (l : List S28) {i : Nat} (h : i < l.length) : rd_T28 l i = l[i] := by
  unfold rd_T28
  rw [Int.toNat_natCast, List.getD_eq_getElem?_getD, List.getElem?_eq_getElem h]
  rfl

/-! ### Find -/
def fat (i : Nat) : Option Nat → Int | some j => ((i + j : Nat) : Int) | none => -1
theorem find_loop (L : List Ent) (hL : L.length ≤ 8) (E G s g : Int) : ∀ (d k i : Nat), L.length - i = d → i ≤ L.length → d < k →
    allotmentref17_Find.l0 k i E G (L.map s59) s g = some (fat i ((L.drop i).findIdx? fun x => x.1 == s && x.2.1 == g))
  | 0, k, i, hd, hi, hk => by
    obtain ⟨k, rfl⟩ : ∃ j, k = j + 1 := ⟨k - 1, by omega⟩
    simp only [allotmentref17_Find.l0, List.length_map]
    rw [if_neg (by omega), List.drop_eq_nil_of_le (by omega)]
    rfl
  | d + 1, k, i, hd, hi, hk => by
    obtain ⟨k, rfl⟩ : ∃ j, k = j + 1 := ⟨k - 1, by omega⟩
    have hlt : i < L.length := by omega
    simp only [allotmentref17_Find.l0, List.length_map]
    rw [if_pos (by omega), if_pos (by omega), rd59 L hlt, wr1 (by omega) (by omega), List.drop_eq_getElem_cons hlt, List.findIdx?_cons]
    by_cases h : (L[i].1 == s && L[i].2.1 == g) = true
    · have h' : ((s59 L[i]).f0.f0 == s && (s59 L[i]).f0.f1 == g) = true := h
      rw [if_pos h', if_pos h]
      simp [fat]
    · have h' : ¬ ((s59 L[i]).f0.f0 == s && (s59 L[i]).f0.f1 == g) = true := h
      rw [if_neg h', if_neg h]
      have := find_loop L hL E G s g d k (i + 1) (by omega) (by omega) (by omega)
      rw [show ((i : Int) + 1) = ((i + 1 : Nat) : Int) by omega, this]
      cases (L.drop (i + 1)).findIdx? fun x => x.1 == s && x.2.1 == g <;> simp [fat]
      omega
theorem find_some (k : Nat) (hk : 9 ≤ k) (f : Nat → Slot) (E G s g : Int) : allotmentref17_Find.f k E G (RL f) s g = some (fidx (lst f) s g) := by
  have hl := lst_len f
  have := find_loop (lst f) hl E G s g _ k 0 rfl (by omega) (by omega)
  unfold allotmentref17_Find.f RL
  rw [show (0 : Int) = ((0 : Nat) : Int) by rfl, this]
  unfold fidx fnd fat
  rw [List.drop_zero]
  cases (lst f).findIdx? fun x => x.1 == s && x.2.1 == g <;> simp

/-! ### Has, Check -/
theorem has_table : ((List.range 16).all fun o => (List.range 16).all fun n => allotmentref16_Has.f 20 (o : Int) (n : Int) == some (refh o n)) = true := by decide +kernel
theorem has_some (k : Nat) (hk : 20 ≤ k) {o n : Nat} (ho : o < 16) (hn : n < 16) : allotmentref16_Has.f k (o : Int) (n : Int) = some (refh o n) :=
  at_rounds (fun m => allotmentref16_Has.mono _ _ m) hk (beq_iff_eq.1 (List.all_eq_true.1 (List.all_eq_true.1 has_table o (List.mem_range.2 ho)) n (List.mem_range.2 hn)))
theorem lsl_lt (f : Nat → Slot) {i : Nat} (hi : i < 8) (hu : (f i).1 = true) : (lsl f (List.range i)).length < (lst f).length := (List.getElem?_eq_some_iff.1 (lst_get f hi hu)).1
theorem check_some (k : Nat) (hk : 20 ≤ k) (f : Nat → Slot) (hf : Good f) (E G s g : Int) {n : Nat} (hn : n < 16) :
    allotmentref17_Check.f k E G (RL f) s g n = some (ccode (gd f s g) n) := by
  unfold allotmentref17_Check.f
  rw [find_some k (by omega)]
  simp only [Option.bind_some]
  rcases gd_cases f s g with ⟨h1, h2⟩ | ⟨i, hi, rfl, hu, rfl, h1, h2, h3⟩
  · rw [h1]; unfold fidx; rw [h2]
    rfl
  · obtain ⟨o, ho, he, hc⟩ := hf.code (i := i) hn
    rw [h1, hc]; unfold fidx; rw [h2]
    dsimp only
    have hlt := lsl_lt f hi hu
    rw [if_neg (by omega), if_pos (by omega), if_pos (by unfold RL; rw [List.length_map]; omega)]
    unfold RL
    rw [rd59 _ hlt]
    have e : (lst f)[(lsl f (List.range i)).length] = ((i : Int), (f i).2.1, (f i).2.2) := by
      rw [List.getElem?_eq_getElem hlt] at h3
      exact Option.some.inj h3
    rw [e]
    show (allotmentref16_Has.f k (f i).2.2 n).bind _ = _
    rw [he, has_some k hk ho hn]
    simp only [Option.bind_some]
    cases refh o n <;> rfl

/-! ### free, All, Same -/
theorem free_loop (L : List Ent) (hL : L.length ≤ 8) (E G : Int) : ∀ (d k i : Nat) (n : Int), L.length - i = d → i ≤ L.length → d < k → 0 ≤ n → n ≤ i →
    allotmentref17_free.l0 k n i E G (L.map s59) = some (frc n (L.drop i))
  | 0, k, i, n, hd, hi, hk, h0, h1 => by
    obtain ⟨k, rfl⟩ : ∃ j, k = j + 1 := ⟨k - 1, by omega⟩
    simp only [allotmentref17_free.l0, List.length_map]
    rw [if_neg (by omega), List.drop_eq_nil_of_le (by omega)]
    rfl
  | d + 1, k, i, n, hd, hi, hk, h0, h1 => by
    obtain ⟨k, rfl⟩ : ∃ j, k = j + 1 := ⟨k - 1, by omega⟩
    have hlt : i < L.length := by omega
    simp only [allotmentref17_free.l0, List.length_map]
    rw [if_pos (by omega), if_pos (by omega), rd59 L hlt, wr1 (i := (i : Int)) (by omega) (by omega), wr1 (i := n) (by omega) (by omega), List.drop_eq_getElem_cons hlt]
    show (if L[i].1 = n then _ else _) = some (frc (if L[i].1 = n then n + 1 else n) _)
    rw [show ((i : Int) + 1) = ((i + 1 : Nat) : Int) by omega]
    by_cases h : L[i].1 = n
    · rw [if_pos h, if_pos h]
      exact free_loop L hL E G d k (i + 1) (n + 1) (by omega) (by omega) (by omega) (by omega) (by omega)
    · rw [if_neg h, if_neg h]
      exact free_loop L hL E G d k (i + 1) n (by omega) (by omega) (by omega) (by omega) (by omega)
theorem free_some (k : Nat) (hk : 9 ≤ k) (f : Nat → Slot) (E G : Int) : allotmentref17_free.f k E G (RL f) = some (frc 0 (lst f)) := by
  have hl := lst_len f
  exact free_loop (lst f) hl E G _ k 0 0 rfl (by omega) (by omega) (by omega) (by omega)
theorem all_loop (L : List Ent) (hL : L.length ≤ 8) (E G : Int) : ∀ (d k i : Nat) (acc : List S28), L.length - i = d → i ≤ L.length → d < k → acc.length = i →
    allotmentref17_All.l0 k acc i E G (L.map s59) = some (acc ++ (L.drop i).map fun x => s28 (x.1, x.2.1))
  | 0, k, i, acc, hd, hi, hk, ha => by
    obtain ⟨k, rfl⟩ : ∃ j, k = j + 1 := ⟨k - 1, by omega⟩
    simp only [allotmentref17_All.l0, List.length_map]
    rw [if_neg (by omega), List.drop_eq_nil_of_le (by omega)]
    simp
  | d + 1, k, i, acc, hd, hi, hk, ha => by
    obtain ⟨k, rfl⟩ : ∃ j, k = j + 1 := ⟨k - 1, by omega⟩
    have hlt : i < L.length := by omega
    simp only [allotmentref17_All.l0, List.length_map]
    rw [if_pos (by omega), if_pos (by omega), if_pos (by omega), rd59 L hlt, wr1 (by omega) (by omega), List.drop_eq_getElem_cons hlt, show ((i : Int) + 1) = ((i + 1 : Nat) : Int) by omega]
    rw [all_loop L hL E G d k (i + 1) _ (by omega) (by omega) (by omega) (by rw [List.length_append, ha]; rfl), List.append_assoc]
    rfl
theorem all_some (k : Nat) (hk : 9 ≤ k) (f : Nat → Slot) (E G : Int) : allotmentref17_All.f k E G (RL f) = some ((live f 8).map s28) := by
  have hl := lst_len f
  have := all_loop (lst f) hl E G _ k 0 [] rfl (by omega) (by omega) rfl
  unfold allotmentref17_All.f RL
  rw [show (0 : Int) = ((0 : Nat) : Int) by rfl, this, ← lst_live, List.map_map]
  rfl
theorem same_loop (l : List S28) (hL : l.length ≤ 8) : ∀ (d k i : Nat), l.length - i = d → i ≤ l.length → d < k → allotmentref17_Same.l0 k l l i = some true
  | 0, k, i, hd, hi, hk => by
    obtain ⟨k, rfl⟩ : ∃ j, k = j + 1 := ⟨k - 1, by omega⟩
    simp only [allotmentref17_Same.l0]
    rw [if_neg (by omega)]
  | d + 1, k, i, hd, hi, hk => by
    obtain ⟨k, rfl⟩ : ∃ j, k = j + 1 := ⟨k - 1, by omega⟩
    have hlt : i < l.length := by omega
    simp only [allotmentref17_Same.l0]
    rw [if_pos (by omega), if_pos (by omega), if_pos (by omega), if_neg (by simp), wr1 (by omega) (by omega), show ((i : Int) + 1) = ((i + 1 : Nat) : Int) by omega]
    exact same_loop l hL d k (i + 1) (by omega) (by omega) (by omega)
theorem same_some (k : Nat) (hk : 9 ≤ k) (l : List S28) (hL : l.length ≤ 8) : allotmentref17_Same.f k l l = some true := by
  unfold allotmentref17_Same.f
  rw [if_pos rfl]
  exact same_loop l hL _ k 0 rfl (by omega) (by omega)

/-! ### Mint, Revoke, Pick -/
theorem RL_len (f : Nat → Slot) : (RL f).length ≤ 8 := by unfold RL; rw [List.length_map]; exact lst_len f
theorem mint_bad (f : Nat → Slot) (hf : Good f) (E G : Nat) (s g r : Int) (hE : E ≤ 1073741824) (hG : G ≤ 1048576) (hm : mcode f G s g r ≠ 0) :
    allotmentref17_Mint.f 60 E G (RL f) s g r = some ((E : Int), (G : Int), RL f, 0, 0, mcode f G s g r) := by
  unfold mcode at hm ⊢
  unfold allotmentref17_Mint.f
  have h8 := check_some 60 (by omega) f hf E G s g (n := 8) (by omega)
  have e8 : ((8 : Nat) : Int) = 8 := rfl
  rw [e8] at h8
  rw [h8]
  simp only [Option.bind_some]
  by_cases c8 : ccode (gd f s g) 8 = 0
  · rw [if_neg (c := ccode (gd f s g) 8 ≠ 0) (by simpa using c8)] at hm ⊢
    rw [if_pos c8]
    by_cases hr : 0 ≤ r ∧ r < 16
    · rw [if_neg (c := ¬ (0 ≤ r ∧ r < 16)) (by simpa using hr)] at hm ⊢
      rw [if_neg (by omega)]
      obtain ⟨r, rfl⟩ := Int.eq_ofNat_of_zero_le hr.1
      have hd : decide ((r : Int) > 15) = false := by simp; omega
      rw [hd]
      simp only [allotmentref17_Mint.j0]
      rw [if_neg (by simp), check_some _ (by omega) f hf E G s g (by omega)]
      simp only [Option.bind_some]
      by_cases cr : ccode (gd f s g) r = 0
      · rw [if_neg (c := ccode (gd f s g) r ≠ 0) (by simpa using cr)] at hm ⊢
        rw [if_pos cr, free_some _ (by omega)]
        simp only [Option.bind_some]
        rcases fre_first f 8 0 with ⟨h1, h2⟩ | ⟨i, _, h2, h3, h4, h5⟩
        · rw [if_pos (c := fre f 8 0 < 0 ∨ 1048576 ≤ G) (.inl (by omega)), frc_full f (fun j hj => h2 j (by omega) (by omega)), if_pos (by omega)]
        · rw [frc_free f (by omega) h4 (fun j hj => h5 j (by omega) hj), if_neg (by omega)]
          by_cases hg : 1048576 ≤ G
          · rw [if_pos (c := fre f 8 0 < 0 ∨ 1048576 ≤ G) (.inr hg), if_pos (by omega)]
          · rw [if_neg (by rw [h3]; omega)] at hm
            exact absurd rfl hm
      · rw [if_pos cr, if_neg cr]
    · rw [if_pos hr]
      by_cases h0 : r < 0
      · rw [if_pos h0]
        simp only [allotmentref17_Mint.j0]
        rw [if_pos trivial]
      · rw [if_neg h0]
        have hd : decide (r > 15) = true := by simp; omega
        rw [hd]
        simp only [allotmentref17_Mint.j0]
        rw [if_pos trivial]
  · rw [if_pos c8, if_neg c8]
theorem RL_mint (f : Nat → Slot) {i : Nat} (hi : i < 8) (hu : (f i).1 = false) (hb : ∀ j, j < i → (f j).1 = true) (g o : Int) :
    (RL f).take i ++ [(⟨⟨(i : Int), g⟩, o⟩ : S59)] ++ (RL f).drop i = RL (upd f i (true, g, o)) := by
  unfold RL
  rw [lst_mint f hi hu hb]
  simp [s59]
theorem wraps (E G : Nat) (hE : E ≤ 1073741824) (hG : G ≤ 1048576) : wrap64 ((E : Int) * 1048576) = (E : Int) * 1048576 ∧ wrap64 ((E : Int) * 1048576 + (G : Int)) = (E : Int) * 1048576 + (G : Int) ∧ wrap64 ((G : Int) + 1) = ((G + 1 : Nat) : Int) := by
  unfold wrap64
  refine ⟨by omega, by omega, by omega⟩
theorem notge {G : Nat} (h : ¬ 1048576 ≤ G) : ¬ (G : Int) ≥ 1048576 := fun k => h (Int.ofNat_le.1 k)
theorem mint_good (f : Nat → Slot) (hf : Good f) (E G : Nat) (s g r : Int) (hE : E ≤ 1073741824) (hG : G ≤ 1048576) (hm : mcode f G s g r = 0) (i : Nat) (hfi : fre f 8 0 = i) (hi8 : i < 8) :
    allotmentref17_Mint.f 60 E G (RL f) s g r = some ((E : Int), ((G + 1 : Nat) : Int), RL (upd f i (true, E * 1048576 + G, r)), (i : Int), (E : Int) * 1048576 + G, 0) ∧ 0 ≤ r ∧ r < 16 := by
  unfold mcode at hm
  have h8 := check_some 60 (by omega) f hf E G s g (n := 8) (by omega)
  have e8 : ((8 : Nat) : Int) = 8 := rfl
  rw [e8] at h8
  by_cases c8 : ccode (gd f s g) 8 = 0
  · rw [if_neg (by simpa using c8)] at hm
    by_cases hr : 0 ≤ r ∧ r < 16
    · rw [if_neg (by simpa using hr)] at hm
      obtain ⟨r, rfl⟩ := Int.eq_ofNat_of_zero_le hr.1
      by_cases cr : ccode (gd f s g) r = 0
      · rw [if_neg (by simpa using cr)] at hm
        by_cases hG2 : 1048576 ≤ G
        · rw [if_pos (.inr hG2)] at hm; omega
        refine ⟨?_, hr⟩
        unfold allotmentref17_Mint.f
        rw [h8]
        simp only [Option.bind_some]
        rw [if_pos c8, if_neg (by omega)]
        have hd : decide ((r : Int) > 15) = false := by simp; omega
        rw [hd]
        simp only [allotmentref17_Mint.j0]
        rw [if_neg (by simp), check_some _ (by omega) f hf E G s g (by omega)]
        simp only [Option.bind_some]
        rw [if_pos cr, free_some _ (by omega)]
        simp only [Option.bind_some]
        rcases fre_first f 8 0 with ⟨h1, _⟩ | ⟨j, _, h2, h3, h4, h5⟩
        · omega
        · obtain rfl : i = j := by omega
          have hf' := frc_free f hi8 h4 (fun j hj => h5 j (by omega) hj)
          have hil : i ≤ (RL f).length := by
            have h := lst_mint f hi8 h4 (fun j hj => h5 j (by omega) hj) 0 0
            have h' := frc_free f hi8 h4 (fun j hj => h5 j (by omega) hj)
            unfold RL
            rw [List.length_map]
            have hall := lsl_all f (List.range i) (fun j hj => h5 j (by omega) (List.mem_range.1 hj))
            rw [lst_at f hi8, hall]
            simp
          have hl8 := RL_len f
          have t1 : ((RL f).take i).length ≤ 8 := by rw [List.length_take]; omega
          have t2 : ((RL f).drop i).length ≤ 8 := by rw [List.length_drop]; omega
          have t3 : ∀ x : S59, ((RL f).take i ++ [x]).length ≤ 9 := by intro x; rw [List.length_append]; simp only [List.length_singleton]; omega
          obtain ⟨w1, w2, w3⟩ := wraps E G hE hG
          have c1 : ¬ (i : Int) > 7 := by omega
          have c2 : ¬ (G : Int) ≥ 1048576 := notge hG2
          have c3 : (0 : Int) ≤ (i : Int) := by omega
          have c4 : (i : Int) ≤ ((RL f).length : Int) := by omega
          rw [hf', if_neg c1, if_neg c2, if_pos c3, if_pos c4, w1, w2, w3]
          have hbig : 100 < 5864062014805 := by omega
          generalize 5864062014805 = M at hbig ⊢
          simp only [Int.toNat_natCast, List.nil_append, List.length_nil, Nat.zero_add]
          have t3' := t3 ⟨⟨(i : Int), (E : Int) * 1048576 + (G : Int)⟩, (r : Int)⟩
          rw [if_pos (c := ((RL f).take i).length < M) (by omega), if_pos (c := ((RL f).take i).length < M) (by omega), if_pos (by omega), RL_mint f hi8 h4 (fun j hj => h5 j (by omega) hj)]
      · rw [if_pos (by simpa using cr)] at hm; exact absurd hm cr
    · rw [if_pos hr] at hm; omega
  · rw [if_pos (by simpa using c8)] at hm; exact absurd hm c8
theorem RL_revoke (f : Nat → Slot) {i : Nat} (hi : i < 8) (hu : (f i).1 = true) :
    (RL f).take (lsl f (List.range i)).length ++ (RL f).drop ((lsl f (List.range i)).length + 1) = RL (upd f i (false, 0, 0)) := by
  unfold RL
  rw [lst_revoke f hi hu]
  simp
theorem revoke_bad' (f : Nat → Slot) (hf : Good f) (E G : Nat) (s g s2 g2 : Int) (hm : rvcode f s g s2 g2 ≠ 0) :
    allotmentref17_Revoke.f 60 E G (RL f) s g s2 g2 = some ((E : Int), (G : Int), RL f, rvcode f s g s2 g2) := by
  unfold rvcode at hm ⊢
  unfold allotmentref17_Revoke.f
  have h8 := check_some 60 (by omega) f hf E G s g (n := 8) (by omega)
  have e8 : ((8 : Nat) : Int) = 8 := rfl
  rw [e8] at h8
  rw [h8]
  simp only [Option.bind_some]
  by_cases c8 : ccode (gd f s g) 8 = 0
  · rw [if_neg (c := ccode (gd f s g) 8 ≠ 0) (by simpa using c8)] at hm ⊢
    rw [if_pos c8, find_some 60 (by omega)]
    simp only [Option.bind_some]
    rcases gd_cases f s2 g2 with ⟨h1, h2⟩ | ⟨i, hi, rfl, hu, rfl, h1, h2, h3⟩
    · rw [h1]; unfold fidx; rw [h2]
      rfl
    · rw [h1] at hm
      exact absurd rfl hm
  · rw [if_pos c8, if_neg c8]
theorem revoke_good' (f : Nat → Slot) (hf : Good f) (E G : Nat) (s g : Int) (i : Nat) (hi : i < 8) (hu : (f i).1 = true) (hm : rvcode f s g i (f i).2.1 = 0) :
    allotmentref17_Revoke.f 60 E G (RL f) s g i (f i).2.1 = some ((E : Int), (G : Int), RL (upd f i (false, 0, 0)), 0) := by
  unfold rvcode at hm
  have h8 := check_some 60 (by omega) f hf E G s g (n := 8) (by omega)
  have e8 : ((8 : Nat) : Int) = 8 := rfl
  rw [e8] at h8
  by_cases c8 : ccode (gd f s g) 8 = 0
  · unfold allotmentref17_Revoke.f
    rw [h8]
    simp only [Option.bind_some]
    rw [if_pos c8, find_some 60 (by omega)]
    simp only [Option.bind_some]
    unfold fidx
    rw [fnd_at f hi hu]
    dsimp only
    have hlt := lsl_lt f hi hu
    have hl8 := RL_len f
    have hlr : (lst f).length = (RL f).length := by unfold RL; rw [List.length_map]
    have hrv := RL_revoke f hi hu
    generalize (lsl f (List.range i)).length = m at *
    have t1 : ((RL f).take m).length ≤ 8 := by rw [List.length_take]; omega
    have t2 : ((RL f).drop (m + 1)).length ≤ 8 := by rw [List.length_drop]; omega
    have e1 : ((m : Int) + 1).toNat = m + 1 := by omega
    rw [if_neg (by omega), if_pos (by omega), if_pos (by omega), wr1 (by omega) (by omega)]
    have hbig : 100 < 5864062014805 := by omega
    generalize 5864062014805 = M at hbig ⊢
    simp only [Int.toNat_natCast, List.nil_append, e1, List.length_nil, Nat.zero_add]
    rw [if_pos (by omega), if_pos (by omega), if_pos (by omega), if_pos (by omega), hrv]
  · rw [if_pos (by simpa using c8)] at hm; exact absurd hm c8
theorem ar_some (a m : Int) (hm : 0 < m) (ha : (Lit.int .i64 a).wf = true) : ∃ y, allotmentref01_Around.f a m = some y ∧ 0 ≤ y ∧ y < m := by
  have hb := wf64 ha
  have hm0 : ¬ m = 0 := by omega
  have key : ∀ b : Int, 0 ≤ b → 0 ≤ Int.tmod b m ∧ Int.tmod b m < m := fun b h => ⟨Int.tmod_nonneg _ h, Int.tmod_lt_of_pos _ hm⟩
  unfold allotmentref01_Around.f
  by_cases h : a < 0
  · rw [if_pos h, if_neg hm0]
    exact ⟨_, rfl, key _ (by unfold wrap64; omega)⟩
  · rw [if_neg h, if_neg hm0]
    exact ⟨_, rfl, key _ (by omega)⟩
theorem pick_some (l : List S28) (h0 : 0 < l.length) (hl : l.length ≤ 1000) (a n : Int) (ha : (Lit.int .i64 a).wf = true) (hn : (Lit.int .i64 n).wf = true) :
    ∃ x y, allotmentref17_Pick.f l a n = some (x, y) := by
  have hw : wrap64 ((l.length : Int) + 2) = (l.length : Int) + 2 := by unfold wrap64; omega
  obtain ⟨y, hy, y0, y1⟩ := ar_some a ((l.length : Int) + 2) (by omega) ha
  obtain ⟨z, hz, z0, z1⟩ := ar_some n (l.length : Int) (by omega) hn
  obtain ⟨u, hu, u0, u1⟩ := ar_some n 9 (by omega) hn
  unfold allotmentref17_Pick.f
  rw [hw, hy]
  simp only [Option.bind_some]
  by_cases c1 : y < (l.length : Int)
  · rw [if_pos c1, if_pos y0]; exact ⟨_, _, rfl⟩
  · rw [if_neg c1]
    by_cases c2 : y = (l.length : Int)
    · rw [if_pos c2]; exact ⟨_, _, rfl⟩
    · rw [if_neg c2, hz]
      simp only [Option.bind_some]
      rw [if_pos z0, if_pos z1, hu]
      exact ⟨_, _, rfl⟩
end Go.Proofs.Ythdcffbifgifeaa.Plays
