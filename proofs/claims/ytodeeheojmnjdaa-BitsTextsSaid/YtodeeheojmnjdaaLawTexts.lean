/- The walk of BitsTexts. -/
import Derived.Test.YtodeeheojmnjdaaLawAdds
namespace Go.Proofs.Ytodeeheojmnjdaa
open Go.RowKit
set_option linter.unusedVariables false

def tx (l : List Bool) : ByteArray := ⟨(l.map fun b => if b then (49 : UInt8) else 48).toArray⟩
theorem tx_size (l : List Bool) : (tx l).size = l.length := by simp [tx, ByteArray.size]
theorem tx_succ (l : List Bool) (k : Nat) (h : k < l.length) : tx (l.take (k + 1)) = tx (l.take k) ++ (if l.getD k false then ⟨#[49]⟩ else ⟨#[48]⟩) := by
  have e : l.take (k + 1) = l.take k ++ [l.getD k false] := by
    rw [List.take_add_one, List.getD_eq_getElem?_getD, List.getElem?_eq_getElem h]
    rfl
  rw [e]
  unfold tx
  cases l.getD k false <;> (apply ByteArray.ext; simp)

theorem text_any (v : Value) (l : List Bool) (w : World) (H : BB w 0 v l) (hl : l.length ≤ 1000) :
    Calls Try.prog 19 #[v] w fun e w' => e = .returned (.string (tx l)) ∧ w = w' := by
  obtain ⟨A, c, rfl, _⟩ := H.shape
  have HH := Lib.hid H
  have hli : (l.length : Int) ≤ 1000 := by omega
  clear H
  go_enter Try.func19, Try.ntmps19
  go_wp2
  go_loopw [3, 5, 8] (fun s _ c wr => ∃ k : Nat, k ≤ l.length ∧ s = .string (tx (l.take k)) ∧ c = .int .i64 k ∧ w = wr) (fun _ _ c _ => l.length - (intOf c).toNat)
  case atStart => exact ⟨0, by omega, rfl, rfl, rfl⟩
  case round =>
    obtain ⟨k, hk, rfl, rfl, rfl⟩ := hrel
    by_cases hlt : k < l.length
    · have hki : (k : Int) < (l.length : Int) := by omega
      obtain ⟨b, o, rfl, _, hcell⟩ := HH.out.at (by omega)
      have d0 := hcell k hlt
      have htx := Lib.hid (tx_succ l k hlt)
      have hsz : (tx (l.take k)).size + 1 ≤ 9223372036854775807 := by rw [tx_size]; simp; omega
      have hsz2 : ((tx (l.take k)).size : Int) + 1 ≤ 9223372036854775807 := by omega
      clear hcell
      cases hx : l.getD k false
      · rw [hx] at d0 htx
        generalize tx (l.take k) = s at *
        go_wp2
        go_roundw
        case rel => exact ⟨k + 1, by omega, by rw [htx.out]; rfl, by go_num, trivial⟩
        case measure => simp [intOf]; omega
      · rw [hx] at d0 htx
        generalize tx (l.take k) = s at *
        go_wp2
        go_roundw
        case rel => exact ⟨k + 1, by omega, by rw [htx.out]; rfl, by go_num, trivial⟩
        case measure => simp [intOf]; omega
    · have e : k = l.length := by omega
      subst e
      rw [List.take_length]
      go_wp2
      go_ret
      exact ⟨rfl, rfl⟩

theorem rtext_any (v : Value) (l : List Bool) (w : World) (H : BB w 0 v l) (hl : l.length ≤ 1000) :
    Calls Try.prog 23 #[v] w fun e w' => e = .returned (.string (tx l)) ∧ w = w' := by
  obtain ⟨A, c, rfl, _⟩ := H.shape
  have HH := Lib.hid H
  have hli : (l.length : Int) ≤ 1000 := by omega
  clear H
  go_enter Try.func23, Try.ntmps23
  go_wp2
  go_loopw [3, 4] (fun s c wr => ∃ k : Nat, k ≤ l.length ∧ s = .string (tx (l.take k)) ∧ c = .int .i64 k ∧ w = wr) (fun _ c _ => l.length - (intOf c).toNat)
  case atStart => exact ⟨0, by omega, rfl, rfl, rfl⟩
  case round =>
    obtain ⟨k, hk, rfl, rfl, rfl⟩ := hrel
    by_cases hlt : k < l.length
    · have hki : (k : Int) < (l.length : Int) := by omega
      obtain ⟨b, o, rfl, _, hcell⟩ := HH.out.at (by omega)
      have d0 := hcell k hlt
      have htx := Lib.hid (tx_succ l k hlt)
      have hsz : (tx (l.take k)).size + 1 ≤ 9223372036854775807 := by rw [tx_size]; simp; omega
      have hsz2 : ((tx (l.take k)).size : Int) + 1 ≤ 9223372036854775807 := by omega
      clear hcell
      cases hx : l.getD k false
      · rw [hx] at d0 htx
        generalize tx (l.take k) = s at *
        go_wp2
        go_roundw
        case rel => exact ⟨k + 1, by omega, by rw [htx.out]; rfl, by go_num, trivial⟩
        case measure => simp [intOf]; omega
      · rw [hx] at d0 htx
        generalize tx (l.take k) = s at *
        go_wp2
        go_roundw
        case rel => exact ⟨k + 1, by omega, by rw [htx.out]; rfl, by go_num, trivial⟩
        case measure => simp [intOf]; omega
    · have e : k = l.length := by omega
      subst e
      rw [List.take_length]
      go_wp2
      go_ret
      exact ⟨rfl, rfl⟩


def okc (c : UInt8) : Bool := c == 48 || c == 49
def okt (s : ByteArray) : Bool := s.data.toList.all okc
def pl (s : ByteArray) : List Bool := if okt s then s.data.toList.map (· == 49) else []
def er (s : ByteArray) : Int := if okt s then 0 else 2
theorem len_data (s : ByteArray) : s.data.toList.length = s.size := Array.length_toList
theorem take_byte (s : ByteArray) (k : Nat) (h : k < s.size) : s.data.toList.take (k + 1) = s.data.toList.take k ++ [s[k]] := by
  rw [List.take_add_one]
  have h' : k < s.data.toList.length := by rw [len_data]; exact h
  rw [List.getElem?_eq_getElem h']
  rfl
theorem byte_of {c : UInt8} {n : Int} {m : UInt8} (h : (c.toNat : Int) = n) (hm : (m.toNat : Int) = n) : c = m := by
  apply UInt8.toNat_inj.1
  omega
theorem bad_at (s : ByteArray) (k : Nat) (h : k < s.size) (h1 : ¬ (s[k].toNat : Int) = 48) (h2 : ¬ (s[k].toNat : Int) = 49) : okt s = false := by
  have hm : s[k] ∈ s.data.toList := by
    have h' : k < s.data.toList.length := by rw [len_data]; exact h
    exact List.getElem_mem h'
  rw [← Bool.not_eq_true]
  intro hall
  have hc := List.all_eq_true.1 hall _ hm
  simp only [okc, Bool.or_eq_true, beq_iff_eq] at hc
  rcases hc with e | e <;> rw [e] at h1 h2 <;> simp at h1 h2

theorem parse_any (s : ByteArray) (w : World) (hs : s.size ≤ 1000) :
    Calls Try.prog 20 #[.string s] w fun e w' => ∃ v, e = .returned (.tuple #[v, Value.int .i64 (er s)]) ∧ BB w' w.heap.size v (pl s) ∧ Below w.heap.size w w' := by
  have hsi : (s.size : Int) ≤ 1000 := by omega
  go_enter Try.func20, Try.ntmps20
  go_wp2
  go_loopw [4, 5, 8] (fun v _ c wr => ∃ k : Nat, k ≤ s.size ∧ c = .int .i64 k ∧ (s.data.toList.take k).all okc = true ∧ wr.ownsRow w.heap.size 4 1 v k (bools ((s.data.toList.take k).map (· == 49))) ∧ Below w.heap.size w wr) (fun _ _ c _ => s.size - (intOf c).toNat)
  case atStart => exact ⟨0, by omega, rfl, by simp, by simpa [bools] using own_nil _ _ _ _, Below.refl _ _⟩
  case round =>
    obtain ⟨k, hk, rfl, hall, hown, hbel⟩ := hrel
    have hsz := hbel.size
    have HBE := Lib.hid hbel
    have HOW := Lib.hid hown
    have HAL := Lib.hid hall
    clear hall hown hbel
    by_cases hlt : k < s.size
    · have hki : (k : Int) < (s.size : Int) := by omega
      have hk0 : (0 : Int) ≤ (k : Int) := by omega
      have HTK := Lib.hid (take_byte s k hlt)
      by_cases h48 : (s[k].toNat : Int) = 48
      · have hb := byte_of (c := s[k]) (n := 48) (m := 48) h48 (by decide)
        go_wp2_with (at_builtin; refine app_one HOW.out [.bool false] rfl rfl Try.underlying22 info4' rfl (by decide) rfl rfl rfl rfl (one_bool _) hsz (by omega) (by omega) ?_; intro v1 w1 hown1 hbel1 hgr)
        have HO1 := Lib.hid hown1
        have HB1 := Lib.hid (HBE.out.trans hbel1)
        clear hown1 hbel1 hgr
        go_roundw
        case rel => exact ⟨k + 1, by omega, by go_num, by rw [HTK.out, List.all_append, HAL.out, hb]; rfl, by rw [HTK.out, hb]; simpa [bools] using HO1.out, HB1.out⟩
        case measure => simp [intOf]; omega
      · by_cases h49 : (s[k].toNat : Int) = 49
        · have hb := byte_of (c := s[k]) (n := 49) (m := 49) h49 (by decide)
          go_wp2_with (at_builtin; refine app_one HOW.out [.bool true] rfl rfl Try.underlying22 info4' rfl (by decide) rfl rfl rfl rfl (one_bool _) hsz (by omega) (by omega) ?_; intro v1 w1 hown1 hbel1 hgr)
          have HO1 := Lib.hid hown1
          have HB1 := Lib.hid (HBE.out.trans hbel1)
          clear hown1 hbel1 hgr
          go_roundw
          case rel => exact ⟨k + 1, by omega, by go_num, by rw [HTK.out, List.all_append, HAL.out, hb]; rfl, by rw [HTK.out, hb]; simpa [bools] using HO1.out, HB1.out⟩
          case measure => simp [intOf]; omega
        · have hbad := Lib.hid (bad_at s k hlt h48 h49)
          have h48n : ¬ s[k].toNat = 48 := by omega
          have h49n : ¬ s[k].toNat = 49 := by omega
          have h48b : ((s[k].toNat : Int) == 48) = false := by simp; omega
          have h49b : ((s[k].toNat : Int) == 49) = false := by simp; omega
          have h48c : ((s[k].toNat : Int) != 48) = true := by simp; omega
          have h49c : ((s[k].toNat : Int) != 49) = true := by simp; omega
          obtain ⟨Ax, cx, rfl⟩ := own_slice HOW.out
          go_wp2
          refine bodyPost_ret (v := .tuple #[.slice none 0 0, .int .i64 2]) (by simp [results, Try.results20, go_sem]) rfl ⟨_, by rw [show Value.int .i64 (er s) = .int .i64 2 by simp [er, hbad.out]], by rw [show pl s = [] by simp [pl, hbad.out]]; exact BB.nil _ _, HBE.out⟩
    · have e : k = s.size := by omega
      subst e
      have hall := HAL.out
      have hown := HOW.out
      rw [List.take_of_length_le (by rw [len_data]; exact Nat.le_refl _)] at hall hown
      have hok : okt s = true := hall
      have HO := Lib.hid hown
      obtain ⟨A, c, rfl⟩ := own_slice hown
      have HOK := Lib.hid hok
      clear hall hown hok
      go_wp2
      refine bodyPost_ret (v := .tuple #[.slice A s.size c, .int .i64 0]) (by simp [results, Try.results20, go_sem]) rfl ⟨_, by rw [show Value.int .i64 (er s) = .int .i64 0 by simp [er, HOK.out]], by rw [show pl s = s.data.toList.map (· == 49) by simp [pl, HOK.out]]; exact own_BB HO.out, HBE.out⟩

theorem rparse_any (s : ByteArray) (w : World) (hs : s.size ≤ 1000) :
    Calls Try.prog 22 #[.string s] w fun e w' => ∃ v, e = .returned (.tuple #[v, Value.bool (okt s)]) ∧ BB w' w.heap.size v (pl s) ∧ Below w.heap.size w w' := by
  have hsi : (s.size : Int) ≤ 1000 := by omega
  go_enter Try.func22, Try.ntmps22
  go_wp2
  go_loopw [4, 5] (fun v c wr => ∃ k : Nat, k ≤ s.size ∧ c = .int .i64 k ∧ (s.data.toList.take k).all okc = true ∧ wr.ownsRow w.heap.size 4 1 v k (bools ((s.data.toList.take k).map (· == 49))) ∧ Below w.heap.size w wr) (fun _ c _ => s.size - (intOf c).toNat)
  case atStart => exact ⟨0, by omega, rfl, by simp, by simpa [bools] using own_nil _ _ _ _, Below.refl _ _⟩
  case round =>
    obtain ⟨k, hk, rfl, hall, hown, hbel⟩ := hrel
    have hsz := hbel.size
    have HBE := Lib.hid hbel
    have HOW := Lib.hid hown
    have HAL := Lib.hid hall
    clear hall hown hbel
    by_cases hlt : k < s.size
    · have hki : (k : Int) < (s.size : Int) := by omega
      have hk0 : (0 : Int) ≤ (k : Int) := by omega
      have HTK := Lib.hid (take_byte s k hlt)
      by_cases h48 : (s[k].toNat : Int) = 48
      · have hb := byte_of (c := s[k]) (n := 48) (m := 48) h48 (by decide)
        go_wp2_with (at_builtin; refine app_one HOW.out [.bool false] rfl rfl Try.underlying22 info4' rfl (by decide) rfl rfl rfl rfl (one_bool _) hsz (by omega) (by omega) ?_; intro v1 w1 hown1 hbel1 hgr)
        have HO1 := Lib.hid hown1
        have HB1 := Lib.hid (HBE.out.trans hbel1)
        clear hown1 hbel1 hgr
        go_roundw
        case rel => exact ⟨k + 1, by omega, by go_num, by rw [HTK.out, List.all_append, HAL.out, hb]; rfl, by rw [HTK.out, hb]; simpa [bools] using HO1.out, HB1.out⟩
        case measure => simp [intOf]; omega
      · by_cases h49 : (s[k].toNat : Int) = 49
        · have hb := byte_of (c := s[k]) (n := 49) (m := 49) h49 (by decide)
          go_wp2_with (at_builtin; refine app_one HOW.out [.bool true] rfl rfl Try.underlying22 info4' rfl (by decide) rfl rfl rfl rfl (one_bool _) hsz (by omega) (by omega) ?_; intro v1 w1 hown1 hbel1 hgr)
          have HO1 := Lib.hid hown1
          have HB1 := Lib.hid (HBE.out.trans hbel1)
          clear hown1 hbel1 hgr
          go_roundw
          case rel => exact ⟨k + 1, by omega, by go_num, by rw [HTK.out, List.all_append, HAL.out, hb]; rfl, by rw [HTK.out, hb]; simpa [bools] using HO1.out, HB1.out⟩
          case measure => simp [intOf]; omega
        · have hbad := Lib.hid (bad_at s k hlt h48 h49)
          have h48n : ¬ s[k].toNat = 48 := by omega
          have h49n : ¬ s[k].toNat = 49 := by omega
          have h48b : ((s[k].toNat : Int) == 48) = false := by simp; omega
          have h49b : ((s[k].toNat : Int) == 49) = false := by simp; omega
          have h48c : ((s[k].toNat : Int) != 48) = true := by simp; omega
          have h49c : ((s[k].toNat : Int) != 49) = true := by simp; omega
          obtain ⟨Ax, cx, rfl⟩ := own_slice HOW.out
          go_wp2
          refine bodyPost_ret (v := .tuple #[.slice none 0 0, .bool false]) (by simp [results, Try.results22, go_sem]) rfl ⟨_, by rw [show Value.bool (okt s) = .bool false by simp [er, hbad.out]], by rw [show pl s = [] by simp [pl, hbad.out]]; exact BB.nil _ _, HBE.out⟩
    · have e : k = s.size := by omega
      subst e
      have hall := HAL.out
      have hown := HOW.out
      rw [List.take_of_length_le (by rw [len_data]; exact Nat.le_refl _)] at hall hown
      have hok : okt s = true := hall
      have HO := Lib.hid hown
      obtain ⟨A, c, rfl⟩ := own_slice hown
      have HOK := Lib.hid hok
      clear hall hown hok
      go_wp2
      refine bodyPost_ret (v := .tuple #[.slice A s.size c, .bool true]) (by simp [results, Try.results22, go_sem]) rfl ⟨_, by rw [show Value.bool (okt s) = .bool true by simp [er, HOK.out]], by rw [show pl s = s.data.toList.map (· == 49) by simp [pl, HOK.out]]; exact own_BB HO.out, HBE.out⟩

/-- The first twenty bytes. -/
def sh (s : ByteArray) : ByteArray := if 20 < s.size then s.extract 0 20 else s
theorem sh_size (s : ByteArray) : (sh s).size ≤ 20 := by
  unfold sh
  split
  · simp; omega
  · omega
theorem short_any (s : ByteArray) (w : World) (hs : s.size ≤ 9223372036854775807) :
    Calls Try.prog 21 #[.string s, .int .i64 20] w fun e w' => e = .returned (.string (sh s)) ∧ w = w' := by
  unfold sh
  by_cases h : 20 < s.size
  · rw [if_pos h]
    have hi : (20 : Int) < (s.size : Int) := by omega
    have h5 : 20 ≤ s.size := by omega
    have h5i : (20 : Int) ≤ (s.size : Int) := by omega
    go_enter Try.func21, Try.ntmps21
    go_wp2
    go_ret
    exact ⟨rfl, rfl⟩
  · rw [if_neg h]
    have hi : ¬ (20 : Int) < (s.size : Int) := by omega
    go_enter Try.func21, Try.ntmps21
    go_wp2
    go_ret
    exact ⟨rfl, rfl⟩

theorem ok_tx (l : List Bool) : okt (tx l) = true := by
  unfold okt tx
  simp [okc]
theorem pl_tx (l : List Bool) : pl (tx l) = l := by
  unfold pl
  rw [if_pos (ok_tx l)]
  unfold tx
  simp
  apply List.ext_getElem (by simp)
  intro i h1 h2
  simp
  cases l[i] <;> simp

theorem law_texts (v : Value) (l : List Bool) (s : ByteArray) (w : World) (H : BB w 0 v l) (hs : s.size ≤ 9223372036854775807) :
    Calls Try.prog 7 #[v, .string s] w fun e w' => e = .returned (.bool true) ∧ Below w.heap.size w w' := by
  have HF := Lib.hid (few_any v l 0 20 w H (by omega))
  have HSH := Lib.hid (fun W => short_any s W hs)
  obtain ⟨A, c, rfl, _⟩ := H.shape
  clear H
  have hl : (l.take 20).length ≤ 20 := by simp; omega
  generalize l.take 20 = L at *
  have hsz := sh_size s
  generalize sh s = z at *
  have HP2 := Lib.hid (fun W => parse_any z W (by omega))
  have HP3 := Lib.hid (fun W => rparse_any z W (by omega))
  clear hsz
  cases hz : okt z
  · have he : er z = 2 := by simp [er, hz]
    rw [he] at HP2
    rw [hz] at HP3
    generalize pl z = Z at *
    clear he hz
    go_enter Try.func7, Try.ntmps7
    go_wp2_with fail
    refine HF.out.mono ?_
    rintro e w' ⟨y1, rfl, hy1, rfl⟩
    obtain ⟨A0, c0, rfl, _⟩ := hy1.shape
    have HY := Lib.hid hy1
    have HT := Lib.hid (fun W (h : Below w.heap.size w W) => rtext_any _ L W (hy1.below h) (by omega))
    clear hy1 HF
    go_wp2_with fail
    refine (text_any _ L _ HY.out (by omega)).mono ?_
    rintro e w' ⟨rfl, rfl⟩
    have HP := Lib.hid (parse_any (tx L) w (by rw [tx_size]; omega))
    rw [show er (tx L) = 0 by simp [er, ok_tx], pl_tx] at HP
    generalize tx L = x at *
    go_wp2_with fail
    refine HP.out.mono ?_
    rintro e w1 ⟨v1, rfl, hv1, hb1⟩
    obtain ⟨A1, c1, rfl, _⟩ := hv1.shape
    have HV1 := Lib.hid hv1
    have HB1 := Lib.hid hb1
    clear hv1 hb1 HP
    go_wp2_with fail
    refine (HSH.out w1).mono ?_
    rintro e w' ⟨rfl, rfl⟩
    go_wp2_with fail
    refine (HP2.out w1).mono ?_
    rintro e w2 ⟨v2, rfl, hv2, hb2⟩
    obtain ⟨A2, c2, rfl, _⟩ := hv2.shape
    have HV2 := Lib.hid hv2
    have HB2 := Lib.hid (HB1.out.trans (hb2.mono HB1.out.size))
    have HV1 := Lib.hid (HV1.out.below hb2)
    clear hv2 hb2 HP2
    go_wp2_with fail
    refine (HP3.out w2).mono ?_
    rintro e w3 ⟨v3, rfl, hv3, hb3⟩
    obtain ⟨A3, c3, rfl, _⟩ := hv3.shape
    have HB3 := Lib.hid (HB2.out.trans (hb3.mono HB2.out.size))
    have HV1 := Lib.hid (HV1.out.below hb3)
    have HS1 := Lib.hid (same_any _ _ L _ _ w3 HV1.out (HY.out.below HB3.out))
    have HV2 := Lib.hid (HV2.out.below hb3)
    have HV3 := Lib.hid hv3
    clear hv3 hb3 HP3 HB1 HB2
    go_wp2_with fail
    refine (HT.out _ HB3.out).mono ?_
    rintro e w' ⟨rfl, rfl⟩
    go_wp2_with fail
    refine HS1.out.mono ?_
    rintro e w4 ⟨rfl, hb4⟩
    have HS2 := Lib.hid (same_any _ _ _ _ _ w4 (HV2.out.below hb4) (HV3.out.below hb4))
    have HB4 := Lib.hid (HB3.out.trans (hb4.mono HB3.out.size))
    clear hb4 HS1
    go_wp2_with fail
    refine HS2.out.mono ?_
    rintro e w5 ⟨rfl, hb5⟩
    have HB5 := Lib.hid (HB4.out.trans (hb5.mono HB4.out.size))
    clear hb5 HS2
    go_wp2_with (go_at_call 18; refine (lives_any _).mono ?_; rintro e w' ⟨rfl, hb⟩)
    go_ret
    exact ⟨rfl, HB5.out.trans (hb.mono HB5.out.size)⟩
  · have he : er z = 0 := by simp [er, hz]
    rw [he] at HP2
    rw [hz] at HP3
    generalize pl z = Z at *
    clear he hz
    go_enter Try.func7, Try.ntmps7
    go_wp2_with fail
    refine HF.out.mono ?_
    rintro e w' ⟨y1, rfl, hy1, rfl⟩
    obtain ⟨A0, c0, rfl, _⟩ := hy1.shape
    have HY := Lib.hid hy1
    have HT := Lib.hid (fun W (h : Below w.heap.size w W) => rtext_any _ L W (hy1.below h) (by omega))
    clear hy1 HF
    go_wp2_with fail
    refine (text_any _ L _ HY.out (by omega)).mono ?_
    rintro e w' ⟨rfl, rfl⟩
    have HP := Lib.hid (parse_any (tx L) w (by rw [tx_size]; omega))
    rw [show er (tx L) = 0 by simp [er, ok_tx], pl_tx] at HP
    generalize tx L = x at *
    go_wp2_with fail
    refine HP.out.mono ?_
    rintro e w1 ⟨v1, rfl, hv1, hb1⟩
    obtain ⟨A1, c1, rfl, _⟩ := hv1.shape
    have HV1 := Lib.hid hv1
    have HB1 := Lib.hid hb1
    clear hv1 hb1 HP
    go_wp2_with fail
    refine (HSH.out w1).mono ?_
    rintro e w' ⟨rfl, rfl⟩
    go_wp2_with fail
    refine (HP2.out w1).mono ?_
    rintro e w2 ⟨v2, rfl, hv2, hb2⟩
    obtain ⟨A2, c2, rfl, _⟩ := hv2.shape
    have HV2 := Lib.hid hv2
    have HB2 := Lib.hid (HB1.out.trans (hb2.mono HB1.out.size))
    have HV1 := Lib.hid (HV1.out.below hb2)
    clear hv2 hb2 HP2
    go_wp2_with fail
    refine (HP3.out w2).mono ?_
    rintro e w3 ⟨v3, rfl, hv3, hb3⟩
    obtain ⟨A3, c3, rfl, _⟩ := hv3.shape
    have HB3 := Lib.hid (HB2.out.trans (hb3.mono HB2.out.size))
    have HV1 := Lib.hid (HV1.out.below hb3)
    have HS1 := Lib.hid (same_any _ _ L _ _ w3 HV1.out (HY.out.below HB3.out))
    have HV2 := Lib.hid (HV2.out.below hb3)
    have HV3 := Lib.hid hv3
    clear hv3 hb3 HP3 HB1 HB2
    go_wp2_with fail
    refine (HT.out _ HB3.out).mono ?_
    rintro e w' ⟨rfl, rfl⟩
    go_wp2_with fail
    refine HS1.out.mono ?_
    rintro e w4 ⟨rfl, hb4⟩
    have HS2 := Lib.hid (same_any _ _ _ _ _ w4 (HV2.out.below hb4) (HV3.out.below hb4))
    have HB4 := Lib.hid (HB3.out.trans (hb4.mono HB3.out.size))
    clear hb4 HS1
    go_wp2_with fail
    refine HS2.out.mono ?_
    rintro e w5 ⟨rfl, hb5⟩
    have HB5 := Lib.hid (HB4.out.trans (hb5.mono HB4.out.size))
    clear hb5 HS2
    go_wp2_with (go_at_call 18; refine (lives_any _).mono ?_; rintro e w' ⟨rfl, hb⟩)
    go_ret
    exact ⟨rfl, HB5.out.trans (hb.mono HB5.out.size)⟩
end Go.Proofs.Ytodeeheojmnjdaa
