/- Rows of ticks, and whether two rows are one. -/
import Derived.Test.YtcgjgmoemmokdaaSlots
namespace Go.Proofs.Ytcgjgmoemmokdaa
open Go.RowKit Slots
set_option linter.unusedVariables false

theorem info3 : (Try.prog.info? 3).map (fun i => (i.zero, i.size, i.bytes)) = some (some (.int .i64 0), 1, 8) := by kernel_rfl
/-- Owners, one behind the other. -/
def owners (n t : Int) (m : Nat) : List Int := (List.range m).map fun j : Nat => (t + (j : Int)) % n
theorem owners_length (n t : Int) (m : Nat) : (owners n t m).length = m := by simp [owners]
theorem owners_succ (n t : Int) (m : Nat) : owners n t (m + 1) = owners n t m ++ [(t + (m : Int)) % n] := by simp [owners, List.range_succ]

def RowPost (W : World) (xs : List Int) (e : Ending) (w' : World) : Prop := ∃ v, e = .returned v ∧ w'.ownsRow W.heap.size 3 1 v xs.length (ints xs) ∧ Below W.heap.size W w'

theorem row_any (b : Nat) (n t : Int) (m : Nat) (w : World) (hc : w.cell? ⟨b, 0, none⟩ = some (.int .i64 n)) (h1 : 1 ≤ n) (h2 : n ≤ 16) (ht : 0 ≤ t) (ht' : t ≤ 1099511627792) (hm : m ≤ 40) :
    Calls Try.prog 20 #[.pointer (some ⟨b, 0, none⟩), .int .i64 t, .int .i64 (m : Int)] w (RowPost w (owners n t m)) := by
  have hb := cell_lt hc
  go_enter Try.func20, Try.ntmps20
  go_wp2
  go_loopw [8, 14] (fun v c wr => ∃ k : Nat, k ≤ m ∧ c = .int .i64 k ∧ wr.ownsRow w.heap.size 3 1 v k (ints (owners n t k)) ∧ Below w.heap.size w wr) (fun _ c _ => m - (intOf c).toNat)
  case atStart => exact ⟨0, by omega, rfl, own_nil _ _ _ _, Below.refl _ _⟩
  case round =>
    obtain ⟨k, hk, rfl, hown, hbel⟩ := hrel
    have hcr := cell_below hbel hc
    have hsz := hbel.size
    have HO := Lib.hid hown
    have HB := Lib.hid hbel
    clear hown hbel hc
    by_cases hlt : k < m
    · go_wp2_with (first | (go_at_call 13; refine (owner_any b n _ _ hcr h1 h2 (by omega) (by omega)).mono ?_; rintro e w' ⟨rfl, rfl⟩) | (at_builtin; refine app_one HO.out [.int .i64 ((t + k) % n)] rfl rfl Try.underlying34 info3 rfl (by decide) rfl rfl rfl (one_int _) hsz (by omega) (by omega) ?_; intro v1 w1 hown1 hbel1 _))
      go_roundw
      case rel => exact ⟨k + 1, by omega, by go_num, by rw [owners_succ, ints_append]; exact hown1, HB.out.trans hbel1⟩
      case measure => simp [intOf]; omega
    · obtain rfl : k = m := by omega
      go_wp2
      go_ret
      exact ⟨_, rfl, by rw [owners_length]; exact HO.out, HB.out⟩

theorem same_any (v1 v2 : Value) (xs ys : List Int) (w : World) (h1 : IntsAt w v1 xs) (h2 : IntsAt w v2 ys) :
    Calls Try.prog 19 #[v1, v2] w fun e w' => e = .returned (.bool (decide (xs = ys))) ∧ ∃ q, w' = w.drewN q := by
  obtain ⟨A, c, rfl, hm, hcx⟩ := h1
  obtain ⟨A', c', rfl, hm', hcy⟩ := h2
  by_cases hl : xs.length = ys.length
  · have hln : ((xs.length : Int) != (ys.length : Int)) = false := by simp [hl]
    by_cases h0 : xs.length = 0
    · have e1 : xs = [] := List.eq_nil_of_length_eq_zero h0
      have e2 : ys = [] := List.eq_nil_of_length_eq_zero (by omega)
      subst e1 e2
      clear hcx hcy hl hln h0
      go_enter Try.func19, Try.ntmps19
      go_wp2
      refine wp_loop_rounds 1 ?_
      rw [rounds_succ]
      go_wp2
      go_ret
      exact ⟨rfl, 0, rfl⟩
    · obtain ⟨b, o, rfl, hx⟩ := hcx (by omega)
      obtain ⟨b', o', rfl, hy⟩ := hcy (by omega)
      have HX := Lib.hid hx
      have HY := Lib.hid hy
      have HL := Lib.hid hl
      have hle : ys.length ≤ xs.length := by omega
      have hle' : xs.length ≤ ys.length := by omega
      clear hcx hcy hx hy hl h0
      go_enter Try.func19, Try.ntmps19
      go_wp2
      go_loopw [5] (fun c wr => ∃ k q : Nat, k ≤ xs.length ∧ c = .int .i64 k ∧ (∀ j, j < k → xs.getD j 0 = ys.getD j 0) ∧ wr = w.drewN q) (fun c _ => xs.length - (intOf c).toNat)
      case atStart => exact ⟨0, 0, by omega, rfl, fun j hj => absurd hj (by omega), rfl⟩
      case round =>
        obtain ⟨k, q, hk, rfl, hall, rfl⟩ := hrel
        have HA := Lib.hid hall
        clear hall
        by_cases hlt : k < xs.length
        · have c1 := HX.out k hlt
          have c2 := HY.out k (by omega)
          generalize hX : xs.getD k 0 = X at c1
          generalize hY : ys.getD k 0 = Y at c2
          have EX := Lib.hid hX
          have EY := Lib.hid hY
          clear hX hY
          by_cases he : X = Y
          · have heb : (X != Y) = false := by rw [he]; exact bne_self_eq_false _
            have HE := Lib.hid he
            clear he
            go_wp2
            go_quiet (fail)
            go_wp2
            go_roundw
            case rel =>
              refine ⟨k + 1, _, by omega, by go_num, fun j hj => ?_, rfl⟩
              by_cases e : j = k
              · subst e; rw [EX.out, EY.out]; exact HE.out
              · exact HA.out j (by omega)
            case measure => simp [intOf]; omega
          · have heb : (X != Y) = true := by rw [bne_iff_ne]; exact he
            have hd : decide (xs = ys) = false := by
              rw [decide_eq_false_iff_not]
              intro e; exact he (by rw [← EX.out, ← EY.out, e])
            have HD := Lib.hid hd
            clear he hd
            go_wp2
            go_quiet (fail)
            go_wp2
            go_ret
            exact ⟨ret_bool HD.out.symm, _, World.drewN_drewN ..⟩
        · have hd : decide (xs = ys) = true := by
            rw [decide_eq_true_iff]
            refine List.ext_getElem HL.out fun j h1 h2 => ?_
            have := HA.out j (by omega)
            simpa [List.getD_eq_getElem?_getD, List.getElem?_eq_getElem h1, List.getElem?_eq_getElem h2] using this
          have HD := Lib.hid hd
          clear hd
          go_wp2
          go_ret
          exact ⟨ret_bool HD.out.symm, _, rfl⟩
  · have hln : ((xs.length : Int) != (ys.length : Int)) = true := by simp; omega
    have hd : decide (xs = ys) = false := by
      rw [decide_eq_false_iff_not]
      intro e; rw [e] at hl; exact hl rfl
    rw [hd]
    clear hd hl hcx hcy
    go_enter Try.func19, Try.ntmps19
    go_wp2
    go_ret
    exact ⟨rfl, 0, rfl⟩

end Go.Proofs.Ytcgjgmoemmokdaa
