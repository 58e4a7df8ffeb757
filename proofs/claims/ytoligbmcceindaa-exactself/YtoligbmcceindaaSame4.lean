/- Contracts: shelterbeltref04.Same. -/
import Derived.Test.YtoligbmcceindaaExact
import Derived.Laws.StructEq
set_option linter.unusedVariables false
set_option linter.unusedSimpArgs false
namespace Go.Proofs.Ytoligbmcceindaa
open Go.RowKit Go.Sb

set_option maxHeartbeats 1000000 in
theorem same4_any (va vb : Value) (xs ys : List Res) (w : World) (ha : ress w va xs) (hb : ress w vb ys) :
    Calls Try.prog 26 #[va, vb] w fun e w' => e = .returned (.bool (decide (xs = ys))) ∧ Drawn w w' := by
  obtain ⟨A, c, rfl, hc1, hc2⟩ := ha.form
  obtain ⟨B, d, rfl, hd1, hd2⟩ := hb.form
  have HA := hid ha
  have HB := hid hb
  clear ha hb
  by_cases hl : xs.length = ys.length
  · have h1 : ((xs.length : Int) != (ys.length : Int)) = false := by simp [hl]
    have HL := hid hl
    have hle : ys.length ≤ xs.length := by omega
    clear hl
    go_enter Try.func26, Try.ntmps26
    go_wp2
    go_loopw [5] (fun k wr => ∃ (i : Nat), i ≤ xs.length ∧ k = .int .i64 i ∧ Drawn w wr ∧ Hid (∀ j, j < i → nth xs j = nth ys j)) (fun k _ => xs.length - (intOf k).toNat)
    case atStart => exact ⟨0, Nat.zero_le _, rfl, Drawn.refl _, fun j hj => absurd hj (by omega)⟩
    case round =>
      obtain ⟨i, hi, rfl, ⟨q, rfl⟩, hall⟩ := hrel
      by_cases hlt : i < xs.length
      · obtain ⟨b1, o1, c1, e1, _, _, _, hx⟩ := ress_open HA.out (by omega)
        obtain ⟨b2, o2, c2, e2, _, _, _, hy⟩ := ress_open HB.out (by have := HL.out; omega)
        injection e1 with e1 _ e3
        injection e2 with e2 _ e4
        subst e1 e2 e3 e4
        obtain ⟨p0, p1⟩ := hx i (by omega)
        obtain ⟨q0, q1⟩ := hy i (by have := HL.out; omega)
        have i1 : (i : Int) < (xs.length : Int) := by omega
        have i2 : (i : Int) < (ys.length : Int) := by have := HL.out; omega
        obtain ⟨⟨x1, x2⟩, hxx⟩ : ∃ x, nth xs i = x := ⟨_, rfl⟩
        obtain ⟨⟨y1, y2⟩, hyy⟩ : ∃ x, nth ys i = x := ⟨_, rfl⟩
        rw [hxx] at p0 p1
        rw [hyy] at q0 q1
        have HX := hid hxx
        have HY := hid hyy
        clear hx hy hxx hyy
        by_cases he : x1 = y1 ∧ x2 = y2
        · obtain ⟨rfl, rfl⟩ := he
          go_wp2
          go_quiet (fail)
          go_wp2
          go_roundw
          case rel =>
            refine ⟨i + 1, by omega, by go_num, (by first | exact ⟨_, rfl⟩ | exact drawn2 _ _ _), fun j hj => ?_⟩
            by_cases e : j = i
            · rw [e, HX.out, HY.out]
            · exact hall.out j (by omega)
          case measure => simp [intOf]; omega
        · have hne : Hid (xs ≠ ys) := by
            intro e
            apply he
            have := HX.out
            rw [e, HY.out] at this
            injection this with a b
            exact ⟨a.symm, b.symm⟩
          by_cases h1 : x1 = y1
          · have h2 : ¬ x2 = y2 := fun h => he ⟨h1, h⟩
            clear he
            go_wp2
            go_quiet (fail)
            go_wp2
            go_ret
            exact ⟨ret_bool (by symm; rw [decide_eq_false_iff_not]; exact hne.out), (by first | exact ⟨_, rfl⟩ | exact drawn2 _ _ _)⟩
          · clear he
            go_wp2
            go_quiet (fail)
            go_wp2
            go_ret
            exact ⟨ret_bool (by symm; rw [decide_eq_false_iff_not]; exact hne.out), (by first | exact ⟨_, rfl⟩ | exact drawn2 _ _ _)⟩
      · go_wp2
        go_ret
        exact ⟨ret_bool (by symm; rw [decide_eq_true_eq]; exact ext_nth HL.out (fun j hj => hall.out j (by omega))), (by first | exact ⟨_, rfl⟩ | exact drawn2 _ _ _)⟩
  · have h1 : ((xs.length : Int) != (ys.length : Int)) = true := by simp; omega
    have HL := hid hl
    clear hl
    go_enter Try.func26, Try.ntmps26
    go_wp2
    go_ret
    exact ⟨ret_bool (by symm; rw [decide_eq_false_iff_not]; intro e; exact HL.out (by rw [e])), Drawn.refl _⟩
end Go.Proofs.Ytoligbmcceindaa
