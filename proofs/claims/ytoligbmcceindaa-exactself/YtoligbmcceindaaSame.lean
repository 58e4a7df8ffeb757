/- Contracts: shelterbeltref03 and shelterbeltref10 over vectors; slices.Equal at []int32; vec.Same. -/
import Derived.Test.YtoligbmcceindaaVec
set_option linter.unusedVariables false
set_option linter.unusedSimpArgs false
namespace Go.Proofs.Ytoligbmcceindaa
open Go.RowKit Go.Sb

set_option maxHeartbeats 400000 in
theorem same_any (va vb : Value) (xs ys : List Int) (w : World) (ha : i32s w va xs) (hb : i32s w vb ys) :
    Calls Try.prog 11 #[va, vb] w fun e w' => e = .returned (.bool (decide (xs = ys))) ∧ Drawn w w' := by
  obtain ⟨A, c, rfl, hc1, hc2⟩ := ha.form
  obtain ⟨B, d, rfl, hd1, hd2⟩ := hb.form
  have HA := hid ha
  have HB := hid hb
  clear ha hb
  by_cases hl : xs.length = ys.length
  · have h1 : ((xs.length : Int) != (ys.length : Int)) = false := by simp [hl]
    have HL := hid hl
    have hle : ys.length ≤ xs.length := by omega
    clear hl
    go_enter Try.func11, Try.ntmps11
    go_wp2
    go_loopw [5] (fun k wr => ∃ (i : Nat), i ≤ xs.length ∧ k = .int .i64 i ∧ Drawn w wr ∧ Hid (∀ j, j < i → nth xs j = nth ys j)) (fun k _ => xs.length - (intOf k).toNat)
    case atStart => exact ⟨0, Nat.zero_le _, rfl, Drawn.refl _, fun j hj => absurd hj (by omega)⟩
    case round =>
      obtain ⟨i, hi, rfl, ⟨q, rfl⟩, hall⟩ := hrel
      by_cases hlt : i < xs.length
      · obtain ⟨b1, o1, c1, e1, _, _, _, hx⟩ := ints_open HA.out (by omega)
        obtain ⟨b2, o2, c2, e2, _, _, _, hy⟩ := ints_open HB.out (by have := HL.out; omega)
        injection e1 with e1 _ e3
        injection e2 with e2 _ e4
        subst e1 e2 e3 e4
        have hx1 := hx i (by omega)
        have hy1 := hy i (by have := HL.out; omega)
        have i1 : (i : Int) < (xs.length : Int) := by omega
        have i2 : (i : Int) < (ys.length : Int) := by have := HL.out; omega
        clear hx hy
        by_cases he : nth xs i = nth ys i
        · have hbe : (nth xs i != nth ys i) = false := by simp [he]
          have HE := hid he
          clear he
          go_wp2
          go_quiet (fail)
          go_wp2
          go_roundw
          case rel =>
            refine ⟨i + 1, by omega, by go_num, (by first | exact ⟨_, rfl⟩ | exact drawn2 _ _ _), fun j hj => ?_⟩
            by_cases e : j = i
            · rw [e]; exact HE.out
            · exact hall.out j (by omega)
          case measure => simp [intOf]; omega
        · have hbe : (nth xs i != nth ys i) = true := by simp [he]
          have HE := hid he
          clear he
          go_wp2
          go_quiet (fail)
          go_wp2
          go_ret
          exact ⟨ret_bool (by symm; rw [decide_eq_false_iff_not]; intro e; exact HE.out (by rw [e])), (by first | exact ⟨_, rfl⟩ | exact drawn2 _ _ _)⟩
      · go_wp2
        go_ret
        exact ⟨ret_bool (by symm; rw [decide_eq_true_eq]; exact getD_ext HL.out (fun j hj => hall.out j (by omega))), (by first | exact ⟨_, rfl⟩ | exact drawn2 _ _ _)⟩
  · have h1 : ((xs.length : Int) != (ys.length : Int)) = true := by simp; omega
    have HL := hid hl
    clear hl
    go_enter Try.func11, Try.ntmps11
    go_wp2
    go_ret
    exact ⟨ret_bool (by symm; rw [decide_eq_false_iff_not]; intro e; exact HL.out (by rw [e])), Drawn.refl _⟩

set_option maxHeartbeats 400000 in
theorem ref_check_any (va : Value) (xs : List Int) (dim : Int) (w : World) (ha : i32s w va xs) :
    Calls Try.prog 31 #[va, .int .i64 dim] w fun e w' => e = .returned (.int .i64 (vcheck xs dim)) ∧ Drawn w w' := by
  obtain ⟨A, c, rfl, hc1, hc2⟩ := ha.form
  have HA := hid ha
  clear ha
  by_cases h1 : dim < 1
  · go_enter Try.func31, Try.ntmps31
    go_wp2
    go_ret
    exact ⟨ret_int (by simp [vcheck, h1]), Drawn.refl _⟩
  by_cases h2 : 1024 < dim
  · go_enter Try.func31, Try.ntmps31
    go_wp2
    go_ret
    exact ⟨ret_int (by simp [vcheck, h2]), Drawn.refl _⟩
  by_cases h3 : (xs.length : Int) = dim
  · have H3 := hid h3
    have h4 : ((xs.length : Int) != dim) = false := by simp [h3]
    clear h3
    go_enter Try.func31, Try.ntmps31
    go_wp2
    go_loopw [5] (fun k wr => ∃ (i : Nat), i ≤ xs.length ∧ k = .int .i64 i ∧ Drawn w wr ∧ Hid (∀ j, j < i → coordOk (nth xs j) = true)) (fun k _ => xs.length - (intOf k).toNat)
    case atStart => exact ⟨0, Nat.zero_le _, rfl, Drawn.refl _, fun j hj => absurd hj (by omega)⟩
    case round =>
      obtain ⟨i, hi, rfl, ⟨q, rfl⟩, hall⟩ := hrel
      by_cases hlt : i < xs.length
      · obtain ⟨b1, o1, c1, e1, _, _, _, hx⟩ := ints_open HA.out (by omega)
        injection e1 with e1 _ e3
        subst e1 e3
        have hx1 := hx i (by omega)
        have i1 : (i : Int) < (xs.length : Int) := by omega
        clear hx
        have bad : coordOk (nth xs i) = false → (4 : Int) = vcheck xs dim := by
          intro hb
          have : xs.all coordOk = false := by
            rw [Bool.eq_false_iff]
            intro hal
            have := List.all_eq_true.1 hal xs[i] (List.getElem_mem hlt)
            rw [← nth_eq hlt, hb] at this
            cases this
          simp [vcheck, h1, h2, H3.out, this]
        have BAD := hid bad
        clear bad
        by_cases k1 : nth xs i < -1048576
        · go_wp2
          go_ret
          exact ⟨ret_int (BAD.out (by simp [coordOk]; omega)), (by first | exact ⟨_, rfl⟩ | exact drawn2 _ _ _)⟩
        · by_cases k2 : 1048576 < nth xs i
          · go_wp2
            go_ret
            exact ⟨ret_int (BAD.out (by simp [coordOk]; omega)), (by first | exact ⟨_, rfl⟩ | exact drawn2 _ _ _)⟩
          · go_wp2
            go_roundw
            case rel =>
              refine ⟨i + 1, by omega, by go_num, (by first | exact ⟨_, rfl⟩ | exact drawn2 _ _ _), fun j hj => ?_⟩
              by_cases e : j = i
              · rw [e]; simp [coordOk]; omega
              · exact hall.out j (by omega)
            case measure => simp [intOf]; omega
      · go_wp2
        go_ret
        have : xs.all coordOk = true := by
          rw [List.all_eq_true]
          intro x hx
          obtain ⟨j, hj, rfl⟩ := List.getElem_of_mem hx
          have := hall.out j (by omega)
          rwa [nth_eq hj] at this
        exact ⟨ret_int (by simp [vcheck, h1, h2, H3.out, this]), (by first | exact ⟨_, rfl⟩ | exact drawn2 _ _ _)⟩
  · have h4 : ((xs.length : Int) != dim) = true := by simp [h3]
    go_enter Try.func31, Try.ntmps31
    go_wp2
    go_ret
    exact ⟨ret_int (by simp [vcheck, h1, h2, h3]), Drawn.refl _⟩

/-- shelterbeltref10.Check. -/
def lcheck (dim : Int) (l : List (List Int)) : Int := if dim < 1 ∨ 1024 < dim then 1 else ((l.map fun x => vcheck x dim).find? (fun e => e != 0)).getD 0

abbrev i32rows (w : World) (v : Value) (l : List (List Int)) : Prop := Lies (tSl (tInt .i32)) w v l

theorem lcheck_ok {dim : Int} {l : List (List Int)} (h : lcheck dim l = 0) : 1 ≤ dim ∧ dim ≤ 1024 ∧ ∀ x ∈ l, vcheck x dim = 0 := by
  unfold lcheck at h
  split at h
  · cases h
  · refine ⟨by omega, by omega, fun x hx => ?_⟩
    cases hf : (l.map fun x => vcheck x dim).find? (fun e => e != 0) with
    | none =>
      have := List.find?_eq_none.1 hf (vcheck x dim) (List.mem_map.2 ⟨x, hx, rfl⟩)
      simpa using this
    | some e =>
      rw [hf] at h
      have h2 := List.find?_some hf
      simp at h h2
      exact absurd h h2

set_option maxHeartbeats 400000 in
theorem ref10_check_any (dim : Int) (va : Value) (l : List (List Int)) (w : World) (ha : i32rows w va l) :
    Calls Try.prog 14 #[.int .i64 dim, va] w fun e w' => e = .returned (.int .i64 (lcheck dim l)) ∧ Drawn w w' := by
  obtain ⟨A, c, rfl, hc1, hc2⟩ := ha.form
  have HA := hid ha
  clear ha
  by_cases h1 : dim < 1
  · go_enter Try.func14, Try.ntmps14
    go_wp2
    go_ret
    exact ⟨ret_int (by simp [lcheck, h1]), Drawn.refl _⟩
  by_cases h2 : 1024 < dim
  · go_enter Try.func14, Try.ntmps14
    go_wp2
    go_ret
    exact ⟨ret_int (by simp [lcheck, h2]), Drawn.refl _⟩
  go_enter Try.func14, Try.ntmps14
  go_wp2
  go_loopw [5, 6] (fun k _ wr => ∃ (i : Nat), i ≤ l.length ∧ k = .int .i64 i ∧ Drawn w wr ∧ Hid (∀ j x, j < i → l[j]? = some x → vcheck x dim = 0)) (fun k _ _ => l.length - (intOf k).toNat)
  case atStart => exact ⟨0, Nat.zero_le _, rfl, Drawn.refl _, fun j x hj => absurd hj (by omega)⟩
  case round =>
    obtain ⟨i, hi, rfl, ⟨q, rfl⟩, hall⟩ := hrel
    by_cases hlt : i < l.length
    · obtain ⟨b1, o1, c1, u, e1, _, _, _, hx1, hr⟩ := sl_at HA.out (nth_some hlt)
      injection e1 with e1 _ e3
      subst e1 e3
      have HR := hid hr
      have HX : Hid (l[i]? = some (nth l i)) := nth_some hlt
      clear hr
      have i1 : (i : Int) < (l.length : Int) := by omega
      generalize nth l i = x at HR HX hx1
      clear hlt
      by_cases hv : vcheck x dim = 0
      · have hb : (vcheck x dim != 0) = false := by simp [hv]
        have HV := hid hv
        clear hv
        go_wp2_with (go_at_call 31; refine (ref_check_any _ _ _ _ (HR.out.keep (keep_drewN _ _))).mono ?_; rintro e w' ⟨rfl, ⟨q2, rfl⟩⟩)
        go_roundw
        case rel =>
          refine ⟨i + 1, by omega, by go_num, (by first | exact ⟨_, rfl⟩ | exact drawn2 _ _ _), fun j y hj hy => ?_⟩
          by_cases e : j = i
          · rw [e, HX.out] at hy
            injection hy with hy
            rw [← hy]; exact HV.out
          · exact hall.out j y (by omega) hy
        case measure => simp [intOf]; omega
      · have hb : (vcheck x dim != 0) = true := by simp [hv]
        have HV := hid hv
        clear hv
        go_wp2_with (go_at_call 31; refine (ref_check_any _ _ _ _ (HR.out.keep (keep_drewN _ _))).mono ?_; rintro e w' ⟨rfl, ⟨q2, rfl⟩⟩)
        go_ret
        refine ⟨ret_int ?_, (by first | exact ⟨_, rfl⟩ | exact drawn2 _ _ _)⟩
        unfold lcheck
        rw [if_neg (by omega)]
        have hil : i < l.length := by omega
        have hsp : l = l.take i ++ x :: l.drop (i + 1) := by
          have h3 := HX.out
          rw [List.getElem?_eq_getElem hil] at h3
          injection h3 with h3
          rw [← h3]; simp
        have hnone : ((l.take i).map fun x => vcheck x dim).find? (fun e => e != 0) = none := by
          rw [List.find?_eq_none]
          intro e he
          obtain ⟨y, hy, rfl⟩ := List.mem_map.1 he
          obtain ⟨j, hj, rfl⟩ := List.getElem_of_mem hy
          have hj2 : j < i := by simp at hj; omega
          simp
          exact hall.out j _ hj2 (by rw [List.getElem?_eq_getElem (by omega)])
        rw [hsp, List.map_append, List.find?_append, hnone]
        simp [HV.out]
    · go_wp2
      go_ret
      refine ⟨ret_int ?_, (by first | exact ⟨_, rfl⟩ | exact drawn2 _ _ _)⟩
      unfold lcheck
      rw [if_neg (by omega)]
      have hnone : (l.map fun x => vcheck x dim).find? (fun e => e != 0) = none := by
        rw [List.find?_eq_none]
        intro e he
        obtain ⟨y, hy, rfl⟩ := List.mem_map.1 he
        obtain ⟨j, hj, rfl⟩ := List.getElem_of_mem hy
        simp
        exact hall.out j _ (by omega) (List.getElem?_eq_getElem hj)
      rw [hnone]; rfl

/-- shelterbeltref10.Few: what it lets by. -/
def fewTo (l : List (List Int)) : Nat → Int
  | 0 => 0
  | k + 1 => fewTo l k + (nth l k).length
def few (l : List (List Int)) : Bool := (List.range l.length).all fun i => decide (fewTo l (i + 1) ≤ 6000) && decide (i ≤ 300)
theorem few_len {l : List (List Int)} (h : few l = true) : l.length ≤ 301 := by
  unfold few at h
  rw [List.all_eq_true] at h
  by_cases h0 : l.length = 0
  · omega
  · have := h (l.length - 1) (List.mem_range.2 (by omega))
    simp at this
    omega

set_option maxHeartbeats 400000 in
theorem few_any (va : Value) (l : List (List Int)) (w : World) (ha : i32rows w va l) :
    Calls Try.prog 27 #[va] w fun e w' => e = .returned (.bool (few l)) ∧ Drawn w w' := by
  obtain ⟨A, c, rfl, hc1, hc2⟩ := ha.form
  have HA := hid ha
  clear ha
  go_enter Try.func27, Try.ntmps27
  go_wp2
  go_loopw [3, 4] (fun n k wr => ∃ (i : Nat) (s : Int), i ≤ l.length ∧ i ≤ 301 ∧ k = .int .i64 i ∧ n = .int .i64 s ∧ 0 ≤ s ∧ s ≤ 6000 ∧ Drawn w wr ∧ Hid (s = fewTo l i ∧ ∀ j, j < i → fewTo l (j + 1) ≤ 6000 ∧ j ≤ 300)) (fun _ k _ => l.length - (intOf k).toNat)
  case atStart => exact ⟨0, 0, Nat.zero_le _, by omega, rfl, rfl, by omega, by omega, Drawn.refl _, rfl, fun j hj => absurd hj (by omega)⟩
  case round =>
    obtain ⟨i, s, hi, hi2, rfl, rfl, hs0, hs1, ⟨q, rfl⟩, hall⟩ := hrel
    by_cases hlt : i < l.length
    · obtain ⟨b1, o1, c1, u, e1, _, _, _, hx1, hr⟩ := sl_at HA.out (nth_some hlt)
      injection e1 with e1 _ e3
      subst e1 e3
      obtain ⟨A2, c2, rfl, _, _⟩ := hr.form
      have hll := hr.len_le
      have HX : Hid ((nth l i).length = (nth l i).length) := rfl
      clear hr
      have i1 : (i : Int) < (l.length : Int) := by omega
      have HL := hid hlt
      clear hlt
      have FS : Hid (fewTo l (i + 1) = s + ((nth l i).length : Nat)) := by show fewTo l i + _ = _; rw [hall.out.1]
      generalize (nth l i).length = m at hx1 hll FS
      have bad : ¬ (fewTo l (i + 1) ≤ 6000 ∧ i ≤ 300) → few l = false := by
        intro hb
        rw [Bool.eq_false_iff]
        intro h
        unfold few at h
        rw [List.all_eq_true] at h
        have := h i (List.mem_range.2 HL.out)
        simp at this
        exact hb ⟨by omega, by omega⟩
      have BAD := hid bad
      clear bad
      by_cases k1 : 6000 < s + m
      · go_wp2
        go_ret
        exact ⟨ret_bool (BAD.out (by rw [FS.out]; omega)).symm, (by first | exact ⟨_, rfl⟩ | exact drawn2 _ _ _)⟩
      · by_cases k2 : (300 : Int) < (i : Int)
        · go_wp2
          go_ret
          exact ⟨ret_bool (BAD.out (by omega)).symm, (by first | exact ⟨_, rfl⟩ | exact drawn2 _ _ _)⟩
        · go_wp2
          go_roundw
          case rel =>
            refine ⟨i + 1, s + m, by omega, by omega, by go_num, rfl, by omega, by omega, (by first | exact ⟨_, rfl⟩ | exact drawn2 _ _ _), FS.out.symm, fun j hj => ?_⟩
            by_cases e : j = i
            · rw [e, FS.out]; omega
            · exact hall.out.2 j (by omega)
          case measure => simp [intOf]; omega
    · go_wp2
      go_ret
      refine ⟨ret_bool ?_, (by first | exact ⟨_, rfl⟩ | exact drawn2 _ _ _)⟩
      symm
      unfold few
      rw [List.all_eq_true]
      intro j hj
      have hj2 := List.mem_range.1 hj
      have := hall.out.2 j (by omega)
      simp
      omega
end Go.Proofs.Ytoligbmcceindaa
