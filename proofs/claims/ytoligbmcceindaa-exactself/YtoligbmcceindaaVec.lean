/- Contracts: vectors (package vec, shelterbeltref03, shelterbeltref10), and the library's loops over []int32. -/
import Derived.Test.YtoligbmcceindaaProg
import Derived.Test.YtoligbmcceindaaBase
import Derived.WalkLawsBesides
set_option linter.unusedVariables false
set_option linter.unusedSimpArgs false
namespace Go.Proofs.Ytoligbmcceindaa
open Go.RowKit Go.Sb

/-! ### Plain -/
def sq (x y : Int) : Int := (x - y) * (x - y)
def farTo (xs ys : List Int) : Nat → Int
  | 0 => 0
  | k + 1 => farTo xs ys k + sq (nth xs k) (nth ys k)
/-- How far, squared. -/
def far (xs ys : List Int) : Int := farTo xs ys (min xs.length ys.length)
def Small (xs : List Int) : Prop := ∀ i : Nat, -1048576 ≤ nth xs i ∧ nth xs i ≤ 1048576
theorem sq_bd {x y : Int} (hx : -1048576 ≤ x ∧ x ≤ 1048576) (hy : -1048576 ≤ y ∧ y ≤ 1048576) : 0 ≤ sq x y ∧ sq x y ≤ 4398046511104 := by
  unfold sq
  have h1 : (x - y).natAbs ≤ 2097152 := by omega
  have h2 : ((x - y).natAbs : Int) * (x - y).natAbs = (x - y) * (x - y) := Int.natAbs_mul_self
  have h3 : (x - y).natAbs * (x - y).natAbs ≤ 2097152 * 2097152 := Nat.mul_le_mul h1 h1
  rw [← h2]
  omega
theorem farTo_bd {xs ys : List Int} (hx : Small xs) (hy : Small ys) : ∀ k, 0 ≤ farTo xs ys k ∧ farTo xs ys k ≤ 4398046511104 * k
  | 0 => by simp [farTo]
  | k + 1 => by
    have h1 := farTo_bd hx hy k
    have h2 := sq_bd (hx k) (hy k)
    simp only [farTo]
    omega
def coordOk (x : Int) : Bool := decide (-1048576 ≤ x) && decide (x ≤ 1048576)
/-- What vec.Check says. -/
def vcheck (xs : List Int) (dim : Int) : Int := if dim < 1 ∨ 1024 < dim then 1 else if (xs.length : Int) ≠ dim then 3 else if xs.all coordOk then 0 else 4
theorem small_of_all {xs : List Int} (h : xs.all coordOk = true) : Small xs := by
  intro i
  by_cases hi : i < xs.length
  · have := List.all_eq_true.1 h xs[i] (List.getElem_mem hi)
    simp [coordOk] at this
    rw [nth_eq hi]
    exact this
  · rw [nth_none (Nat.le_of_not_lt hi)]
    exact ⟨by decide, by decide⟩
theorem vcheck_ok {xs : List Int} {dim : Int} (h : vcheck xs dim = 0) : 1 ≤ dim ∧ dim ≤ 1024 ∧ (xs.length : Int) = dim ∧ xs.all coordOk = true := by
  unfold vcheck at h
  split at h
  · cases h
  · split at h
    · cases h
    · split at h
      · exact ⟨by omega, by omega, by omega, by assumption⟩
      · cases h
theorem vcheck_bd (xs : List Int) (dim : Int) : 0 ≤ vcheck xs dim ∧ vcheck xs dim ≤ 4 := by
  unfold vcheck
  split
  · omega
  · split
    · omega
    · split <;> omega
theorem getD_ext {xs ys : List Int} (hl : xs.length = ys.length) (h : ∀ i, i < xs.length → nth xs i = nth ys i) : xs = ys := by
  apply List.ext_getElem hl
  intro i h1 h2
  have := h i h1
  rwa [nth_eq h1, nth_eq h2] at this

/-! ### Walks -/
set_option maxHeartbeats 400000 in
theorem both_any (A B : Option Addr) (n c m d : Nat) (w : World) (hn : n ≤ 9223372036854775807) (hm : m ≤ 9223372036854775807) :
    Calls Try.prog 162 #[.slice A n c, .slice B m d] w fun e w' => e = .returned (.int .i64 ((min n m : Nat) : Int)) ∧ w = w' := by
  go_enter Try.func162, Try.ntmps162
  go_wp2
  · go_ret
    exact ⟨by rw [show min n m = m by omega]; rfl, rfl⟩
  · go_ret
    exact ⟨by rw [show min n m = n by omega]; rfl, rfl⟩

set_option maxHeartbeats 400000 in
theorem far_any (va vb : Value) (xs ys : List Int) (w : World) (ha : i32s w va xs) (hb : i32s w vb ys) (sa : Small xs) (sb : Small ys) (hl : xs.length ≤ 100000) :
    Calls Try.prog 147 #[va, vb] w fun e w' => e = .returned (.int .i64 (far xs ys)) ∧ Drawn w w' := by
  obtain ⟨A, c, rfl, hc1, hc2⟩ := ha.form
  obtain ⟨B, d, rfl, hd1, hd2⟩ := hb.form
  have hyl := hb.len_le
  have HA := hid ha
  have HB := hid hb
  clear ha hb
  go_enter Try.func147, Try.ntmps147
  go_wp2_with (go_at_call 162; refine (both_any _ _ _ _ _ _ _ (by omega) (by omega)).mono ?_; rintro e w' ⟨rfl, rfl⟩)
  go_loopw [5, 6, 7, 11] (fun n _ _ k wr => ∃ (i : Nat) (q : Nat), i ≤ min xs.length ys.length ∧ k = .int .i64 i ∧ n = .int .i64 (farTo xs ys i) ∧ wr = w.drewN q) (fun _ _ _ k _ => min xs.length ys.length - (intOf k).toNat)
  case atStart => exact ⟨0, 0, Nat.zero_le _, rfl, rfl, rfl⟩
  case round =>
    obtain ⟨i, q, hi, rfl, rfl, rfl⟩ := hrel
    have fb := farTo_bd sa sb i
    have FS : Hid (farTo xs ys (i + 1) = farTo xs ys i + sq (nth xs i) (nth ys i)) := rfl
    by_cases hlt : i < min xs.length ys.length
    · obtain ⟨b1, o1, c1, e1, _, _, _, hx⟩ := ints_open HA.out (by omega)
      obtain ⟨b2, o2, c2, e2, _, _, _, hy⟩ := ints_open HB.out (by omega)
      injection e1 with e1 _ e3
      injection e2 with e2 _ e4
      subst e1 e2 e3 e4
      have hx1 := hx i (by omega)
      have hy1 := hy i (by omega)
      have s1 := sa i
      have s2 := sb i
      have sqb := sq_bd s1 s2
      have i1 : (i : Int) < (xs.length : Int) := by omega
      have i2 : (i : Int) < (ys.length : Int) := by omega
      clear hx hy
      go_wp2
      go_quiet (fail)
      go_wp2
      go_roundw
      case rel =>
        refine ⟨i + 1, q + nq, by omega, by go_num, int_eq ?_, rfl⟩
        rw [FS.out]
        unfold sq at sqb ⊢
        rw [w64 (n := (_ - _) * (_ - _)) (by omega), w64 (by omega)]
      case measure => simp [intOf]; omega
    · go_wp2
      go_ret
      have : i = min xs.length ys.length := by omega
      subst this
      exact ⟨rfl, q, rfl⟩

set_option maxHeartbeats 400000 in
theorem coord_any (x : Int) (w : World) : Calls Try.prog 96 #[.int .i32 x] w fun e w' => e = .returned (.bool (!coordOk x)) ∧ w = w' := by
  by_cases h1 : x < -1048576
  · go_enter Try.func96, Try.ntmps96
    go_wp2
    go_ret
    exact ⟨ret_bool (by simp [coordOk]; omega), rfl⟩
  · by_cases h2 : 1048576 < x
    · go_enter Try.func96, Try.ntmps96
      go_wp2
      go_ret
      exact ⟨ret_bool (by simp [coordOk]; omega), rfl⟩
    · go_enter Try.func96, Try.ntmps96
      go_wp2
      go_ret
      exact ⟨ret_bool (by simp [coordOk]; omega), rfl⟩

/-- The place of the first that is not right; -1. -/
def badAt (xs : List Int) : Int := match xs.findIdx? (fun x => !coordOk x) with | some i => i | none => -1

set_option maxHeartbeats 400000 in
theorem index_i32_any (va : Value) (xs : List Int) (w : World) (ha : i32s w va xs) :
    Calls Try.prog 124 #[va, .func (.func 96) #[] #[]] w fun e w' => (∃ n : Int, e = .returned (.int .i64 n) ∧ (0 ≤ n ↔ xs.all coordOk = false)) ∧ Drawn w w' := by
  obtain ⟨A, c, rfl, hc1, hc2⟩ := ha.form
  have HA := hid ha
  clear ha
  go_enter Try.func124, Try.ntmps124
  go_wp2
  go_loopw [5, 8] (fun _ k wr => ∃ (i : Nat), i ≤ xs.length ∧ k = .int .i64 i ∧ Drawn w wr ∧ Hid (∀ j, j < i → coordOk (nth xs j) = true)) (fun _ k _ => xs.length - (intOf k).toNat)
  case atStart => exact ⟨0, Nat.zero_le _, rfl, Drawn.refl _, fun j hj => absurd hj (by omega)⟩
  case round =>
    obtain ⟨i, hi, rfl, ⟨q, rfl⟩, hall⟩ := hrel
    by_cases hlt : i < xs.length
    · obtain ⟨b1, o1, c1, e1, _, _, _, hx⟩ := ints_open HA.out (by omega)
      injection e1 with e1 _ e3
      subst e1 e3
      have hx1 := hx i (by omega)
      have i1 : (i : Int) < (xs.length : Int) := by omega
      clear hx
      cases hco : coordOk (nth xs i) with
      | true =>
        have HC := hid hco
        clear hco
        go_wp2_with (go_at_call 96; refine (coord_any _ _).mono ?_; rintro e w' ⟨rfl, rfl⟩; rw [HC.out])
        go_roundw
        case rel =>
          refine ⟨i + 1, by omega, by go_num, ⟨q, rfl⟩, fun j hj => ?_⟩
          by_cases e : j = i
          · rw [e]; exact HC.out
          · exact hall.out j (by omega)
        case measure => simp [intOf]; omega
      | false =>
        have HC := hid hco
        clear hco
        go_wp2_with (go_at_call 96; refine (coord_any _ _).mono ?_; rintro e w' ⟨rfl, rfl⟩; rw [HC.out])
        go_ret
        refine ⟨⟨i, rfl, fun _ => ?_, fun _ => by omega⟩, ⟨q, rfl⟩⟩
        rw [Bool.eq_false_iff]
        intro hal
        have := List.all_eq_true.1 hal xs[i] (List.getElem_mem hlt)
        have h2 := HC.out
        rw [nth_eq hlt, this] at h2; cases h2
    · go_wp2
      go_ret
      refine ⟨⟨-1, rfl, fun h => by omega, fun h => ?_⟩, ⟨q, rfl⟩⟩
      exfalso
      have : xs.all coordOk = true := by
        rw [List.all_eq_true]
        intro x hx
        obtain ⟨j, hj, rfl⟩ := List.getElem_of_mem hx
        have := hall.out j (by omega)
        rwa [nth_eq hj] at this
      rw [this] at h; cases h

set_option maxHeartbeats 400000 in
theorem contains_i32_any (va : Value) (xs : List Int) (w : World) (ha : i32s w va xs) :
    Calls Try.prog 95 #[va, .func (.func 96) #[] #[]] w fun e w' => e = .returned (.bool (!xs.all coordOk)) ∧ Drawn w w' := by
  have HA := hid ha
  clear ha
  go_enter Try.func95, Try.ntmps95
  go_wp2_with fail
  refine (index_i32_any _ _ _ HA.out).mono ?_
  rintro e w' ⟨⟨n, rfl, hn⟩, hd⟩
  have HD := hid hd
  have HN := hid hn
  clear hd hn
  go_wp2
  go_ret
  refine ⟨ret_bool ?_, HD.out⟩
  have h := HN.out
  cases hal : xs.all coordOk
  · simpa using h.2 hal
  · rw [hal] at h
    simpa using h

set_option maxHeartbeats 400000 in
theorem check_any (va : Value) (xs : List Int) (dim : Int) (w : World) (ha : i32s w va xs) :
    Calls Try.prog 55 #[va, .int .i64 dim] w fun e w' => e = .returned (.int .i64 (vcheck xs dim)) ∧ Drawn w w' := by
  obtain ⟨A, c, rfl, hc1, hc2⟩ := ha.form
  have HA := hid ha
  clear ha
  by_cases h1 : dim < 1
  · go_enter Try.func55, Try.ntmps55
    go_wp2
    go_ret
    exact ⟨ret_int (by simp [vcheck, h1]), Drawn.refl _⟩
  by_cases h2 : 1024 < dim
  · go_enter Try.func55, Try.ntmps55
    go_wp2
    go_ret
    exact ⟨ret_int (by simp [vcheck, h2]), Drawn.refl _⟩
  by_cases h3 : (xs.length : Int) = dim
  · have H3 := hid h3
    have h4 : ((xs.length : Int) != dim) = false := by simp [h3]
    clear h3
    go_enter Try.func55, Try.ntmps55
    go_wp2_with fail
    refine (contains_i32_any _ _ _ HA.out).mono ?_
    rintro e w' ⟨rfl, hd⟩
    have HD := hid hd
    clear hd
    cases hal : xs.all coordOk
    · have HAL := hid hal
      clear hal
      go_wp2
      go_ret
      exact ⟨ret_int (by simp [vcheck, h1, h2, H3.out, HAL.out]), HD.out⟩
    · have HAL := hid hal
      clear hal
      go_wp2
      go_ret
      exact ⟨ret_int (by simp [vcheck, h1, h2, H3.out, HAL.out]), HD.out⟩
  · have h4 : ((xs.length : Int) != dim) = true := by simp [h3]
    go_enter Try.func55, Try.ntmps55
    go_wp2
    go_ret
    exact ⟨ret_int (by simp [vcheck, h1, h2, h3]), Drawn.refl _⟩
end Go.Proofs.Ytoligbmcceindaa
