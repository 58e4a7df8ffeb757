/- Contracts: order.Nearer and what it calls (cmp.Compare, cmp.Or). -/
import Derived.Test.YtoligbmcceindaaHeap
import Derived.Test.YtoligbmcceindaaItems
set_option linter.unusedVariables false
set_option linter.unusedSimpArgs false
namespace Go.Proofs.Ytoligbmcceindaa
open Go.RowKit Go.Sb

/-- An api.Result: its number, how far it is. -/
abbrev Res := Int × Int
def nearer (a b : Res) : Bool := if a.2 = b.2 then decide (a.1 < b.1) else decide (a.2 < b.2)
theorem nearer_swo : SWO nearer := by
  refine ⟨?_, ?_, ?_, ?_⟩
  · intro a; simp [nearer]
  · intro a b h
    unfold nearer at h ⊢
    split at h <;> split <;> simp at * <;> omega
  · intro a b c h1 h2
    unfold nearer at h1 h2 ⊢
    split at h1 <;> split at h2 <;> split <;> simp at * <;> omega
  · intro a b c h1 h2
    unfold nearer at h1 h2 ⊢
    split at h1 <;> split at h2 <;> split <;> simp at * <;> omega

theorem new_drew {X : World} {cs : Array Value} {t : TypeId} {n i : Nat} {v : Value} (hn : X.heap.size = n) (hv : cs[i]? = some v) : ((X.alloc (.cells cs t (0, 0))).drew).cell? ⟨n, i, none⟩ = some v := by
  subst hn
  exact (blk_cell (blk_new X _) i).trans hv
def cmpOr (a b : Int) : Int := if a = 0 then b else a
def cmpI (a b : Int) : Int := if a < b then -1 else if b < a then 1 else 0

set_option maxHeartbeats 400000 in
theorem nan64_any (a : Int) (w : World) : Calls Try.prog 145 #[.int .i64 a] w fun e w' => e = .returned (.bool false) ∧ w = w' := by
  go_enter Try.func145, Try.ntmps145
  go_wp2
  go_ret
  exact ⟨rfl, rfl⟩
set_option maxHeartbeats 400000 in
theorem nan_any (a : Int) (w : World) : Calls Try.prog 146 #[.int .i64 a] w fun e w' => e = .returned (.bool false) ∧ w = w' := by
  go_enter Try.func146, Try.ntmps146
  go_wp2
  go_ret
  exact ⟨rfl, rfl⟩
set_option maxHeartbeats 400000 in
theorem cmp64_any (a b : Int) (w : World) : Calls Try.prog 103 #[.int .i64 a, .int .i64 b] w fun e w' => e = .returned (.int .i64 (cmpI a b)) ∧ w = w' := by
  by_cases h1 : a < b
  · go_enter Try.func103, Try.ntmps103
    go_wp2_with (go_at_call 145; refine (nan64_any _ _).mono ?_; rintro e w' ⟨rfl, rfl⟩)
    go_ret
    exact ⟨ret_int (by simp [cmpI, h1]), rfl⟩
  · by_cases h2 : b < a
    · have H := hid (show (1 : Int) = cmpI a b by simp [cmpI, h1, h2])
      go_enter Try.func103, Try.ntmps103
      go_wp2_with (go_at_call 145; refine (nan64_any _ _).mono ?_; rintro e w' ⟨rfl, rfl⟩)
      go_ret
      exact ⟨ret_int H.out, rfl⟩
    · have H := hid (show (0 : Int) = cmpI a b by simp [cmpI, h1, h2])
      go_enter Try.func103, Try.ntmps103
      go_wp2_with (go_at_call 145; refine (nan64_any _ _).mono ?_; rintro e w' ⟨rfl, rfl⟩)
      go_ret
      exact ⟨ret_int H.out, rfl⟩
set_option maxHeartbeats 400000 in
theorem cmp_any (a b : Int) (w : World) : Calls Try.prog 104 #[.int .i64 a, .int .i64 b] w fun e w' => e = .returned (.int .i64 (cmpI a b)) ∧ w = w' := by
  by_cases h1 : a < b
  · go_enter Try.func104, Try.ntmps104
    go_wp2_with (go_at_call 146; refine (nan_any _ _).mono ?_; rintro e w' ⟨rfl, rfl⟩)
    go_ret
    exact ⟨ret_int (by simp [cmpI, h1]), rfl⟩
  · by_cases h2 : b < a
    · have H := hid (show (1 : Int) = cmpI a b by simp [cmpI, h1, h2])
      go_enter Try.func104, Try.ntmps104
      go_wp2_with (go_at_call 146; refine (nan_any _ _).mono ?_; rintro e w' ⟨rfl, rfl⟩)
      go_ret
      exact ⟨ret_int H.out, rfl⟩
    · have H := hid (show (0 : Int) = cmpI a b by simp [cmpI, h1, h2])
      go_enter Try.func104, Try.ntmps104
      go_wp2_with (go_at_call 146; refine (nan_any _ _).mono ?_; rintro e w' ⟨rfl, rfl⟩)
      go_ret
      exact ⟨ret_int H.out, rfl⟩

set_option maxHeartbeats 400000 in
theorem or_any (g : Nat) (a b : Int) (w : World) (c0 : w.cell? ⟨g, 0, none⟩ = some (.int .i64 a)) (c1 : w.cell? ⟨g, 1, none⟩ = some (.int .i64 b)) :
    Calls Try.prog 102 #[.slice (some ⟨g, 0, none⟩) 2 2] w fun e w' => e = .returned (.int .i64 (cmpOr a b)) ∧ Drawn w w' := by
  have hcell : Hid (∀ i, i < 2 → w.cell? ⟨g, i, none⟩ = some (.int .i64 (nth [a, b] i))) := by
    intro i hi
    match i, hi with
    | 0, _ => exact c0
    | 1, _ => exact c1
  clear c0 c1
  go_enter Try.func102, Try.ntmps102
  go_wp2
  go_loopw [8] (fun k wr => ∃ (i : Nat), i ≤ 2 ∧ k = .int .i64 i ∧ Drawn w wr ∧ Hid (∀ j, j < i → nth [a, b] j = 0)) (fun k _ => 2 - (intOf k).toNat)
  case atStart => exact ⟨0, by omega, rfl, Drawn.refl _, fun j hj => absurd hj (by omega)⟩
  case round =>
    obtain ⟨i, hi, rfl, ⟨q, rfl⟩, hall⟩ := hrel
    by_cases hlt : i < 2
    · have hx := hcell.out i hlt
      have i1 : (i : Int) < 2 := by omega
      by_cases e : nth [a, b] i = 0
      · have hb : (nth [a, b] i != 0) = false := by simp [e]
        have HE := hid e
        clear e
        go_wp2
        go_roundw
        case rel =>
          refine ⟨i + 1, by omega, by go_num, ⟨_, rfl⟩, fun j hj => ?_⟩
          by_cases e : j = i
          · rw [e]; exact HE.out
          · exact hall.out j (by omega)
        case measure => simp [intOf]; omega
      · have hb : (nth [a, b] i != 0) = true := by simp [e]
        have HE := hid e
        clear e
        go_wp2
        go_ret
        refine ⟨ret_int ?_, ⟨_, rfl⟩⟩
        match i, hlt with
        | 0, _ => have : a ≠ 0 := HE.out; simp [this, cmpOr]; rfl
        | 1, _ => have : a = 0 := hall.out 0 (by omega); simp [this, cmpOr]; rfl
    · obtain rfl : i = 2 := by omega
      go_wp2
      go_ret
      have h0 : a = 0 := hall.out 0 (by omega)
      have h1 : b = 0 := hall.out 1 (by omega)
      exact ⟨ret_int (by simp [h0, h1, cmpOr]), ⟨_, rfl⟩⟩

set_option maxHeartbeats 400000 in
theorem nearer_any (a b : Res) (w : World) :
    Calls Try.prog 60 #[.agg #[.int .i64 a.1, .int .i64 a.2], .agg #[.int .i64 b.1, .int .i64 b.2]] w fun e w' => e = .returned (.bool (nearer a b)) ∧ Keep w w' := by
  obtain ⟨a1, a2⟩ := a
  obtain ⟨b1, b2⟩ := b
  go_enter Try.func60, Try.ntmps60
  go_wp2
  go_region_held3 (fun w' => w'.cell? ⟨w.heap.size, 0, none⟩ = some (.int .i64 a1) ∧ w'.cell? ⟨w.heap.size, 1, none⟩ = some (.int .i64 a2) ∧ w'.cell? ⟨w.heap.size + 1, 0, none⟩ = some (.int .i64 b1) ∧ w'.cell? ⟨w.heap.size + 1, 1, none⟩ = some (.int .i64 b2)) (go_keep)
    (first | (go_at_call 103; refine (cmp64_any _ _ _).mono ?_; rintro e w' ⟨rfl, rfl⟩) | (go_at_call 104; refine (cmp_any _ _ _).mono ?_; rintro e w' ⟨rfl, rfl⟩) | (go_at_call 102; refine (or_any _ _ _ _ (new_drew (by simp) rfl) (new_drew (by simp) rfl)).mono ?_; rintro e w' ⟨rfl, ⟨q, rfl⟩⟩))
  all_goals go_wp2
  go_ret
  refine ⟨ret_bool ?_, keep_dr (keep_alloc (keep_alloc (keep_alloc (Below.refl _ w) _) _) _) _⟩
  simp only [nearer, cmpOr, cmpI]
  by_cases e1 : a2 = b2
  · subst e1
    by_cases e2 : a1 < b1
    · simp [e2]
    · by_cases e3 : b1 < a1
      · simp [e2, e3]
      · simp [e2, e3]
  · by_cases e2 : a2 < b2
    · simp [e1, e2]
    · have e3 : b2 < a2 := by omega
      simp [e1, e2, e3]
end Go.Proofs.Ytoligbmcceindaa
