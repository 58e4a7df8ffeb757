/- The plain law of ExactSelf, and its walk. -/
import Derived.Test.YtoligbmcceindaaAwake
set_option linter.unusedVariables false
set_option linter.unusedSimpArgs false
namespace Go.Proofs.Ytoligbmcceindaa
open Go.RowKit Go.Sb

theorem sq_nonneg (x y : Int) : 0 ≤ sq x y := by
  unfold sq
  rcases Int.le_total 0 (x - y) with h | h
  · exact Int.mul_nonneg h h
  · have := Int.mul_nonneg (Int.neg_nonneg.2 h) (Int.neg_nonneg.2 h)
    rwa [Int.neg_mul_neg] at this
theorem sq_zero {x y : Int} (h : sq x y = 0) : x = y := by
  unfold sq at h
  rcases Int.mul_eq_zero.1 h with h | h <;> omega
theorem sq_self (x : Int) : sq x x = 0 := by simp [sq]
theorem farTo_nonneg (xs ys : List Int) : ∀ k, 0 ≤ farTo xs ys k
  | 0 => Int.le_refl _
  | k + 1 => Int.add_nonneg (farTo_nonneg xs ys k) (sq_nonneg _ _)
theorem farTo_zero {xs ys : List Int} : ∀ k, farTo xs ys k = 0 → ∀ i, i < k → nth xs i = nth ys i
  | 0, _, i, hi => absurd hi (Nat.not_lt_zero _)
  | k + 1, h, i, hi => by
    have h1 := farTo_nonneg xs ys k
    have h2 := sq_nonneg (nth xs k) (nth ys k)
    have h : farTo xs ys k + sq (nth xs k) (nth ys k) = 0 := h
    by_cases e : i = k
    · subst e; exact sq_zero (by omega)
    · exact farTo_zero k (by omega) i (by omega)
theorem far_self (xs : List Int) : far xs xs = 0 := by
  have : ∀ k, farTo xs xs k = 0 := fun k => by
    induction k with
    | zero => rfl
    | succ k ih => show farTo xs xs k + sq _ _ = 0; rw [ih, sq_self]; rfl
  exact this _
theorem far_eq {xs ys : List Int} (hl : xs.length = ys.length) (h : far xs ys = 0) : xs = ys :=
  getD_ext hl (fun i hi => farTo_zero _ h i (by omega))

/-- The one that is kept of all. -/
theorem best_one {rs : List Res} {out : List Ent} (h : Kept nearer (1 : Int).toNat (stamped rs) out) (h0 : 0 < rs.length) : ∃ e, out = [e] ∧ e.1 ∈ rs ∧ ∀ x ∈ rs, nearer x e.1 = false := by
  obtain ⟨hl, rest, hp, ha⟩ := h
  rw [stamped_length] at hl
  have hl1 : out.length = 1 := by rw [hl]; show min 1 _ = 1; omega
  obtain ⟨e, rfl⟩ := List.length_eq_one_iff.1 hl1
  refine ⟨e, rfl, ?_, fun x hx => ?_⟩
  · have : e ∈ stamped rs := hp.mem_iff.1 (by simp)
    rw [← stamped_fst rs]
    exact List.mem_map.2 ⟨e, this, rfl⟩
  · rw [← stamped_fst rs] at hx
    obtain ⟨b, hb, rfl⟩ := List.mem_map.1 hx
    have hb' := hp.mem_iff.2 hb
    rcases List.mem_append.1 hb' with h | h
    · rw [List.mem_singleton.1 h]; exact nearer_swo.irrefl _
    · have h2 := ha e (by simp) b h
      unfold Sb.ahead at h2
      by_cases h3 : nearer e.1 b.1 = true
      · exact nearer_swo.asymm _ _ h3
      · rw [if_neg h3] at h2
        by_cases h4 : nearer b.1 e.1 = true
        · rw [if_pos h4] at h2; cases h2
        · simpa using h4

theorem mem_told {l : List (List Int)} {ys : List Int} {x : Res} : x ∈ told l ys (allIds l.length) ↔ ∃ i : Nat, i < l.length ∧ x = ((i : Int), far (nth l i) ys) := by
  simp only [told, allIds, List.mem_map, List.mem_filter, List.mem_range]
  constructor
  · rintro ⟨a, ⟨⟨i, hi, rfl⟩, _⟩, rfl⟩
    exact ⟨i, hi, by simp⟩
  · rintro ⟨i, hi, rfl⟩
    exact ⟨(i : Int), ⟨⟨i, hi, rfl⟩, by simp; omega⟩, by simp⟩

/-- **The law**: the nearest of an item itself. -/
theorem self_law {l : List (List Int)} {n : Nat} {id : Nat} (hlen : ∀ x ∈ l, x.length = n) (hid : id < l.length) {out : List Ent} (h : Kept nearer (1 : Int).toNat (stamped (told l (nth l id) (allIds l.length))) out) :
    ∃ b : Nat, out.map (·.1) = [((b : Int), 0)] ∧ b ≤ id ∧ nth l b = nth l id ∧ ∀ i, i < b → nth l i ≠ nth l id := by
  have hmem : ((id : Int), far (nth l id) (nth l id)) ∈ told l (nth l id) (allIds l.length) := mem_told.2 ⟨id, hid, rfl⟩
  obtain ⟨e, rfl, he, hbest⟩ := best_one h (List.length_pos_of_mem hmem)
  obtain ⟨b, hb, hbe⟩ := mem_told.1 he
  have h1 := hbest _ hmem
  rw [hbe, far_self] at h1
  have hnn : 0 ≤ far (nth l b) (nth l id) := farTo_nonneg _ _ _
  have hz : far (nth l b) (nth l id) = 0 ∧ b ≤ id := by
    unfold nearer at h1
    by_cases e0 : (0 : Int) = far (nth l b) (nth l id)
    · rw [if_pos e0] at h1
      simp at h1
      exact ⟨e0.symm, by omega⟩
    · rw [if_neg e0] at h1
      simp at h1
      omega
  refine ⟨b, by simp [hbe, hz.1], hz.2, far_eq ?_ hz.1, fun i hi heq => ?_⟩
  · rw [hlen _ (nth_mem hb), hlen _ (nth_mem hid)]
  · have h2 := hbest _ (mem_told.2 ⟨i, by omega, rfl⟩)
    rw [heq, far_self, hbe, hz.1] at h2
    simp [nearer] at h2
    omega
end Go.Proofs.Ytoligbmcceindaa
