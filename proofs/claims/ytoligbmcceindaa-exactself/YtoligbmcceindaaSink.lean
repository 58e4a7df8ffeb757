/- Plain law: the best of a node and its kids, kid by kid. No program in sight. -/
import Derived.Test.YtoligbmcceindaaHeap
set_option linter.unusedVariables false
set_option linter.unusedSimpArgs false
namespace Go.Sb
variable {α : Type} [Inhabited α] {lt : α → α → Bool}
structure BestTo (lt : α → α → Bool) (l : List α) (k j b : Nat) : Prop where
  here : b = k ∨ (b = 2 * k + 1 ∧ 1 ≤ j) ∨ (b = 2 * k + 2 ∧ 2 ≤ j)
  len : b < l.length ∨ b = k
  self : lt (nth l k) (nth l b) = false
  gt : b = k ∨ lt (nth l b) (nth l k) = true
  kid1 : 1 ≤ j → 2 * k + 1 < l.length → lt (nth l (2 * k + 1)) (nth l b) = false
  kid2 : 2 ≤ j → 2 * k + 2 < l.length → lt (nth l (2 * k + 2)) (nth l b) = false
theorem BestTo.start (S : SWO lt) (l : List α) (k : Nat) : BestTo lt l k 0 k := ⟨.inl rfl, .inr rfl, S.irrefl _, .inl rfl, fun h => by omega, fun h => by omega⟩
theorem BestTo.take (S : SWO lt) {l : List α} {k j b : Nat} (h : BestTo lt l k j b) (hj : j < 2) (hl : 2 * k + 1 + j < l.length) (ht : lt (nth l (2 * k + 1 + j)) (nth l b) = true) : BestTo lt l k (j + 1) (2 * k + 1 + j) := by
  have hgt : lt (nth l (2 * k + 1 + j)) (nth l k) = true := by
    rcases h.gt with e | e
    · rw [e] at ht; exact ht
    · exact S.trans _ _ _ ht e
  rcases (by omega : j = 0 ∨ j = 1) with rfl | rfl
  · exact ⟨.inr (.inl ⟨by omega, by omega⟩), .inl hl, S.asymm _ _ hgt, .inr hgt, fun _ _ => S.irrefl _, fun h => by omega⟩
  · refine ⟨.inr (.inr ⟨by omega, by omega⟩), .inl hl, S.asymm _ _ hgt, .inr hgt, fun _ h1 => ?_, fun _ _ => S.irrefl _⟩
    exact S.ntrans _ _ _ (h.kid1 (by omega) h1) (S.asymm _ _ ht)
theorem BestTo.leave {l : List α} {k j b : Nat} (h : BestTo lt l k j b) (hj : j < 2) (ht : 2 * k + 1 + j < l.length → lt (nth l (2 * k + 1 + j)) (nth l b) = false) : BestTo lt l k (j + 1) b := by
  rcases (by omega : j = 0 ∨ j = 1) with rfl | rfl
  · exact ⟨by rcases h.here with e | e | e <;> omega, h.len, h.self, h.gt, fun _ h1 => ht h1, fun h => by omega⟩
  · exact ⟨by rcases h.here with e | e | e <;> omega, h.len, h.self, h.gt, fun _ h1 => h.kid1 (by omega) h1, fun _ h1 => ht h1⟩
theorem BestTo.best {l : List α} {k b : Nat} (h : BestTo lt l k 2 b) (hb : b < l.length) : Best lt l k b :=
  ⟨by rcases h.here with e | e | e <;> omega, hb, h.self, h.kid1 (by omega), h.kid2 (by omega)⟩
end Go.Sb
