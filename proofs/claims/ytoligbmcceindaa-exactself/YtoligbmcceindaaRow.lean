/- A row of one's own is written to in place. No program in sight. -/
import Derived.Test.YtoligbmcceindaaBase
set_option linter.unusedVariables false
set_option linter.unusedSimpArgs false
namespace Go.Sb
open Go Go.RowKit
section
variable {α : Type} {d : Ty α} {e : TypeId} {w w' : World} {v : Value} {xs : List α}
theorem flat_set : ∀ {xs : List α} {cs : List Value} {i : Nat} {y : α} {c : List Value}, Flat d w xs cs → d.enc w y c → i < xs.length → Flat d w (xs.set i y) (cs.take (i * d.sz) ++ c ++ cs.drop (i * d.sz + d.sz))
  | [], _, i, _, _, _, _, hi => by simp at hi
  | x :: xs, _, 0, y, c', ⟨c, r, e, hc, hr⟩, hy, hi => by
    subst e
    rw [List.set_cons_zero, Nat.zero_mul, List.take_zero, List.nil_append, Nat.zero_add, ← d.len hc, List.drop_left]
    exact ⟨c', r, rfl, hy, hr⟩
  | x :: xs, _, i + 1, y, c', ⟨c, r, e, hc, hr⟩, hy, hi => by
    subst e
    have hl := d.len hc
    have h1 : (i + 1) * d.sz = d.sz + i * d.sz := by rw [Nat.succ_mul, Nat.add_comm]
    rw [List.set_cons_succ, h1, List.take_append, hl, List.take_of_length_le (l := c) (by omega), List.drop_append, hl, List.drop_of_length_le (l := c) (by omega), List.nil_append,
      Nat.add_sub_cancel_left, show d.sz + i * d.sz + d.sz - d.sz = i * d.sz + d.sz by omega, List.append_assoc, List.append_assoc]
    exact ⟨c, _, rfl, hc, by rw [← List.append_assoc]; exact flat_set hr hy (by simpa using hi)⟩

theorem Own.block (h : Own d e w v xs) {g o n c : Nat} (hv : v = .slice (some ⟨g, o, none⟩) n c) : o = 0 ∧ n = xs.length ∧ ∃ cur, w.heap[g]? = some (.cells cur e (0, 0)) ∧ xs.length ≤ c ∧ cur.size = c * d.sz := by
  obtain ⟨cs, hf, ho, hl⟩ := h
  rcases ho.2 with ⟨rfl, h0⟩ | ⟨g', cap, cur, rfl, _, hg, hc, hm, hs, ht⟩
  · cases hv
  · injection hv with h1 h2 h3
    injection h1 with h1
    injection h1 with h4 h5
    subst h4 h2 h3
    exact ⟨h5.symm, rfl, cur, hg, hc, hs⟩

theorem Own.store (hd : Flatly d) (h : Own d e w v xs) {g : Nat} (hk : v.ownBlock = some g) {i : Nat} {y : α} {c : List Value} (hi : i < xs.length) (hc : d.enc w y c) {cur cur' : Array Value}
    (hg : w.heap[g]? = some (.cells cur e (0, 0))) (hg' : w'.heap[g]? = some (.cells cur' e (0, 0))) (hsz : cur'.size = cur.size)
    (hcur : ∀ j, cur'[j]? = if i * d.sz ≤ j ∧ j < i * d.sz + d.sz then c[j - i * d.sz]? else cur[j]?) : Own d e w' v (xs.set i y) := by
  obtain ⟨cs, hf, ho, hl⟩ := h
  rcases ho.2 with ⟨rfl, h0⟩ | ⟨g', cap, cur0, rfl, hb, hg0, hca, hm, hs, ht⟩
  · simp [Value.ownBlock] at hk
  · simp [Value.ownBlock] at hk
    subst hk
    rw [hg] at hg0
    injection hg0 with hg0
    injection hg0 with hg0 _ _
    subst hg0
    have hlen := hf.length
    have hmul : (i + 1) * d.sz ≤ xs.length * d.sz := Nat.mul_le_mul_right _ hi
    rw [Nat.succ_mul] at hmul
    have hmul2 : xs.length * d.sz ≤ cap * d.sz := Nat.mul_le_mul_right _ hca
    refine ⟨cs.take (i * d.sz) ++ c ++ cs.drop (i * d.sz + d.sz), (flat_set hf hc hi).any hd, ⟨?_, .inr ⟨g', cap, cur', by simp, hb, hg', by simpa using hca, hm, by omega, ?_⟩⟩, by simpa using hl⟩
    · rw [List.length_append, List.length_append, List.length_take, List.length_drop, hlen, d.len hc, List.length_set, Nat.min_eq_left (by omega)]; omega
    · rw [List.length_set]
      apply List.ext_getElem?
      intro j
      have hcs : ∀ k, cs[k]? = if k < xs.length * d.sz then cur[k]? else none := by
        intro k
        rw [← ht, List.getElem?_take]
        simp
      rw [List.getElem?_take]
      have hlc := d.len hc
      have hl1 : (cs.take (i * d.sz)).length = i * d.sz := by simp; omega
      by_cases hj : j < xs.length * d.sz
      · rw [if_pos hj, Array.getElem?_toList, hcur]
        by_cases h1 : i * d.sz ≤ j ∧ j < i * d.sz + d.sz
        · rw [if_pos h1, List.append_assoc, List.getElem?_append_right (by omega), hl1, List.getElem?_append_left (by omega)]
        · rw [if_neg h1]
          by_cases h2 : j < i * d.sz
          · rw [List.append_assoc, List.getElem?_append_left (by omega), List.getElem?_take, if_pos h2, hcs, if_pos hj]
          · rw [List.getElem?_append_right (by simp; omega), List.getElem?_drop, hcs]
            rw [if_pos (by simp; omega)]
            congr 1
            simp; omega
      · rw [if_neg hj, eq_comm, List.getElem?_eq_none_iff]
        simp; omega
end
end Go.Sb
