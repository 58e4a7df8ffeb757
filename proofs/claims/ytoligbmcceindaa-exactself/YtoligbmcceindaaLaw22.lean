/- Contracts: shelterbeltlaw22.some, awake. -/
import Derived.Test.YtoligbmcceindaaBrute
set_option linter.unusedVariables false
set_option linter.unusedSimpArgs false
namespace Go.Proofs.Ytoligbmcceindaa
open Go.RowKit Go.Sb

/-- Items that may be, and are no more than a hundred. -/
def someOk (dim : Int) (l : List (List Int)) : Prop := few l = true ∧ l.length ≤ 100 ∧ lcheck dim l = 0

set_option maxRecDepth 100000 in
set_option maxHeartbeats 1000000 in
theorem some_any (dim : Int) (v : Value) (l : List (List Int)) (w : World) (hv : i32rows w v l) :
    Calls Try.prog 9 #[.int .i64 dim, v] w fun e w' =>
      ((¬ someOk dim l ∧ e = .returned (.tuple #[.pointer none, .bool false])) ∨
        (someOk dim l ∧ ∃ g S, e = .returned (.tuple #[.pointer (some ⟨g, 0, none⟩), .bool true]) ∧ IsItems S g dim l w' ∧ (∀ k, S k → w.heap.size ≤ k ∧ k < w'.heap.size))) ∧ Keep w w' := by
  obtain ⟨A, c, rfl, hc1, hc2⟩ := hv.form
  have HV := hid hv
  clear hv
  by_cases h1 : few l = true
  · by_cases h2 : l.length ≤ 100
    · have h2' : (l.length : Int) ≤ 100 := by omega
      by_cases h3 : lcheck dim l = 0
      · have hb3 : (lcheck dim l != 0) = false := by simp [h3]
        have H1 := hid h1
        have H2 := hid h2
        have H3 := hid h3
        clear h3 h2
        go_enter Try.func9, Try.ntmps9
        go_wp2_with fail
        refine (few_any _ _ w HV.out).mono ?_
        rintro e w1 ⟨rfl, hd⟩
        have K1 := hid hd.keep
        clear hd
        rw [H1.out]
        go_wp2_with fail
        refine (ref10_check_any dim _ l w1 (HV.out.keep K1.out)).mono ?_
        rintro e w2 ⟨rfl, hd⟩
        have K2 := hid (keep_trans K1.out hd.keep)
        clear hd
        go_wp2_with fail
        obtain ⟨q1, q2, q3⟩ := lcheck_ok H3.out
        refine (of_ok dim _ l w2 (HV.out.keep K2.out) q1 q2 q3 (by have := H2.out; omega)).mono ?_
        rintro e w3 ⟨⟨g, S, rfl, hI, hS⟩, hk⟩
        have HI := hid hI
        have HS := hid hS
        have K3 := hid (keep_trans K2.out hk)
        have hz := K2.out.size
        have HZ := hid hz
        clear hI hS hk q1 q2 q3 hz
        go_wp2
        go_ret2
        exact ⟨.inr ⟨⟨H1.out, H2.out, H3.out⟩, g, S, rfl, HI.out, fun k hk => ⟨Nat.le_trans HZ.out (HS.out k hk).1, (HS.out k hk).2⟩⟩, K3.out⟩
      · have hb3 : (lcheck dim l != 0) = true := by simp [h3]
        have H1 := hid h1
        have N := hid (show ¬ someOk dim l from fun h => h3 h.2.2)
        clear h3 h2
        go_enter Try.func9, Try.ntmps9
        go_wp2_with fail
        refine (few_any _ _ w HV.out).mono ?_
        rintro e w1 ⟨rfl, hd⟩
        have K1 := hid hd.keep
        clear hd
        rw [H1.out]
        go_wp2_with fail
        refine (ref10_check_any dim _ l w1 (HV.out.keep K1.out)).mono ?_
        rintro e w2 ⟨rfl, hd⟩
        have K2 := hid (keep_trans K1.out hd.keep)
        clear hd
        go_wp2
        go_ret2
        exact ⟨.inl ⟨N.out, rfl⟩, K2.out⟩
    · have h2' : (100 : Int) < (l.length : Int) := by omega
      have H1 := hid h1
      have N := hid (show ¬ someOk dim l from fun h => h2 h.2.1)
      clear h2
      go_enter Try.func9, Try.ntmps9
      go_wp2_with fail
      refine (few_any _ _ w HV.out).mono ?_
      rintro e w1 ⟨rfl, hd⟩
      have K1 := hid hd.keep
      clear hd
      rw [H1.out]
      go_wp2
      go_ret2
      exact ⟨.inl ⟨N.out, rfl⟩, K1.out⟩
  · have N := hid (show ¬ someOk dim l from fun h => h1 h.1)
    have h1 : few l = false := by simpa using h1
    have H1 := hid h1
    go_enter Try.func9, Try.ntmps9
    go_wp2_with fail
    refine (few_any _ _ w HV.out).mono ?_
    rintro e w1 ⟨rfl, hd⟩
    have K1 := hid hd.keep
    clear hd
    rw [H1.out]
    go_wp2
    go_ret2
    exact ⟨.inl ⟨N.out, rfl⟩, K1.out⟩
end Go.Proofs.Ytoligbmcceindaa
