/- Contracts: exact.Check; data.Of. -/
import Derived.Test.YtoligbmcceindaaIterB
set_option linter.unusedVariables false
set_option linter.unusedSimpArgs false
namespace Go.Proofs.Ytoligbmcceindaa
open Go.RowKit Go.Sb

set_option maxRecDepth 100000 in
set_option maxHeartbeats 1000000 in
/-- It may be ranked. -/
theorem xcheck_ok (S : Nat → Prop) (g : Nat) (dim : Int) (l : List (List Int)) (va : Value) (ys : List Int) (k : Int) (w : World) (h : IsItems S g dim l w) (hv : i32s w va ys) (h0 : 0 < l.length) (hc : vcheck ys dim = 0) (hk0 : 0 ≤ k) (hk1 : k ≤ 1048576) :
    Calls Try.prog 28 #[.pointer (some ⟨g, 0, none⟩), va, .int .i64 k] w fun e w' => e = .returned (.int .i64 0) ∧ Drawn w w' := by
  obtain ⟨Av, cv, rfl, _, _⟩ := hv.form
  have HI := hid h
  have HV := hid hv
  have HC := hid hc
  obtain ⟨Ln, hLn⟩ : ∃ Ln : Int, (l.length : Int) = Ln := ⟨_, rfl⟩
  have hb : (Ln == 0) = false := beq_eq_false_iff_ne.2 (by omega)
  have hb2 : decide (k < 0) = false := by simpa using hk0
  have hb3 : decide (1048576 < k) = false := by simpa using hk1
  have HLn := hid hLn
  clear h hv h0 hc hk0 hk1 hLn
  go_enter Try.func28, Try.ntmps28
  go_wp2_with fail
  refine (len_any _ _ _ _ _ HI.out).mono ?_
  rintro e w1 ⟨rfl, hd⟩
  rw [HLn.out]
  have HD1 := hid hd
  clear hd
  go_wp2_with fail
  refine (dim_any _ _ _ _ _ (HI.out.keep HD1.out.keep)).mono ?_
  rintro e w2 ⟨rfl, rfl⟩
  go_wp2_with fail
  refine (check_any _ _ _ _ (HV.out.keep HD1.out.keep)).mono ?_
  rintro e w2 ⟨rfl, hd⟩
  rw [HC.out]
  have HD2 := hid (HD1.out.trans hd)
  clear hd
  go_wp2
  go_ret
  exact ⟨rfl, HD2.out⟩

set_option maxHeartbeats 1000000 in
/-- Items of rows that may all be. -/
theorem of_ok (dim : Int) (v : Value) (l : List (List Int)) (w : World) (hv : Lies (tSl (tInt .i32)) w v l) (h1 : 1 ≤ dim) (h2 : dim ≤ 1024) (hall : ∀ x ∈ l, vcheck x dim = 0) (hfew : l.length ≤ 1048576) :
    Calls Try.prog 25 #[.int .i64 dim, v] w fun e w' => (∃ g S, e = .returned (.tuple #[.pointer (some ⟨g, 0, none⟩), .int .i64 0]) ∧ IsItems S g dim l w' ∧ (∀ k, S k → w.heap.size ≤ k ∧ k < w'.heap.size)) ∧ Keep w w' := by
  obtain ⟨A, c, rfl, hc1, hc2⟩ := hv.form
  have HV := hid hv
  have HA := hid hall
  have HF := hid hfew
  clear hv hall hfew
  go_enter Try.func25, Try.ntmps25
  go_wp2_with fail
  refine (new_any dim _ h1 h2).mono ?_
  rintro e w1 ⟨⟨g, rfl, hI, hg⟩, hk⟩
  have HI1 := hid hI
  have HK1 := hid hk
  have HG := hid hg
  clear hI hk hg
  go_wp2
  go_loopw [22] (fun kv wr => ∃ (i : Nat) (S : Nat → Prop), kv = .int .i64 i ∧ i ≤ l.length ∧ Hid (IsItems S g dim (l.take i) wr) ∧ Hid (∀ k, S k → w.heap.size ≤ k ∧ k < wr.heap.size) ∧ Hid (Keep w wr)) (fun kv _ => l.length - (intOf kv).toNat)
  case atStart => exact ⟨0, _, rfl, Nat.zero_le _, hid (by simpa using HI1.out), fun k e => by subst e; exact ⟨HG.out, HI1.out.lt⟩, HK1⟩
  case round =>
    obtain ⟨i, S, rfl, hi, hI, hS, hK⟩ := hrel
    by_cases hlt : i < l.length
    · obtain ⟨b, o, cap, u, e, _, _, hb, hcell, hu⟩ := sl_at HV.out (nth_some hlt)
      injection e with e1 e2 e3
      subst e1 e3
      replace hcell := keep_cell hK.out hcell
      have HU := hid (hu.keep hK.out)
      have hii : (i : Int) < (l.length : Int) := by omega
      have HC : Hid (vcheck (nth l i) dim = 0) := HA.out _ (nth_mem hlt)
      have HFI : Hid ((l.take i).length < 1048576) := by have := HF.out; simp; show _ < _; omega
      have HLT := hid hlt
      obtain ⟨A2, c2, rfl, _, _⟩ := hu.form
      clear hu hlt hb
      go_wp2_with fail
      refine (add_any S g dim (l.take i) _ (nth l i) wr hI.out HU.out HC.out HFI.out).mono ?_
      rintro e w2 ⟨rfl, hI2, hm2⟩
      obtain ⟨Lq, hLq⟩ : ∃ Lq : Int, (((l.take i).length : Nat) : Int) = Lq := ⟨_, rfl⟩
      rw [hLq]
      have htk : l.take i ++ [nth l i] = l.take (i + 1) := by rw [List.take_succ_eq_append_getElem HLT.out, nth_eq HLT.out]
      rw [htk] at hI2
      have hI3 : IsItems (fun k => (S k ∨ wr.heap.size ≤ k) ∧ k < w2.heap.size) g dim (l.take (i + 1)) w2 := hI2.mono (fun k hk h => ⟨h, hk⟩)
      have hz := hK.out.size
      have P1 := hid hI3
      have P2 : Hid (∀ k, ((S k ∨ wr.heap.size ≤ k) ∧ k < w2.heap.size) → w.heap.size ≤ k ∧ k < w2.heap.size) := fun k hk => ⟨hk.1.elim (fun h => (hS.out k h).1) (fun h => by omega), hk.2⟩
      have P3 : Hid (Keep w w2) := by
        refine ⟨hm2.os.trans hK.out.os, hm2.tape.trans hK.out.tape, hm2.output.trans hK.out.output, Nat.le_trans hz hm2.size, fun k hk => ?_⟩
        exact (hm2.block k (by omega) (fun h => by have := (hS.out k h).1; omega)).trans (hK.out.block k hk)
      clear hI2 hm2 htk hI3 hz hLq
      go_wp2
      go_roundw
      case rel => exact ⟨i + 1, _, by go_num, HLT.out, P1, P2, P3⟩
      case measure => simp [intOf]; have := HLT.out; omega
    · obtain rfl : i = l.length := by omega
      clear hlt
      go_wp2
      go_ret2
      refine ⟨⟨g, S, rfl, ?_, hS.out⟩, hK.out⟩
      have := hI.out
      rwa [List.take_length] at this
end Go.Proofs.Ytoligbmcceindaa
