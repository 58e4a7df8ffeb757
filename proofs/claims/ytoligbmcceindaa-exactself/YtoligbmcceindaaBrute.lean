/- Contracts: exact.Brute. -/
import Derived.Test.YtoligbmcceindaaRank
set_option linter.unusedVariables false
set_option linter.unusedSimpArgs false
namespace Go.Proofs.Ytoligbmcceindaa
open Go.RowKit Go.Sb

/-- All ids. -/
def allIds (n : Nat) : List Int := (List.range n).map (fun i : Nat => (i : Int))
theorem allIds_length (n : Nat) : (allIds n).length = n := by simp [allIds]
theorem allIds_succ (n : Nat) : allIds (n + 1) = allIds n ++ [(n : Int)] := by simp [allIds, List.range_succ]
theorem allIds_inc (n : Nat) : (allIds n).Pairwise (· < ·) := by
  rw [allIds, List.pairwise_map]
  exact List.Pairwise.imp (fun {a b} h => by omega) List.pairwise_lt_range

theorem info_int : (Try.prog.info? 3).map (fun i => (i.zero, i.size, i.bytes)) = some (some (.int .i64 0), 1, 8) := by kernel_rfl

theorem flat_zeros (w : World) : ∀ n, Flat (tInt .i64) w (List.replicate n 0) (List.replicate n (.int .i64 0))
  | 0 => rfl
  | n + 1 => ⟨[.int .i64 0], _, rfl, ⟨rfl, by rfl⟩, flat_zeros w n⟩

theorem set_app {α : Type} (a : List α) (n : Nat) (x y : α) (h : 0 < n) : (a ++ List.replicate n x).set a.length y = a ++ [y] ++ List.replicate (n - 1) x := by
  obtain ⟨m, rfl⟩ : ∃ m, n = m + 1 := ⟨n - 1, by omega⟩
  rw [List.set_append_right _ _ (Nat.le_refl _), Nat.sub_self, List.replicate_succ, List.set_cons_zero]
  simp

set_option maxRecDepth 100000 in
set_option maxHeartbeats 2000000 in
theorem brute_any (S : Nat → Prop) (g : Nat) (dim : Int) (l : List (List Int)) (va : Value) (ys : List Int) (k : Int) (w : World) (h : IsItems S g dim l w) (hS : ∀ k, S k → k < w.heap.size) (hv : i32s w va ys) (hva : ∀ k, va.ownBlock = some k → k < w.heap.size)
    (h0 : 0 < l.length) (hc : vcheck ys dim = 0) (hk0 : 1 ≤ k) (hk1 : k ≤ 1048576) :
    Calls Try.prog 10 #[.pointer (some ⟨g, 0, none⟩), va, .int .i64 k] w fun e w' => ∃ v, e = .returned (.tuple #[v, .int .i64 0]) ∧ ∃ out, Sb.Own tRes 33 w' v (out.map (·.1)) ∧ Kept nearer k.toNat (stamped (told l ys (allIds l.length))) out ∧
      out.Pairwise (fun x y => Sb.ahead nearer y x = false) ∧ (∀ k, v.ownBlock = some k → w.heap.size ≤ k) ∧ Keep w w' := by
  obtain ⟨Av, cv, rfl, _, _⟩ := hv.form
  obtain ⟨i0, hi, hzz⟩ := Option.map_eq_some_iff.1 info_int
  simp only [Prod.mk.injEq] at hzz
  obtain ⟨hz0, hz1, hz2⟩ := hzz
  have hfew := h.few
  have HI := hid h
  have HV := hid hv
  have HSS := hid hS
  have HVA := hid hva
  have HC := hid hc
  have HL0 := hid h0
  have HK := hid (And.intro hk0 hk1)
  obtain ⟨Ln, hLn⟩ : ∃ Ln : Int, (l.length : Int) = Ln := ⟨_, rfl⟩
  have HLn := hid hLn
  have HFW := hid hfew
  have HI0 := hid (And.intro hi (And.intro hz0 (And.intro hz1 hz2)))
  clear h hv hS hva hc h0 hk0 hk1 hLn hfew hi hz0 hz1 hz2
  go_enter Try.func10, Try.ntmps10
  go_wp2_with fail
  refine (xcheck_ok S g dim l _ ys k w HI.out HV.out HL0.out HC.out (by have := HK.out.1; omega) HK.out.2).mono ?_
  rintro e w1 ⟨rfl, hd⟩
  have K1 := hid hd.keep
  clear hd
  go_wp2_with fail
  refine (len_any S g dim l w1 (HI.out.keep K1.out)).mono ?_
  rintro e w2 ⟨rfl, hd⟩
  rw [HLn.out]
  have K2 := hid (keep_trans K1.out hd.keep)
  clear hd
  go_wp2_with (at_make; refine wpList_make_full w2 rfl _ _ 65 rfl 0 3 i0 (.int .i64 0) 1 Try.underlying65 HI0.out.1 HI0.out.2.1 HI0.out.2.2.1 .i64 .i64 Ln Ln l.length rfl rfl HLn.out.symm HLn.out.symm ?b2 ?b3 (Nat.zero_le _) ?_; (case b2 => rw [HI0.out.2.2.2]; have := HFW.out; omega); (case b3 => have := HFW.out; simp [maxLen]; omega); intro w3 hrow hgrow; have HR := hid hrow; have HG := hid hgrow; clear hrow hgrow)
  have own0 : Sb.Own (tInt .i64) 3 w3 (.slice (some ⟨w2.heap.size, 0, none⟩) l.length l.length) (allIds 0 ++ List.replicate (l.length - 0) 0) := by
    refine ⟨List.replicate l.length (.int .i64 0), by simpa [allIds] using flat_zeros w3 l.length, ?_, by have := HFW.out; simp [allIds]; omega⟩
    have := HR.out
    rw [Nat.mul_one] at this
    have e : (madeCells (Value.int .i64 0).cells l.length).toList = List.replicate l.length (.int .i64 0) := toList_madeCells_one _ _
    rw [e] at this
    simpa [allIds, tInt] using this
  have HO0 := hid own0
  have hm3 : Sb.Mod (fun _ => False) w2 w3 := Mod.of_grown HG.out (fun k hk => by cases hk)
  have K3 := hid (keep_trans K2.out (hm3.keep (fun _ _ h => h)))
  have hz2 := K2.out.size
  have HZ2 := hid hz2
  have hLpos : Hid (0 < Ln) := by have := HLn.out; have := HL0.out; show _ < _; omega
  clear own0 hm3 HR HG hz2
  go_wp2
  go_loopw [23] (fun kv wr => ∃ (i : Nat), kv = .int .i64 i ∧ i ≤ l.length ∧ Hid (Sb.Own (tInt .i64) 3 wr (.slice (some ⟨w2.heap.size, 0, none⟩) l.length l.length) (allIds i ++ List.replicate (l.length - i) 0)) ∧ Hid (Keep w wr)) (fun kv _ => l.length - (intOf kv).toNat)
  case atStart => exact ⟨0, rfl, Nat.zero_le _, HO0, K3⟩
  case round =>
    clear HO0 K3
    obtain ⟨i, rfl, hi, hown, hkeep⟩ := hrel
    have hlen : (allIds i ++ List.replicate (l.length - i) 0).length = l.length := by simp [allIds]; omega
    by_cases hlt : i < l.length
    · obtain ⟨_, he, cur, hcur, hcc, hsz⟩ := hown.out.block rfl
      clear he
      have hsz' : cur.size = l.length * 1 := hsz
      have c0 : wr.cell? ⟨w2.heap.size, i, none⟩ = cur[i]? := blk_cell hcur i
      rw [Array.getElem?_eq_getElem (show i < cur.size by omega)] at c0
      have f0 := blk_free hcur i
      have hii : (i : Int) < (l.length : Int) := by omega
      obtain ⟨cv0, hcv0⟩ : ∃ c, cur[i] = c := ⟨_, rfl⟩
      rw [hcv0] at c0
      have hst : Sb.Own (tInt .i64) 3 (wr.setCell ⟨w2.heap.size, i, none⟩ (.int .i64 i)) (.slice (some ⟨w2.heap.size, 0, none⟩) l.length l.length) (allIds (i + 1) ++ List.replicate (l.length - (i + 1)) 0) := by
        have := hown.out.store (tInt_flatly _) (g := w2.heap.size) rfl (i := i) (y := (i : Int)) (c := [.int .i64 i]) (by omega) ⟨rfl, by
          have := HFW.out
          simp [Lit.wf, IntKind.min, IntKind.max, IntKind.signed, IntKind.bits]; omega⟩ hcur (blk_set hcur i (.int .i64 i)) (by simp) (by
          intro j
          show _ = if i * 1 ≤ j ∧ j < i * 1 + 1 then _ else _
          rw [Array.getElem?_setIfInBounds]
          by_cases e : i = j
          · subst e
            rw [if_pos rfl, if_pos (by omega), if_pos (by omega)]
            show _ = [Value.int .i64 i][i - i * 1]?
            simp
          · rw [if_neg e, if_neg (by omega)])
        have e1 : (allIds i ++ List.replicate (l.length - i) (0 : Int)).set i (i : Int) = allIds (i + 1) ++ List.replicate (l.length - (i + 1)) 0 := by
          have := set_app (allIds i) (l.length - i) (0 : Int) (i : Int) (by omega)
          rw [allIds_length] at this
          rw [this, allIds_succ, Nat.sub_sub]
        rw [e1] at this
        exact this
      have hk2 : Keep w (wr.setCell ⟨w2.heap.size, i, none⟩ (.int .i64 i)) := Below.setCell hkeep.out HZ2.out _
      have P1 := hid hst
      have P2 := hid hk2
      have HLT := hid hlt
      clear hst hk2 hcur hcc hsz hsz' hcv0 hlen hlt
      obtain ⟨cc, hcc1, hcc2⟩ : ∃ cc : Nat, l.length ≤ cc ∧ cc ≤ 9223372036854775807 := ⟨l.length, Nat.le_refl _, by have := HFW.out; omega⟩
      go_wp2
      go_roundw
      case rel => exact ⟨i + 1, by go_num, HLT.out, P1, P2⟩
      case measure => simp [intOf]; have := HLT.out; omega
    · obtain rfl : i = l.length := by omega
      have hl2 : i64s wr (.slice (some ⟨w2.heap.size, 0, none⟩) l.length l.length) (allIds l.length) := by
        have := hown.out.lies
        rw [Nat.sub_self, List.replicate_zero, List.append_nil] at this
        exact this
      have HL2 := hid hl2
      clear hl2 hlen hlt hi
      obtain ⟨N, hN⟩ : ∃ N, l.length = N := ⟨_, rfl⟩
      have HN := hid hN
      rw [hN] at HL2 ⊢
      clear hN
      go_wp2_with fail
      rw [← HN.out]
      rw [← HN.out] at HL2
      refine (rank_any S g dim l _ _ ys (allIds l.length) k wr (HI.out.keep hkeep.out) (fun k hk => Nat.lt_of_lt_of_le (HSS.out k hk) hkeep.out.size) (HV.out.keep hkeep.out) (fun k hk => Nat.lt_of_lt_of_le (HVA.out k hk) hkeep.out.size) HL0.out HC.out HK.out.1 HK.out.2 HL2.out (by rw [allIds_length]; exact HL0.out) (allIds_inc _) (by rw [allIds_length]; exact HFW.out)).mono ?_
      rintro e w5 ⟨v, rfl, out, r1, r2, r3, r4, r5⟩
      have R1 := hid r1
      have R2 := hid r2
      have R3 := hid r3
      have R4 := hid r4
      have R5 := hid r5
      clear r1 r2 r3 r4 r5
      go_wp2
      go_ret2
      exact ⟨v, rfl, out, R1.out, R2.out, R3.out, fun q hq => Nat.le_trans hkeep.out.size (R4.out q hq), keep_trans hkeep.out R5.out⟩
end Go.Proofs.Ytoligbmcceindaa
