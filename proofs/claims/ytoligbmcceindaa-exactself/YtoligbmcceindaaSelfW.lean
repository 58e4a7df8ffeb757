/- The walk of ExactSelf. -/
import Derived.Test.YtoligbmcceindaaSelf
set_option linter.unusedVariables false
set_option linter.unusedSimpArgs false
namespace Go.Proofs.Ytoligbmcceindaa
open Go.RowKit Go.Sb

set_option maxRecDepth 100000 in
set_option maxHeartbeats 2000000 in
theorem exactSelf_any (dim id : Int) (v : Value) (l : List (List Int)) (w : World) (hv : i32rows w v l) : Calls Try.prog 3 #[.int .i64 dim, v, .int .i64 id] w fun e w' => e = .returned (.bool true) ∧ Keep w w' := by
  obtain ⟨A, c, rfl, hc1, hc2⟩ := hv.form
  have HV := hid hv
  clear hv
  by_cases hok : someOk dim l
  · by_cases hid0 : id < 0
    · go_enter Try.func3, Try.ntmps3
      go_wp2_with fail
      refine (awake_any w).mono ?_
      rintro e w1 ⟨rfl, hk⟩
      have K1 := hid hk
      clear hk
      go_wp2_with fail
      refine (some_any dim _ l w1 (HV.out.keep K1.out)).mono ?_
      rintro e w2 ⟨(⟨hn, _⟩ | ⟨_, g, S, rfl, hI, hS⟩), hk⟩
      · exact absurd hok hn
      have K2 := hid (keep_trans K1.out hk)
      clear hk hI hS hok
      go_wp2
      go_ret
      exact ⟨rfl, K2.out⟩
    · obtain ⟨n, rfl⟩ : ∃ n : Nat, id = n := ⟨id.toNat, by omega⟩
      by_cases hlt : n < l.length
      · have hii : (n : Int) < (l.length : Int) := by omega
        have hd0 : decide ((n : Int) < 0) = false := by simp
        have HLT := hid hlt
        have HOK := hid hok
        clear hid0 hok
        obtain ⟨q1, q2, q3⟩ := lcheck_ok HOK.out.2.2
        obtain ⟨b0, o0, cap0, u, e, _, _, hb0, hcell, hu⟩ := sl_at HV.out (nth_some hlt)
        injection e with e1 e2 e3
        subst e1 e3
        obtain ⟨A2, c2, rfl, _, _⟩ := hu.form
        have hdim := (vcheck_ok (q3 _ (nth_mem hlt))).2.2.1
        have hun : ∀ k, (Value.slice A2 (nth l n).length c2).ownBlock = some k → k < w.heap.size := fun k hk => by
          obtain ⟨b3, o3, c3, e4, _, _, hb3, _⟩ := ints_open hu (by omega)
          rw [e4] at hk
          have : b3 = k := by simpa [Value.ownBlock] using hk
          omega
        have HU := hid hu
        have HUN := hid hun
        have HQ3 := hid q3
        have HHC := hid hcell
        clear hu hun hlt q1 q2 q3 hdim hcell e2
        go_enter Try.func3, Try.ntmps3
        go_wp2_with fail
        refine (awake_any w).mono ?_
        rintro e w1 ⟨rfl, hk⟩
        have K1 := hid hk
        clear hk
        go_wp2_with fail
        refine (some_any dim _ l w1 (HV.out.keep K1.out)).mono ?_
        rintro e w2 ⟨(⟨hn, _⟩ | ⟨_, g, S, rfl, hI, hS⟩), hk⟩
        · exact absurd HOK.out hn
        have K2 := hid (keep_trans K1.out hk)
        have HI := hid hI
        have HS := hid hS
        clear hk hI hS
        have hcell := keep_cell K2.out HHC.out
        go_wp2_with fail
        refine (brute_any S g dim l _ (nth l n) 1 w2 HI.out (fun k hk => (HS.out k hk).2) (HU.out.keep K2.out) (fun k hk => Nat.lt_of_lt_of_le (HUN.out k hk) K2.out.size) (by have := HLT.out; omega) (HQ3.out _ (nth_mem HLT.out)) (by omega) (by omega)).mono ?_
        rintro e w3 ⟨v, rfl, out, r1, r2, r3, r4, r5⟩
        obtain ⟨b, hb1, hb2, hb3, hb4⟩ := self_law (n := dim.toNat) (fun x hx => by have := (vcheck_ok (HQ3.out x hx)).2.2.1; omega) HLT.out r2
        rw [hb1] at r1
        have K3 := hid (keep_trans K2.out r5)
        obtain ⟨b4, o4, c4, e5, _, _, _, hat⟩ := ress_open r1.lies (by simp)
        subst e5
        have a0 : w3.cell? ⟨b4, o4, none⟩ = some (.int .i64 b) := by simpa [nth] using (hat 0 (by simp)).1
        have a1 : w3.cell? ⟨b4, o4 + 1, none⟩ = some (.int .i64 0) := by simpa [nth] using (hat 0 (by simp)).2
        have HB3 := hid hb3
        have HB4 := hid hb4
        have hbn : (b : Int) ≤ (n : Int) := by omega
        have hbl : b < l.length := by have := HLT.out; omega
        have hbl' : (b : Int) < (l.length : Int) := by omega
        have hbn' : decide (n < b) = false := by simp; omega
        have hb0' : decide ((b : Int) < 0) = false := by simp
        have HBL := hid hbl
        have R1 := hid r1
        clear r1 r2 r3 r4 r5 hat hb1 hb2 hb3 hb4 hcell hbl
        go_wp2
        go_loopw [11] (fun kv wr => ∃ (i : Nat), kv = .int .i64 i ∧ i ≤ b ∧ Hid (Keep w3 wr)) (fun kv _ => b - (intOf kv).toNat)
        case atStart => exact ⟨0, rfl, Nat.zero_le _, Below.refl _ _⟩
        case round =>
          obtain ⟨i, rfl, hib, hkw⟩ := hrel
          have x0 := keep_cell hkw.out a0
          have KW := hid (keep_trans K3.out hkw.out)
          have z0 := keep_cell KW.out HHC.out
          have hUw := hid (HU.out.keep KW.out)
          clear a0 a1
          by_cases hlt2 : i < b
          · have hilI : (i : Int) < (l.length : Int) := by omega
            have hibI : (i : Int) < (b : Int) := by omega
            obtain ⟨b6, o6, cap6, u6, e6, _, _, _, hcell6, hu6⟩ := sl_at HV.out (nth_some (show i < l.length by have := HBL.out; omega))
            injection e6 with e1 e2 e3
            injection e1 with e1
            injection e1 with e7 e8
            subst e7 e8 e3
            obtain ⟨A6, c6, rfl, _, _⟩ := hu6.form
            have z1 := keep_cell KW.out hcell6
            have hU6 := hid (hu6.keep KW.out)
            have hneq : Hid (decide (nth l i = nth l n) = false) := by
              have := HB4.out i hlt2
              exact hid (by simpa using this)
            have HLT2 := hid hlt2
            clear hcell6 hu6 e2 hlt2
            go_wp2
            go_region_held3 (fun w' => w'.cell? ⟨b0, o0 + i, none⟩ = some (.slice A6 (nth l i).length c6) ∧ w'.cell? ⟨b0, o0 + n, none⟩ = some (.slice A2 (nth l n).length c2)) (go_keep)
              (first | (go_at_call 11; refine (same_any _ _ _ _ wr.drew (hU6.out.keep (keep_drew (Below.refl _ _))) (hUw.out.keep (keep_drew (Below.refl _ _)))).mono ?_; rintro e w5 ⟨rfl, ⟨q5, rfl⟩⟩; rw [hneq.out]))
            go_wp2
            go_roundw
            case rel => exact ⟨i + 1, by go_num, HLT2.out, keep_dr hkw.out _⟩
            case measure => simp [intOf]; have := HLT2.out; omega
          · obtain rfl : i = b := by omega
            have hge : ¬ ((i : Int) < (i : Int)) := by omega
            clear hlt2
            obtain ⟨b6, o6, cap6, u6, e6, _, _, _, hcell6, hu6⟩ := sl_at HV.out (nth_some HBL.out)
            injection e6 with e1 e2 e3
            injection e1 with e1
            injection e1 with e7 e8
            subst e7 e8 e3
            obtain ⟨A6, c6, rfl, _, _⟩ := hu6.form
            have z1 := keep_cell KW.out hcell6
            have hU6 := hid (hu6.keep KW.out)
            have heq : Hid (decide (nth l i = nth l n) = true) := hid (by simpa using HB3.out)
            clear hcell6 hu6 e2
            go_wp2
            go_region_held3 (fun w' => w'.cell? ⟨b4, o4, none⟩ = some (.int .i64 i) ∧ w'.cell? ⟨b0, o0 + i, none⟩ = some (.slice A6 (nth l i).length c6) ∧ w'.cell? ⟨b0, o0 + n, none⟩ = some (.slice A2 (nth l n).length c2)) (go_keep)
              (first | (go_at_call 11; refine (same_any _ _ _ _ wr.drew (hU6.out.keep (keep_drew (Below.refl _ _))) (hUw.out.keep (keep_drew (Below.refl _ _)))).mono ?_; rintro e w5 ⟨rfl, ⟨q5, rfl⟩⟩; rw [heq.out]))
            go_wp2
            go_ret
            exact ⟨rfl, keep_dr KW.out _⟩
      · have hge : (l.length : Int) ≤ (n : Int) := by omega
        have hd0 : decide ((n : Int) < 0) = false := by simp
        clear hid0 hlt
        go_enter Try.func3, Try.ntmps3
        go_wp2_with fail
        refine (awake_any w).mono ?_
        rintro e w1 ⟨rfl, hk⟩
        have K1 := hid hk
        clear hk
        go_wp2_with fail
        refine (some_any dim _ l w1 (HV.out.keep K1.out)).mono ?_
        rintro e w2 ⟨(⟨hn, _⟩ | ⟨_, g, S, rfl, hI, hS⟩), hk⟩
        · exact absurd hok hn
        have K2 := hid (keep_trans K1.out hk)
        clear hk hI hS hok
        go_wp2
        go_ret
        exact ⟨rfl, K2.out⟩
  · go_enter Try.func3, Try.ntmps3
    go_wp2_with fail
    refine (awake_any w).mono ?_
    rintro e w1 ⟨rfl, hk⟩
    have K1 := hid hk
    clear hk
    go_wp2_with fail
    refine (some_any dim _ l w1 (HV.out.keep K1.out)).mono ?_
    rintro e w2 ⟨(⟨_, rfl⟩ | ⟨hy, _⟩), hk⟩
    · have K2 := hid (keep_trans K1.out hk)
      clear hk hok
      go_wp2
      go_ret
      exact ⟨rfl, K2.out⟩
    · exact absurd hy hok
end Go.Proofs.Ytoligbmcceindaa
