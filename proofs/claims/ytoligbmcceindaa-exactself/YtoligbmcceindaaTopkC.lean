/- Contracts: the heap of entries sinks its top; Pop. -/
import Derived.Test.YtoligbmcceindaaTopkB
import Derived.Test.YtoligbmcceindaaSink
set_option linter.unusedVariables false
set_option linter.unusedSimpArgs false
namespace Go.Proofs.Ytoligbmcceindaa
open Go.RowKit Go.Sb

theorem pair_at (x y : Int) (j : Nat) (hj : j < 2) (w : World) : (Instr.index 84 (.agg #[.int .i64 x, .int .i64 y]) (.int .i64 j)).run Try.prog w = .ok (.int .i64 (if j = 0 then x else y)) w := by
  have hu : (underlying 84).run Try.prog w = .ok (.array 2 3) w := run_underlying (by kernel_rfl) w
  have h3 : (underlying 3).run Try.prog w = .ok (.int .i64) w := run_underlying (by kernel_rfl) w
  have hm : (Try.prog.info? 3).map (·.size) = some 1 := by kernel_rfl
  obtain ⟨i, hi, hz⟩ := Option.map_eq_some_iff.1 hm
  have hs : (sizeOf 3).run Try.prog w = .ok 1 w := by simp [sizeOf, typeInfo, hi, hz]
  match j, hj with
  | 0, _ => simp [Instr.index, Sem.run_bind, asIntOf, hu, hs, h3, Result.andThen, part, isAgg]
  | 1, _ => simp [Instr.index, Sem.run_bind, asIntOf, hu, hs, h3, Result.andThen, part, isAgg]

set_option maxRecDepth 100000 in
set_option maxHeartbeats 4000000 in
theorem sink_any (S : Nat → Prop) (h b s : Nat) (l : List Ent) (w : World) (H : IsHeap S h b s l w) (hd : DownInv below l 0) (hfew : l.length < 1099511627776) :
    Calls Try.prog 160 #[.pointer (some ⟨h, 0, none⟩)] w fun e w' =>
      (∃ v, e = .returned v) ∧ ∃ l', l'.Perm l ∧ HeapOrd below l' ∧ IsHeap S h b s l' w' ∧ Sb.Mod S w w' := by
  have HH := hid H
  have HD := hid hd
  have HF := hid hfew
  clear H hd hfew
  go_enter Try.func160, Try.ntmps160
  go_wp2
  go_loopw [2] (fun kv wr => ∃ (k : Nat) (l1 : List Ent), kv = .int .i64 k ∧ (k < l.length ∨ k = 0) ∧ Hid (l1.length = l.length) ∧ Hid (l1.Perm l) ∧ Hid (DownInv below l1 k) ∧ Hid (IsHeap S h b s l1 wr) ∧ Hid (Sb.Mod S w wr)) (fun k _ => l.length - (intOf k).toNat)
  case atStart => exact ⟨0, l, rfl, .inr rfl, rfl, List.Perm.refl _, HD, HH, Mod.refl _ _⟩
  case round =>
    clear HH HD
    obtain ⟨k, l1, rfl, hk, hlen, hperm, hdown, hheap0, hmod⟩ := hrel
    have hk2 : (k : Int) ≤ 1099511627776 := by have := HF.out; omega
    obtain ⟨A1, cp, cc0, cc1, kk1, kk2, kk3, hl1⟩ := hheap0.out.cells
    obtain ⟨w0, rfl⟩ : ∃ w0, w0 = wr := ⟨_, rfl⟩
    go_wp2
    clear hk2 kk2 kk3
    have ix0 := fun wz => pair_at (2 * (k : Int) + 1) (2 * (k : Int) + 2) 0 (by omega) wz
    have ix1 := fun wz => pair_at (2 * (k : Int) + 1) (2 * (k : Int) + 2) 1 (by omega) wz
    simp only [if_true, Nat.one_ne_zero, if_false, Int.natCast_zero, Int.natCast_one] at ix0 ix1
    go_loopw [3, 14] (fun bv jv wi => ∃ (j bb : Nat), bv = .int .i64 bb ∧ jv = .int .i64 j ∧ j ≤ 2 ∧ Hid (BestTo below l1 k j bb) ∧ Hid (Keep w0 wi)) (fun _ jv _ => 2 - (intOf jv).toNat)
    case atStart => exact ⟨0, k, rfl, rfl, by omega, BestTo.start below_swo _ _, Below.refl _ _⟩
    case round =>
      obtain ⟨j, bb, rfl, rfl, hj, hbest, hkp⟩ := hrel
      replace cc0 := keep_cell hkp.out cc0
      replace cc1 := keep_cell hkp.out cc1
      have hheap := hid (hheap0.out.keep hkp.out)
      replace hl1 := hl1.keep hkp.out
      rcases (by omega : j = 0 ∨ j = 1 ∨ j = 2) with rfl | rfl | rfl
      · have hkI : (0 : Int) ≤ 2 * (k : Int) + 1 := by omega
        have hkN : (2 * (k : Int) + 1).toNat = 2 * k + 1 := by omega
        by_cases hl : 2 * k + 1 < l1.length
        · obtain ⟨b', o', cp', e, _, _, hb', hat⟩ := ents_open hl1 (by omega)
          injection e with e1 e2 e3
          subst e1 e3
          obtain ⟨rfl, n1, n2, n3, n4, hfr, hrow⟩ := hheap.out.row cc1
          have HFR := hid hfr
          clear hfr hrow
          obtain ⟨p0, p1, p2⟩ := hat (2 * k + 1) hl
          have hbl : bb < l1.length := by rcases hbest.out.len with e | e <;> omega
          obtain ⟨q0, q1, q2⟩ := hat bb hbl
          rw [Nat.zero_add] at p0 p1 p2 q0 q1 q2
          obtain ⟨⟨⟨i1, i2⟩, i3⟩, hxi⟩ : ∃ x, nth l1 (2 * k + 1) = x := ⟨_, rfl⟩
          obtain ⟨⟨⟨u1, u2⟩, u3⟩, hxu⟩ : ∃ x, nth l1 bb = x := ⟨_, rfl⟩
          rw [hxi] at p0 p1 p2
          rw [hxu] at q0 q1 q2
          have hbox := hheap.out.box
          have hsel := hheap.out.sel
          have hii : 2 * (k : Int) + 1 < (l1.length : Int) := by omega
          have hiu : (bb : Int) < (l1.length : Int) := by omega
          have TF : Hid (∀ t, below ((i1, i2), i3) ((u1, u2), u3) = t → below (nth l1 (2 * k + 1)) (nth l1 bb) = t) := by rw [hxi, hxu]; exact fun _ h => h
          clear hat hl1 hxi hxu
          by_cases t : below ((i1, i2), i3) ((u1, u2), u3) = true
          · have T := hid (TF.out _ t)
            go_wp2_with fail
            go_region_held3 (fun w' => w'.cell? ⟨h, 0, none⟩ = some (.func (.func 137) #[] #[.pointer (some ⟨b, 0, none⟩)]) ∧ w'.cell? ⟨h, 1, none⟩ = some (.slice (some ⟨b', 0, none⟩) l1.length cp) ∧
                  w'.cell? ⟨b', (2 * k + 1) * 3, none⟩ = some (.int .i64 i1) ∧ w'.cell? ⟨b', (2 * k + 1) * 3 + 1, none⟩ = some (.int .i64 i2) ∧ w'.cell? ⟨b', (2 * k + 1) * 3 + 2, none⟩ = some (.int .i64 i3) ∧
                  w'.cell? ⟨b', bb * 3, none⟩ = some (.int .i64 u1) ∧ w'.cell? ⟨b', bb * 3 + 1, none⟩ = some (.int .i64 u2) ∧ w'.cell? ⟨b', bb * 3 + 2, none⟩ = some (.int .i64 u3) ∧
                  w'.cell? ⟨b, 0, none⟩ = some (.pointer (some ⟨s, 0, none⟩)) ∧ w'.cell? ⟨s, 0, none⟩ = some (.func (.func 60) #[] #[]))
                (first | go_keep | (go_split_ands; refine ⟨?_, ?_, ?_, ?_, ?_, ?_, ?_, ?_, ?_, ?_⟩ <;> (refine keep_cell (by assumption) ?_; assumption)))
                (first | (go_at_call 137; refine (below_any b s i1 i2 i3 u1 u2 u3 _ (by assumption) (by assumption)).mono ?_; rintro e w3 ⟨rfl, hk⟩))
            have K3 := hid (keep_trans (keep_drew (Below.refl _ wr)) hk)
            clear hk
            go_wp2
            go_roundw
            case rel => exact ⟨1, 2 * k + 1, by go_num, by go_num, by omega, hbest.out.take below_swo (by omega) hl T.out, keep_trans hkp.out K3.out⟩
            case measure => simp [intOf]
          · have t : below ((i1, i2), i3) ((u1, u2), u3) = false := by simpa using t
            have T := hid (TF.out _ t)
            go_wp2_with fail
            go_region_held3 (fun w' => w'.cell? ⟨h, 0, none⟩ = some (.func (.func 137) #[] #[.pointer (some ⟨b, 0, none⟩)]) ∧ w'.cell? ⟨h, 1, none⟩ = some (.slice (some ⟨b', 0, none⟩) l1.length cp) ∧
                  w'.cell? ⟨b', (2 * k + 1) * 3, none⟩ = some (.int .i64 i1) ∧ w'.cell? ⟨b', (2 * k + 1) * 3 + 1, none⟩ = some (.int .i64 i2) ∧ w'.cell? ⟨b', (2 * k + 1) * 3 + 2, none⟩ = some (.int .i64 i3) ∧
                  w'.cell? ⟨b', bb * 3, none⟩ = some (.int .i64 u1) ∧ w'.cell? ⟨b', bb * 3 + 1, none⟩ = some (.int .i64 u2) ∧ w'.cell? ⟨b', bb * 3 + 2, none⟩ = some (.int .i64 u3) ∧
                  w'.cell? ⟨b, 0, none⟩ = some (.pointer (some ⟨s, 0, none⟩)) ∧ w'.cell? ⟨s, 0, none⟩ = some (.func (.func 60) #[] #[]))
                (first | go_keep | (go_split_ands; refine ⟨?_, ?_, ?_, ?_, ?_, ?_, ?_, ?_, ?_, ?_⟩ <;> (refine keep_cell (by assumption) ?_; assumption)))
                (first | (go_at_call 137; refine (below_any b s i1 i2 i3 u1 u2 u3 _ (by assumption) (by assumption)).mono ?_; rintro e w3 ⟨rfl, hk⟩))
            have K3 := hid (keep_trans (keep_drew (Below.refl _ wr)) hk)
            clear hk
            go_wp2
            go_roundw
            case rel => exact ⟨1, bb, rfl, by go_num, by omega, hbest.out.leave (by omega) (fun _ => T.out), keep_trans hkp.out K3.out⟩
            case measure => simp [intOf]
        · have hlD : decide (2 * (k : Int) + 1 < (l1.length : Int)) = false := by simp; omega
          have HL := hid hl
          clear hl
          go_wp2_with fail
          go_quiet (fail)
          go_wp2
          go_roundw
          case rel => exact ⟨1, bb, rfl, by go_num, by omega, hbest.out.leave (by omega) (fun h => absurd h HL.out), keep_trans hkp.out (keep_dr (Below.refl _ _) _)⟩
          case measure => simp [intOf]
      · have hkI : (0 : Int) ≤ 2 * (k : Int) + 2 := by omega
        have hkN : (2 * (k : Int) + 2).toNat = 2 * k + 2 := by omega
        by_cases hl : 2 * k + 2 < l1.length
        · obtain ⟨b', o', cp', e, _, _, hb', hat⟩ := ents_open hl1 (by omega)
          injection e with e1 e2 e3
          subst e1 e3
          obtain ⟨rfl, n1, n2, n3, n4, hfr, hrow⟩ := hheap.out.row cc1
          have HFR := hid hfr
          clear hfr hrow
          obtain ⟨p0, p1, p2⟩ := hat (2 * k + 2) hl
          have hbl : bb < l1.length := by rcases hbest.out.len with e | e <;> omega
          obtain ⟨q0, q1, q2⟩ := hat bb hbl
          rw [Nat.zero_add] at p0 p1 p2 q0 q1 q2
          obtain ⟨⟨⟨i1, i2⟩, i3⟩, hxi⟩ : ∃ x, nth l1 (2 * k + 2) = x := ⟨_, rfl⟩
          obtain ⟨⟨⟨u1, u2⟩, u3⟩, hxu⟩ : ∃ x, nth l1 bb = x := ⟨_, rfl⟩
          rw [hxi] at p0 p1 p2
          rw [hxu] at q0 q1 q2
          have hbox := hheap.out.box
          have hsel := hheap.out.sel
          have hii : 2 * (k : Int) + 2 < (l1.length : Int) := by omega
          have hiu : (bb : Int) < (l1.length : Int) := by omega
          have TF : Hid (∀ t, below ((i1, i2), i3) ((u1, u2), u3) = t → below (nth l1 (2 * k + 2)) (nth l1 bb) = t) := by rw [hxi, hxu]; exact fun _ h => h
          clear hat hl1 hxi hxu
          by_cases t : below ((i1, i2), i3) ((u1, u2), u3) = true
          · have T := hid (TF.out _ t)
            go_wp2_with fail
            go_region_held3 (fun w' => w'.cell? ⟨h, 0, none⟩ = some (.func (.func 137) #[] #[.pointer (some ⟨b, 0, none⟩)]) ∧ w'.cell? ⟨h, 1, none⟩ = some (.slice (some ⟨b', 0, none⟩) l1.length cp) ∧
                  w'.cell? ⟨b', (2 * k + 2) * 3, none⟩ = some (.int .i64 i1) ∧ w'.cell? ⟨b', (2 * k + 2) * 3 + 1, none⟩ = some (.int .i64 i2) ∧ w'.cell? ⟨b', (2 * k + 2) * 3 + 2, none⟩ = some (.int .i64 i3) ∧
                  w'.cell? ⟨b', bb * 3, none⟩ = some (.int .i64 u1) ∧ w'.cell? ⟨b', bb * 3 + 1, none⟩ = some (.int .i64 u2) ∧ w'.cell? ⟨b', bb * 3 + 2, none⟩ = some (.int .i64 u3) ∧
                  w'.cell? ⟨b, 0, none⟩ = some (.pointer (some ⟨s, 0, none⟩)) ∧ w'.cell? ⟨s, 0, none⟩ = some (.func (.func 60) #[] #[]))
                (first | go_keep | (go_split_ands; refine ⟨?_, ?_, ?_, ?_, ?_, ?_, ?_, ?_, ?_, ?_⟩ <;> (refine keep_cell (by assumption) ?_; assumption)))
                (first | (go_at_call 137; refine (below_any b s i1 i2 i3 u1 u2 u3 _ (by assumption) (by assumption)).mono ?_; rintro e w3 ⟨rfl, hk⟩))
            have K3 := hid (keep_trans (keep_drew (Below.refl _ wr)) hk)
            clear hk
            go_wp2
            go_roundw
            case rel => exact ⟨2, 2 * k + 2, by go_num, by go_num, by omega, hbest.out.take below_swo (by omega) hl T.out, keep_trans hkp.out K3.out⟩
            case measure => simp [intOf]
          · have t : below ((i1, i2), i3) ((u1, u2), u3) = false := by simpa using t
            have T := hid (TF.out _ t)
            go_wp2_with fail
            go_region_held3 (fun w' => w'.cell? ⟨h, 0, none⟩ = some (.func (.func 137) #[] #[.pointer (some ⟨b, 0, none⟩)]) ∧ w'.cell? ⟨h, 1, none⟩ = some (.slice (some ⟨b', 0, none⟩) l1.length cp) ∧
                  w'.cell? ⟨b', (2 * k + 2) * 3, none⟩ = some (.int .i64 i1) ∧ w'.cell? ⟨b', (2 * k + 2) * 3 + 1, none⟩ = some (.int .i64 i2) ∧ w'.cell? ⟨b', (2 * k + 2) * 3 + 2, none⟩ = some (.int .i64 i3) ∧
                  w'.cell? ⟨b', bb * 3, none⟩ = some (.int .i64 u1) ∧ w'.cell? ⟨b', bb * 3 + 1, none⟩ = some (.int .i64 u2) ∧ w'.cell? ⟨b', bb * 3 + 2, none⟩ = some (.int .i64 u3) ∧
                  w'.cell? ⟨b, 0, none⟩ = some (.pointer (some ⟨s, 0, none⟩)) ∧ w'.cell? ⟨s, 0, none⟩ = some (.func (.func 60) #[] #[]))
                (first | go_keep | (go_split_ands; refine ⟨?_, ?_, ?_, ?_, ?_, ?_, ?_, ?_, ?_, ?_⟩ <;> (refine keep_cell (by assumption) ?_; assumption)))
                (first | (go_at_call 137; refine (below_any b s i1 i2 i3 u1 u2 u3 _ (by assumption) (by assumption)).mono ?_; rintro e w3 ⟨rfl, hk⟩))
            have K3 := hid (keep_trans (keep_drew (Below.refl _ wr)) hk)
            clear hk
            go_wp2
            go_roundw
            case rel => exact ⟨2, bb, rfl, by go_num, by omega, hbest.out.leave (by omega) (fun _ => T.out), keep_trans hkp.out K3.out⟩
            case measure => simp [intOf]
        · have hlD : decide (2 * (k : Int) + 2 < (l1.length : Int)) = false := by simp; omega
          have HL := hid hl
          clear hl
          go_wp2_with fail
          go_quiet (fail)
          go_wp2
          go_roundw
          case rel => exact ⟨2, bb, rfl, by go_num, by omega, hbest.out.leave (by omega) (fun h => absurd h HL.out), keep_trans hkp.out (keep_dr (Below.refl _ _) _)⟩
          case measure => simp [intOf]
      · by_cases hbk : bb = k
        · subst hbk
          have hb : ((bb : Int) == (bb : Int)) = true := by simp
          go_wp2
          refine bodyPost_ret (results_none rfl _ _ _) rfl ?_
          refine ⟨⟨_, rfl⟩, l1, hperm.out, ?_, hheap.out, hmod.out.keep_trans hkp.out⟩
          by_cases hb2 : bb < l1.length
          · exact down_stop hdown.out (hbest.out.best hb2)
          · intro i h0 hi
            have := hlen.out
            omega
        · have hb : ((bb : Int) == (k : Int)) = false := beq_eq_false_iff_ne.2 (by omega)
          have hbl : bb < l1.length := by rcases hbest.out.len with e | e <;> omega
          have hkl : k < l1.length := by have := hlen.out; omega
          obtain ⟨b', o', cp', e, _, _, hb', hat⟩ := ents_open hl1 (by omega)
          injection e with e1 e2 e3
          subst e1 e3
          obtain ⟨rfl, n1, n2, n3, n4, hfr, hrow⟩ := hheap.out.row cc1
          have HFR := hid hfr
          clear hfr hrow
          obtain ⟨p0, p1, p2⟩ := hat k hkl
          obtain ⟨q0, q1, q2⟩ := hat bb hbl
          rw [Nat.zero_add] at p0 p1 p2 q0 q1 q2
          obtain ⟨⟨⟨i1, i2⟩, i3⟩, hxi⟩ : ∃ x, nth l1 k = x := ⟨_, rfl⟩
          obtain ⟨⟨⟨u1, u2⟩, u3⟩, hxu⟩ : ∃ x, nth l1 bb = x := ⟨_, rfl⟩
          rw [hxi] at p0 p1 p2
          rw [hxu] at q0 q1 q2
          have hii : (k : Int) < (l1.length : Int) := by omega
          have hiu : (bb : Int) < (l1.length : Int) := by omega
          have hne : bb ≠ k := hbk
          have HXI := hid hxi
          have HXU := hid hxu
          have g0 := HFR.out (k * 3)
          have g1 := HFR.out (k * 3 + 1)
          have g2 := HFR.out (k * 3 + 2)
          have g3 := HFR.out (bb * 3)
          have g4 := HFR.out (bb * 3 + 1)
          have g5 := HFR.out (bb * 3 + 2)
          clear hat hl1 hxi hxu cc0 ix0 ix1
          go_wp2
          go_region
          have hw := hheap.out.swapped cc1 hkl hbl HXI.out HXU.out
          have HT : Hid (below (nth l1 bb) (nth l1 k) = true) := hbest.out.gt.resolve_left hne
          go_wp2
          go_roundw
          case rel =>
            refine ⟨bb, swap l1 k bb, rfl, .inl (by have := hlen.out; omega), (swap_length _ _ _).trans hlen.out, (swap_perm hkl hbl).trans hperm.out, down_step below_swo hdown.out hkl (hbest.out.best hbl) hne HT.out, hw.1, ?_⟩
            exact (hmod.out.keep_trans hkp.out).trans (hw.2.mono (fun k _ e => by rw [e]; exact .inl n4))
          case measure =>
            have := hlen.out
            have := hbest.out.here
            simp [intOf]; omega
end Go.Proofs.Ytoligbmcceindaa
