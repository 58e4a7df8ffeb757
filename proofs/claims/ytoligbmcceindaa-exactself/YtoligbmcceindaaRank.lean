/- Contracts: exact.Rank at ids that are in order, each once. -/
import Derived.Test.YtoligbmcceindaaSame4
import Derived.Test.YtoligbmcceindaaShelf
set_option linter.unusedVariables false
set_option linter.unusedSimpArgs false
namespace Go.Proofs.Ytoligbmcceindaa
open Go.RowKit Go.Sb

theorem item_small' {ys : List Int} {dim : Int} (h : vcheck ys dim = 0) : Small ys := small_of_all (vcheck_ok h).2.2.2
theorem mod_grow (w : World) (os : Array Obj) : Keep w (Go.Sort.grow w os) := ⟨rfl, rfl, rfl, by simp, fun k hk => Go.Sort.heap_grow_old w os hk⟩
theorem mod_ahead (w : World) (n : Nat) : Keep w (Go.Sort.ahead w n) := ⟨rfl, rfl, rfl, Nat.le_refl _, fun k hk => rfl⟩
theorem mod_putRow (enc : Int → Value) (w : World) (g off : Nat) (d : Array Int) : Sb.Mod (fun k => k = g) w (Go.Sort.putRow enc w g off d) := by
  refine ⟨rfl, rfl, rfl, by simp, fun k hk hn => ?_⟩
  simp only [Go.Sort.putRow, Go.Sort.mapBlock, Array.getElem?_modify]
  rw [if_neg (fun e => hn e.symm)]

theorem holds_lies {w : World} {g n c : Nat} {xs : List Int} (h : Go.Sort.Holds (Value.int .i64) w g 0 xs.toArray) (hn : n = xs.length) (hc : n ≤ c) (hc2 : c ≤ 9223372036854775807) (hl : xs.length ≤ 281474976710656) (hwf : ∀ x ∈ xs, (Lit.int .i64 x).wf = true) :
    i64s w (.slice (some ⟨g, 0, none⟩) n c) xs := by
  subst hn
  refine ⟨_, c, xs.map (Value.int .i64), rfl, hc, ⟨by simp [maxLen]; omega, hl⟩, ?_, ?_⟩
  · clear h hc hl
    induction xs with
    | nil => rfl
    | cons x xs ih => exact ⟨[.int .i64 x], xs.map (Value.int .i64), rfl, ⟨rfl, hwf x (List.mem_cons_self ..)⟩, ih (fun y hy => hwf y (List.mem_cons_of_mem _ hy))⟩
  · intro j u hu
    rw [List.getElem?_map] at hu
    obtain ⟨x, hx, rfl⟩ := Option.map_eq_some_iff.1 hu
    have hj : j < xs.length := (List.getElem?_eq_some_iff.1 hx).1
    refine ⟨g, 0, rfl, ?_⟩
    have := (h j (by simpa using hj)).1
    rw [this]
    have e : xs.toArray[j]! = x := by
      have := (List.getElem?_eq_some_iff.1 hx).2
      rw [getElem!_pos _ j (by simpa using hj)]
      simpa using this
    rw [e]

theorem increasing_sort {xs : List Int} (h : xs.Pairwise (· < ·)) : xs.mergeSort (fun x y => decide (x ≤ y)) = xs :=
  List.mergeSort_of_pairwise (h.imp (fun {a b} h => by simp; omega))
theorem increasing_compact {xs : List Int} (h : xs.Pairwise (· < ·)) : Go.Lib.compact xs = xs := by
  refine Go.Lib.compact_all xs (fun j hj => ?_)
  by_cases h0 : j = 0
  · subst h0; simp [Go.Lib.keeps]
  · refine Go.Lib.keeps_pos ?_
    have h1 := List.pairwise_iff_getElem.1 h (j - 1) j (by omega) hj (by omega)
    rw [getElem!_pos _ j (by simpa using hj), getElem!_pos _ (j - 1) (by simp; omega)]
    simp
    omega

set_option maxRecDepth 100000 in
set_option maxHeartbeats 2000000 in
theorem rank_any (S : Nat → Prop) (g : Nat) (dim : Int) (l : List (List Int)) (va vi : Value) (ys ids : List Int) (k : Int) (w : World) (h : IsItems S g dim l w) (hS : ∀ k, S k → k < w.heap.size) (hv : i32s w va ys) (hva : ∀ k, va.ownBlock = some k → k < w.heap.size)
    (h0 : 0 < l.length) (hc : vcheck ys dim = 0) (hk0 : 1 ≤ k) (hk1 : k ≤ 1048576) (hi : i64s w vi ids) (hi0 : 0 < ids.length) (hinc : ids.Pairwise (· < ·)) (hfew : ids.length ≤ 1048576) :
    Calls Try.prog 29 #[.pointer (some ⟨g, 0, none⟩), va, .int .i64 k, vi] w fun e w' => ∃ v, e = .returned (.tuple #[v, .int .i64 0]) ∧ ∃ out, Sb.Own tRes 33 w' v (out.map (·.1)) ∧ Kept nearer k.toNat (stamped (told l ys ids)) out ∧
      out.Pairwise (fun x y => Sb.ahead nearer y x = false) ∧ (∀ k, v.ownBlock = some k → w.heap.size ≤ k) ∧ Keep w w' := by
  obtain ⟨bi, oi, ci, e, hci, hci2, _, hat⟩ := ints_open hi hi0
  subst e
  obtain ⟨Av, cv, rfl, _, _⟩ := hv.form
  have HI := hid h
  have HV := hid hv
  have HII := hid hi
  have HAT := hid hat
  have HINC := hid hinc
  have HFW := hid hfew
  have HI0 := hid hi0
  have HSS := hid hS
  have HVA := hid hva
  have HC := hid hc
  have HL0 := hid h0
  have HK := hid (And.intro hk0 hk1)
  clear h hv hi hat hinc hfew hi0 hS hva hc h0 hk0 hk1 hci hci2
  go_enter Try.func29, Try.ntmps29
  go_wp2_with fail
  refine (xcheck_ok S g dim l _ ys k w HI.out HV.out HL0.out HC.out (by have := HK.out.1; omega) HK.out.2).mono ?_
  rintro e w1 ⟨rfl, hd⟩
  have K1 := hid hd.keep
  clear hd
  go_wp2_with fail
  refine (Try.slices_Clone_int bi oi ids.length ci ids w1 (Nat.le_refl _) (by have := HFW.out; omega) (fun j hj => by
    have := keep_cell K1.out (HAT.out j hj)
    rw [this, nth_int, List.getD_eq_getElem?_getD])).mono ?_
  rintro e w2 ⟨v2, rfl, hrow, hne, hb2⟩
  rcases hrow.2 with ⟨rfl, hn0⟩ | ⟨g2, cap, cur, rfl, hbase, hg2, hnc, hmax, hsz, htk⟩
  · exact absurd rfl hne
  rw [List.take_length] at htk hrow
  have hho : Go.Sort.Holds (Value.int .i64) w2 g2 0 ids.toArray := by
    intro j hj
    have hj' : j < ids.length := by simpa using hj
    rw [Nat.zero_add]
    refine ⟨?_, blk_free hg2 j⟩
    rw [blk_cell hg2]
    have h1 : (cur.toList.take (ids.length * 1))[j]? = some (Value.int .i64 ids[j]) := by rw [htk]; simp [hj']
    rw [List.getElem?_take, if_pos (by omega), Array.getElem?_toList] at h1
    rw [h1, getElem!_pos _ j hj]
    simp
  have K2 := hid (keep_trans K1.out hb2)
  have HHO := hid hho
  have hz1 := K1.out.size
  have HG2 : Hid (w.heap.size ≤ g2) := by show _ ≤ _; omega
  have HLT2 := hid (lt_of_some hg2)
  have hcap : Hid (cap ≤ 9223372036854775807) := hid (by simpa [maxLen] using hmax)
  have HNC := hid hnc
  clear hrow hne hb2 hg2 hsz htk hho hbase hmax hnc hz1
  go_wp2_with fail
  refine (Try.slices_Sort_int g2 0 cap ids w2 HHO.out HLT2.out (by have := HFW.out; omega)).mono ?_
  rintro e w3 ⟨rfl, nq, os, hw3⟩
  rw [increasing_sort HINC.out] at hw3
  have hho3 : Go.Sort.Holds (Value.int .i64) w3 g2 0 ids.toArray := by
    rw [hw3]
    refine Go.Sort.holds_grow _ _ _ _ _ _ (by rw [Go.Sort.size_putRow]; exact HLT2.out) ?_
    exact Go.Sort.holds_putRow _ _ _ _ ids.toArray _ (Go.Sort.holds_ahead _ _ _ _ _ _ HHO.out) rfl
  have hm3 : Sb.Mod (fun k => k = g2) w2 w3 := by
    rw [hw3]
    exact ((Mod.of_keep (mod_ahead w2 nq)).trans ((mod_putRow _ _ _ _ _).mono (fun k _ h => .inl h))).keep_trans (mod_grow _ _)
  have HHO3 := hid hho3
  have HM3 := hid hm3
  clear hho3 hm3 hw3
  go_wp2_with fail
  refine (Try.slices_Compact_int g2 0 cap ids w3 HHO3.out (by have := HFW.out; omega) HNC.out).mono ?_
  rintro e w4 ⟨rfl, q4, hw4⟩
  rw [increasing_compact HINC.out] at hw4 ⊢
  rw [Nat.sub_self, List.replicate_zero, List.append_nil] at hw4
  have hho4 : Go.Sort.Holds (Value.int .i64) w4 g2 0 ids.toArray := by
    rw [hw4]
    exact Go.Sort.holds_putRow _ _ _ _ ids.toArray _ (Go.Sort.holds_ahead _ _ _ _ _ _ HHO3.out) rfl
  have hm4 : Sb.Mod (fun k => k = g2) w3 w4 := by
    rw [hw4]
    exact (Mod.of_keep (mod_ahead w3 q4)).trans ((mod_putRow _ _ _ _ _).mono (fun k _ h => .inl h))
  have hwf : ∀ x ∈ ids, (Lit.int .i64 x).wf = true := fun x hx => ints_wf HII.out hx
  have hl4 : i64s w4 (.slice (some ⟨g2, 0, none⟩) ids.length cap) ids := holds_lies hho4 rfl HNC.out hcap.out (by have := HFW.out; omega) hwf
  have hm24 := HM3.out.trans (hm4.mono (fun k _ h => .inl h))
  have K4 : Keep w w4 := by
    refine ⟨hm24.os.trans K2.out.os, hm24.tape.trans K2.out.tape, hm24.output.trans K2.out.output, Nat.le_trans K2.out.size hm24.size, fun k hk => ?_⟩
    have h1 := HG2.out
    exact (hm24.block k (Nat.lt_of_lt_of_le hk K2.out.size) (by omega)).trans (K2.out.block k hk)
  have HL4 := hid hl4
  have HK4 := hid K4
  have hlt4 : g2 < w4.heap.size := Nat.lt_of_lt_of_le HLT2.out hm24.size
  have HLT4 := hid hlt4
  clear hho4 hm4 hw4 hwf hl4 hm24 K4 hlt4
  go_wp2_with fail
  refine (values_any _ _ _ w4).mono ?_
  rintro e w5 ⟨rfl, hbx, hk5⟩
  have HBX := hid hbx
  have HK5 := hid hk5
  clear hbx hk5
  go_wp2_with fail
  refine (each_any g Av ys.length cv _ _ _ w5).mono ?_
  rintro e w6 ⟨rfl, hx1, hx2, hx3, hk6⟩
  have HX1 := hid hx1
  have HX2 := hid hx2
  have HX3 := hid hx3
  have HK6 := hid hk6
  clear hx1 hx2 hx3 hk6
  have K46 : Hid (Keep w4 w6) := keep_trans HK5.out HK6.out
  have K06 : Hid (Keep w w6) := keep_trans HK4.out K46.out
  have hzA := HK4.out.size
  have hzB : w4.heap.size < w5.heap.size := lt_of_some HBX.out
  have hzC : w5.heap.size + 2 < w6.heap.size := lt_of_some HX3.out
  have hG2 := HG2.out
  have hL4 := HLT4.out
  have hsmall : Small ys := item_small' HC.out
  have hit : ∀ w', Keep w6 w' → Iter Try.prog 105 #[.pointer (some ⟨w5.heap.size + 2, 0, none⟩), .pointer (some ⟨w5.heap.size, 0, none⟩), .pointer (some ⟨w5.heap.size + 1, 0, none⟩)] resArg (fun pre => pre <+: told l ys ids) (fun rs => rs = told l ys ids)
      (fun q => ((q = w4.heap.size ∨ (Value.slice (some ⟨g2, 0, none⟩) ids.length cap).ownBlock = some q) ∨ S q) ∨ (q = w5.heap.size + 2 ∨ q = w5.heap.size ∨ q = w5.heap.size + 1) ∨ (Value.slice Av ys.length cv).ownBlock = some q) (fun _ => False) w' (fun _ _ => True) := by
    intro w' hk
    have hz' := hk.size
    have hbx' : w'.cell? ⟨w4.heap.size, 0, none⟩ = some (.slice (some ⟨g2, 0, none⟩) ids.length cap) := blk_cell (blk_keep (blk_keep HBX.out HK6.out) hk) 0
    refine each_iter _ _ _ 107 #[.pointer (some ⟨w4.heap.size, 0, none⟩)] (enters_of Try.func107 (by kernel_rfl) rfl) ids _ S g dim l _ ys w' (values_iter _ _ ids w' hbx' (HL4.out.keep (keep_trans K46.out hk)))
      (blk_cell (blk_keep HX3.out hk) 0) (blk_cell (blk_keep HX1.out hk) 0) (blk_cell (blk_keep HX2.out hk) 0) (HI.out.keep (keep_trans K06.out hk)) ?_ ?_ (HV.out.keep (keep_trans K06.out hk)) hsmall ?_ ?_
    · exact fun q hq => by have := HSS.out q hq; have := (keep_trans K06.out hk).size; omega
    · rintro q (rfl | hq)
      · omega
      · have : g2 = q := by simpa [Value.ownBlock] using hq
        omega
    · rintro q hq (h | h | h | h)
      · rcases hq with rfl | hq
        · omega
        · have : g2 = q := by simpa [Value.ownBlock] using hq
          omega
      · rcases hq with rfl | hq
        · omega
        · have : g2 = q := by simpa [Value.ownBlock] using hq
          omega
      · have := HSS.out q h
        rcases hq with rfl | hq
        · omega
        · have : g2 = q := by simpa [Value.ownBlock] using hq
          omega
      · have := HVA.out q h
        rcases hq with rfl | hq
        · omega
        · have : g2 = q := by simpa [Value.ownBlock] using hq
          omega
    · exact fun q hq => by have := HVA.out q hq; have := (keep_trans K06.out hk).size; omega
  have htl : (told l ys ids).length ≤ ids.length := by
    simp only [told, List.length_map]
    exact List.length_filter_le _ _
  have hTw : ∀ q, (((q = w4.heap.size ∨ (Value.slice (some ⟨g2, 0, none⟩) ids.length cap).ownBlock = some q) ∨ S q) ∨ (q = w5.heap.size + 2 ∨ q = w5.heap.size ∨ q = w5.heap.size + 1) ∨ (Value.slice Av ys.length cv).ownBlock = some q) → q < w6.heap.size := by
    rintro q (((rfl | hq) | hq) | (rfl | rfl | rfl) | hq)
    · omega
    · have : g2 = q := by simpa [Value.ownBlock] using hq
      omega
    · have := HSS.out q hq; omega
    · omega
    · omega
    · omega
    · have := HVA.out q hq; omega
  have HIT := hid hit
  have HTW := hid hTw
  have HTL := hid htl
  have HZ := hid hzA
  have HW6 : Hid (w.heap.size ≤ w6.heap.size) := K06.out.size
  clear hit hTw htl hzA hzB hzC hG2 hL4 hsmall
  go_wp2_with fail
  refine (of_any 105 _ (enters_of Try.func105 (by kernel_rfl) rfl) _ _ _ _ _ k w6 HIT.out HTW.out (fun pre hp => by
    have := List.IsPrefix.length_le hp; have := HTL.out; have := HFW.out; omega) (fun xs hx => by
    subst hx; have := HTL.out; have := HFW.out; omega) (fun _ _ _ _ _ _ => trivial) HK.out.1).mono ?_
  rintro e w7 ⟨v, rfl, xs, out, rfl, r1, r2, r3, r4, r5⟩
  have R1 := hid r1
  have R2 := hid r2
  have R3 := hid r3
  have R4 := hid r4
  have R5 := hid r5
  clear r1 r2 r3 r4 r5
  go_wp2
  go_ret2
  exact ⟨v, rfl, out, R1.out, R2.out, R3.out, fun q hq => Nat.le_trans HW6.out (R4.out q hq), keep_trans K06.out (R5.out.keep (fun _ _ h => h))⟩
end Go.Proofs.Ytoligbmcceindaa
