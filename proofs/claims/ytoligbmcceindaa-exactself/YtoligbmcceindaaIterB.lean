/- Contracts: exact.Each as an iterator. -/
import Derived.Test.YtoligbmcceindaaIterA
import Derived.Test.YtoligbmcceindaaRound
import Derived.Shelf.RegionOpen
set_option linter.unusedVariables false
set_option linter.unusedSimpArgs false
namespace Go.Proofs.Ytoligbmcceindaa
open Go.RowKit Go.Sb
attribute [local go_sem] Oper.semAt_some

/-- Of each id its result. -/
def told (l : List (List Int)) (ys : List Int) (ids : List Int) : List Res :=
  (ids.filter (fun i => decide (0 ≤ i ∧ i < (l.length : Int)))).map (fun i => (i, far (nth l i.toNat) ys))
theorem told_in {l : List (List Int)} {ys : List Int} {pre : List Int} {i : Int} (h : 0 ≤ i ∧ i < (l.length : Int)) : told l ys (pre ++ [i]) = told l ys pre ++ [(i, far (nth l i.toNat) ys)] := by
  simp [told, List.filter_append, h]
theorem told_out {l : List (List Int)} {ys : List Int} {pre : List Int} {i : Int} (h : ¬ (0 ≤ i ∧ i < (l.length : Int))) : told l ys (pre ++ [i]) = told l ys pre := by
  simp [told, List.filter_append, List.filter_cons, h]
theorem told_prefix {l : List (List Int)} {ys : List Int} {a b : List Int} (h : a <+: b) : told l ys a <+: told l ys b := by
  obtain ⟨t, rfl⟩ := h
  exact ⟨told l ys t, by simp [told, List.filter_append]⟩

set_option maxHeartbeats 400000 in
theorem each_any (g : Nat) (A : Option Addr) (n c : Nat) (f : Fn) (x1 x2 : Array Value) (w : World) :
    Calls Try.prog 61 #[.pointer (some ⟨g, 0, none⟩), .slice A n c, .func f x1 x2] w fun e w' =>
      e = .returned (.func (.func 105) #[] #[.pointer (some ⟨w.heap.size + 2, 0, none⟩), .pointer (some ⟨w.heap.size, 0, none⟩), .pointer (some ⟨w.heap.size + 1, 0, none⟩)]) ∧
      w'.heap[w.heap.size]? = some (.cells #[.pointer (some ⟨g, 0, none⟩)] 24 (0, 0)) ∧ w'.heap[w.heap.size + 1]? = some (.cells #[.slice A n c] 31 (0, 0)) ∧ w'.heap[w.heap.size + 2]? = some (.cells #[.func f x1 x2] 131 (0, 0)) ∧ Keep w w' := by
  go_enter Try.func61, Try.ntmps61
  go_wp2
  go_ret
  refine ⟨rfl, ?_, ?_, ?_, keep_alloc (keep_alloc (keep_alloc (Below.refl _ w) _) _) _⟩
  · exact blk_alloc (blk_alloc (blk_new w _) _) _
  · have := blk_new (w.alloc (.cells #[.pointer (some ⟨g, 0, none⟩)] 24)) (.cells #[.slice A n c] 31)
    rw [World.size_alloc] at this
    exact blk_alloc this _
  · have := blk_new ((w.alloc (.cells #[.pointer (some ⟨g, 0, none⟩)] 24)).alloc (.cells #[.slice A n c] 31)) (.cells #[.func f x1 x2] 131)
    rw [World.size_alloc, World.size_alloc] at this
    exact this

set_option maxRecDepth 100000 in
set_option maxHeartbeats 4000000 in
theorem each_iter (b1 b2 b3 gi : Nat) (lbi : Array Value) (egi : Enters Try.prog gi) (ids : List Int) (Ti : Nat → Prop) (SI : Nat → Prop) (g : Nat) (dim : Int) (l : List (List Int)) (va : Value) (ys : List Int) (W0 : World)
    (hit : Iter Try.prog gi lbi intArg (fun pre => pre <+: ids) (fun zs => zs = ids) Ti (fun _ => False) W0 (fun _ _ => True))
    (h1 : W0.cell? ⟨b1, 0, none⟩ = some (.func (.func gi) #[] lbi)) (h2 : W0.cell? ⟨b2, 0, none⟩ = some (.pointer (some ⟨g, 0, none⟩))) (h3 : W0.cell? ⟨b3, 0, none⟩ = some va)
    (hI : IsItems SI g dim l W0) (hSI : ∀ k, SI k → k < W0.heap.size) (hTi : ∀ k, Ti k → k < W0.heap.size) (hv : i32s W0 va ys) (hsm : Small ys)
    (hTd : ∀ k, Ti k → ¬ (k = b2 ∨ k = b3 ∨ SI k ∨ va.ownBlock = some k)) (hva : ∀ k, va.ownBlock = some k → k < W0.heap.size) :
    Iter Try.prog 105 #[.pointer (some ⟨b1, 0, none⟩), .pointer (some ⟨b2, 0, none⟩), .pointer (some ⟨b3, 0, none⟩)] resArg (fun pre => pre <+: told l ys ids) (fun rs => rs = told l ys ids)
      (fun k => (Ti k ∨ SI k) ∨ (k = b1 ∨ k = b2 ∨ k = b3) ∨ va.ownBlock = some k) (fun _ => False) W0 (fun _ _ => True) := by
  intro lp Rd Rs S w htk hag hsz hdis hSb hRd hos n
  obtain ⟨Av, cv, rfl, hc1, hc2⟩ := hv.form
  have k1 : w.cell? ⟨b1, 0, none⟩ = some (.func (.func gi) #[] lbi) := hag.cell h1 (.inr (.inl (.inl rfl)))
  have k2 : w.cell? ⟨b2, 0, none⟩ = some (.pointer (some ⟨g, 0, none⟩)) := hag.cell h2 (.inr (.inl (.inr (.inl rfl))))
  have k3 : w.cell? ⟨b3, 0, none⟩ = some (.slice Av ys.length cv) := hag.cell h3 (.inr (.inl (.inr (.inr rfl))))
  have HI : Hid (IsItems SI g dim l w) := hI.move (fun k hk hlt => hag k (.inl (.inr hk)) hlt)
  have HV : Hid (i32s w (.slice Av ys.length cv) ys) := lies_move (tInt_flatly _) hv (fun k e hlt => hag k (.inr (.inr e)) hlt)
  have HIT := hit.move (W1 := w) (fun k hk hlt => hag k (.inl (.inl hk)) hlt) hsz hos
  -- none of what is read lies in what the taker owns
  have hT : Hid (∀ k, ((Ti k ∨ SI k) ∨ (k = b1 ∨ k = b2 ∨ k = b3) ∨ (Value.slice Av ys.length cv).ownBlock = some k) → k < w.heap.size ∧ ¬ S k) := by
    intro k hk
    have hlt : k < W0.heap.size := by
      rcases hk with (h | h) | (rfl | rfl | rfl) | h
      · exact hTi k h
      · exact hSI k h
      · exact World.block_lt_of_cell? _ _ h1
      · exact World.block_lt_of_cell? _ _ h2
      · exact World.block_lt_of_cell? _ _ h3
      · exact hva _ h
    exact ⟨by omega, hdis k hk hlt⟩
  obtain ⟨RO, hRO⟩ : ∃ RO : Nat → Prop, RO = fun k => k = b2 ∨ k = b3 ∨ SI k ∨ (Value.slice Av ys.length cv).ownBlock = some k := ⟨_, rfl⟩
  have hROT : Hid (∀ k, RO k → k < w.heap.size ∧ ¬ S k) := by
    intro k hk
    rw [hRO] at hk
    rcases hk with rfl | rfl | h | h
    · exact hT.out _ (.inr (.inl (.inr (.inl rfl))))
    · exact hT.out _ (.inr (.inl (.inr (.inr rfl))))
    · exact hT.out _ (.inl (.inr h))
    · exact hT.out _ (.inr (.inr h))
  have hTiR : Hid (∀ k, Ti k → ¬ RO k) := by rw [hRO]; exact hTd
  have HRO := hid hRO
  clear hTd hva hRO
  have HSB := hid hSb
  have HRD := hid hRd
  have hK0 := keep_alloc (Below.refl _ w) (.cells #[.func (.yield lp) #[] #[]] 175)
  have hk1 := keep_cell hK0 k1
  have HK0 := hid hK0
  refine callsIn_of_wp_marks Try.func105 rfl trivial ?_
  simp only [Try.ntmps105, List.size_toArray, List.length_cons, List.length_nil, Nat.reduceAdd, Nat.reduceSub, Array.replicate_succ, Array.replicate_zero, List.push_toArray, List.append_toArray, List.nil_append, List.cons_append]
  clear hit hI hSI hv hag hdis hSb hRd hK0 h1 h2 h3 k1 hc1
  gi_wp2_with fail
  refine range_law rfl egi (HIT.move (agree_keep HK0.out) HK0.out.size HK0.out.os) (fun _ => rfl) ?hT
    (fun pre S3 W => ∃ S1, Rd (told l ys pre) S1 W ∧ (∀ k, S1 k → S3 k ∧ k ≠ w.heap.size ∧ ¬ RO k) ∧ W.heap[w.heap.size]? = some (.cells #[.func (.yield lp) #[] #[]] 175 (0, 0)) ∧ S3 w.heap.size ∧ (∀ k, RO k → S3 k ∧ W.heap[k]? = w.heap[k]?))
    (fun c pre S3 W => c = .ret ∧ ∃ S1, Rs (told l ys pre) S1 W ∧ (∀ k, S1 k → S3 k ∧ ¬ RO k) ∧ told l ys pre ≠ [] ∧ (∀ k, RO k → S3 k ∧ W.heap[k]? = w.heap[k]?)) ?hI ?hIx
    (fun k => (S k ∨ k = w.heap.size) ∨ RO k) ?h0 ?hS0 ?hdis
    (fun x B a' W => a' = { tmps := #[.func (.yield lp) #[] #[], .pointer (some ⟨b1, 0, none⟩), .pointer (some ⟨b2, 0, none⟩), .pointer (some ⟨b3, 0, none⟩), .pointer (some ⟨w.heap.size, 0, none⟩), .int .i64 x, .func (.func gi) #[] lbi, .int .i64 x, undef, undef, undef, undef, undef, undef, undef, undef, undef, undef, undef, undef, undef, undef, undef, undef, undef], defers := [] })
    (fun x B a' W W' h _ _ => h) ?hassign ?hbody ?hdone (fun _ _ _ _ _ _ => trivial) ?hstop
  case hT => exact fun k hk => Nat.lt_of_lt_of_le (hT.out k (.inl (.inl hk))).1 HK0.out.size
  case hI =>
    rintro pre S3 W W' ⟨S1, q1, q2, q3, q4, q5⟩ ha hsz
    exact ⟨S1, htk.frame _ _ _ _ q1 (fun k hk hlt => ha k (q2 k hk).1 hlt) hsz, q2, ha.at q3 q4, q4, fun k hk => ⟨(q5 k hk).1, (ha k (q5 k hk).1 (by
      have h := (q5 k hk).2
      have hlt := (hROT.out k hk).1
      rw [Array.getElem?_eq_getElem hlt] at h
      exact lt_of_some h)).trans (q5 k hk).2⟩⟩
  case hIx =>
    rintro c pre S3 W W' ⟨rfl, S1, q1, q2, q3, q5⟩ ha hsz
    exact ⟨rfl, S1, htk.frameS _ _ _ _ q1 (fun k hk hlt => ha k (q2 k hk).1 hlt) hsz, q2, q3, fun k hk => ⟨(q5 k hk).1, (ha k (q5 k hk).1 (by
      have h := (q5 k hk).2
      have hlt := (hROT.out k hk).1
      rw [Array.getElem?_eq_getElem hlt] at h
      exact lt_of_some h)).trans (q5 k hk).2⟩⟩
  case h0 => exact ⟨S, by simpa [told] using htk.frame _ _ _ _ HRD.out (agree_keep HK0.out) HK0.out.size, fun k hk => ⟨.inl (.inl hk), Nat.ne_of_lt (HSB.out k hk), fun h => (hROT.out k h).2 hk⟩, blk_new w _, .inl (.inr rfl), fun k hk => ⟨.inr hk, HK0.out.block k (hROT.out k hk).1⟩⟩
  case hS0 =>
    rintro k ((h | rfl) | h)
    · have := HSB.out k h; simp; omega
    · simp
    · have := (hROT.out k h).1; simp; omega
  case hdis =>
    rintro k hk ((h | rfl) | h)
    · exact (hT.out k (.inl (.inl hk))).2 h
    · have := (hT.out _ (.inl (.inl hk))).1; omega
    · exact hTiR.out k hk h
  case hassign =>
    rintro lq x W m K hK
    simp only [intArg]
    gi_wp2
    exact hK _ _ (Below.refl _ _) rfl
  case hbody =>
    rintro lq pre x S3 W m B a' ⟨S1, q1, q2, q3, q4, q5⟩ rfl hWs hBs hS3 hok hlq hr hnl
    have hz : w.heap.size ≤ W.heap.size := by have := HK0.out.size; omega
    have hAg : Agree RO w W := fun k hk _ => (q5 k hk).2
    have e2 : W.cell? ⟨b2, 0, none⟩ = some (.pointer (some ⟨g, 0, none⟩)) := hAg.cell k2 (by rw [HRO.out]; exact .inl rfl)
    have e3 : W.cell? ⟨b3, 0, none⟩ = some (.slice Av ys.length cv) := hAg.cell k3 (by rw [HRO.out]; exact .inr (.inl rfl))
    have e4 : W.cell? ⟨w.heap.size, 0, none⟩ = some (.func (.yield lp) #[] #[]) := blk_cell q3 0
    have HI' := hid (HI.out.move (fun k hk hlt => hAg k (by rw [HRO.out]; exact .inr (.inr (.inl hk))) hlt))
    have HV' : Hid (i32s W (.slice Av ys.length cv) ys) := lies_move (tInt_flatly _) HV.out (fun k e hlt => hAg k (by rw [HRO.out]; exact .inr (.inr (.inr e))) hlt)
    have HQ1 := hid q1
    have HQ2 := hid q2
    have HQ3 := hid q3
    have HQ5 := hid q5
    clear q1 q2 q3 q5 hAg
    by_cases hx : 0 ≤ x ∧ x < (l.length : Int)
    · obtain ⟨i, rfl⟩ : ∃ i : Nat, x = i := ⟨x.toNat, by omega⟩
      have hx0' : decide ((i : Int) < 0) = false := by simp
      have hil : i < l.length := by omega
      have hile : (i : Int) < (l.length : Int) := hx.2
      obtain ⟨Ln, hLn⟩ : ∃ Ln : Int, (l.length : Int) = Ln := ⟨_, rfl⟩
      rw [hLn] at hile
      have HLn := hid hLn
      have HIL := hid hil
      have hmix := mixed_prog
      have htold : told l ys (pre ++ [(i : Int)]) = told l ys pre ++ [((i : Int), far (nth l i) ys)] := told_in hx
      have hok2 : told l ys pre ++ [((i : Int), far (nth l i) ys)] <+: told l ys ids := by rw [← htold]; exact told_prefix hok
      have HTD := hid htold
      have HOK2 := hid hok2
      clear hx hLn hil htold hok2 hok hr
      gi_wp2_with fail
      refine ⟨trivial, fun h => (by cases h), ?_⟩
      refine (CallsIn.inRound lq (callsIn_wide.2 (len_any _ _ _ _ _ HI'.out))).mono ?_
      rintro e w1 ⟨rfl, hd⟩
      rw [HLn.out]
      have K1 := hid hd.keep
      clear hd
      replace e2 := keep_cell K1.out e2
      replace e3 := keep_cell K1.out e3
      replace e4 := keep_cell K1.out e4
      gi_wp2_with fail
      have hfar : ∀ q, CallsIn Fence.wide (m - 1) Try.prog 106 #[.pointer (some ⟨g, 0, none⟩), .int .i64 i, .slice Av ys.length cv] (w1.drewN q) (fun e w' => e = .returned (.int .i64 (far (nth l i) ys)) ∧ ∃ r, w' = (w1.drewN q).drewN r) := fun q =>
        (callsIn_wide.2 (ifar_any SI g dim l i _ ys (w1.drewN q) (HI'.out.keep (keep_dr K1.out _)) HIL.out (HV'.out.keep (keep_dr K1.out _)) hsm)).mono (fun e w' h => ⟨h.1, h.2.elim (fun r hr => ⟨r, hr.symm⟩)⟩)
      refine region_round_at (F := Fence.wide) (A := { tmps := #[.func (.yield lp) #[] #[], .pointer (some ⟨b1, 0, none⟩), .pointer (some ⟨b2, 0, none⟩), .pointer (some ⟨b3, 0, none⟩), .pointer (some ⟨w.heap.size, 0, none⟩), .int .i64 i, .func (.func gi) #[] lbi, .int .i64 i, .int .i64 i, .bool false, .bool false, .int .i64 i, .pointer (some ⟨g, 0, none⟩), .int .i64 Ln, .bool (decide (Ln ≤ (i : Int))), .bool (decide (Ln ≤ (i : Int))), .func (.yield lp) #[] #[], .int .i64 i, .pointer (some ⟨g, 0, none⟩), .int .i64 i, .slice Av ys.length cv, .int .i64 (far (nth l i) ys), .agg #[.int .i64 i, .int .i64 (far (nth l i) ys)], undef, undef], defers := [] }) rfl 7 2 hmix rfl rfl (by kernel_rfl) (by kernel_rfl) (by kernel_rfl) ?hH ?hT
      case hH =>
        simp only [List.take_succ_cons, List.take_zero]
        repeat (gi_big_quiet_step (first | (gi_at_call 106; exact CallsIn.quiet_of (hfar _))))
        refine ⟨fun _ _ _ _ => trivial, ?_⟩
        rw [if_pos (by rfl)]
        refine ⟨.int .i64 (far (nth l i) ys), ?_, ?_⟩
        · rintro w' ⟨q, rfl⟩
          unfold Oper.quietAtIn
          go_simp
          exact ⟨fun h => (by cases h), CallsIn.quiet_of (hfar q)⟩
        · simp only [Act.put, List.setIfInBounds_toArray, List.set_cons_zero, List.set_cons_succ]
          repeat (gi_big_quiet_step (fail))
          exact wpQuietIn_nil rfl
      case hT =>
        intro f q
        have KQ : Keep W (w1.drewN q) := keep_dr K1.out q
        have HKQ := hid KQ
        obtain ⟨fn, tmps, assign, body, hy, hR⟩ := htk.round (told l ys pre) ((i : Int), far (nth l i) ys) S1 (w1.drewN q) (m - 1) (htk.frame _ _ _ _ HQ1.out (agree_keep KQ) KQ.size) HOK2.out
        have hy' : (Instr.yield lp #[.agg #[.int .i64 i, .int .i64 (far (nth l i) ys)]]).run Try.prog (w1.drewN q) = .ok (.round lp fn tmps assign body) (w1.drewN q) := hy
        have HR := hid hR
        clear hR hy KQ hfar
        refine wpAnyIn_ready (rs := [7]) (by kernel_rfl) (by simp) ?_
        refine AllReadyIn.cons rfl (fun K hK => ?_) AllReadyIn.nil
        rw [if_pos (by rfl)]
        unfold Oper.wpIn
        refine ⟨fun _ _ => trivial, ?_⟩
        go_simp
        refine ⟨fun h => (by cases h), HR.out.mono ?_⟩
        rintro e W3 hT3
        obtain ⟨bb, rfl, S', hs', hm', hrd, hrs⟩ := takePost_bool hT3
        have HS' := hid hs'
        have HM' := hid hm'
        have HRD' := hid hrd
        have HRS' := hid hrs
        clear hs' hm' hrd hrs hT3 HR hy'
        refine hK _ _ ?_
        clear hK K
        refine wpAnyIn_ready (rs := [8]) (by kernel_rfl) (by simp) ?_
        refine AllReadyIn.cons rfl (fun K hK => ?_) AllReadyIn.nil
        rw [if_pos (by rfl)]
        unfold Oper.wpIn
        refine ⟨fun _ _ => trivial, ?_⟩
        go_simp
        refine hK _ _ ?_
        clear hK K
        refine wpAnyIn_done (by kernel_rfl) ?_ _
        have hsz3 : W.heap.size ≤ (w1.drewN q).heap.size := HKQ.out.size
        have hm3 : Sb.Mod S1 W W3 := (Mod.of_keep HKQ.out).trans (HM'.out.mono (fun k _ h => .inl h))
        have hs3 : ∀ k, S' k → S1 k ∨ W.heap.size ≤ k := fun k hk => (HS'.out k hk).imp id (fun h => by omega)
        have hRn : ∀ k, RO k → ¬ S1 k := fun k hk h => (HQ2.out k h).2.2 hk
        have hROW : ∀ k, RO k → W3.heap[k]? = w.heap[k]? := fun k hk => (hm3.block k (by have := (hROT.out k hk).1; omega) (hRn k hk)).trans (HQ5.out k hk).2
        have hnew : ∀ k, S' k → (S3 k ∨ W.heap.size ≤ k) ∧ k ≠ w.heap.size ∧ ¬ RO k := fun k hk => by
          have hlt := lt_of_some HQ3.out
          rcases hs3 k hk with h | h
          · exact ⟨.inl (HQ2.out k h).1, (HQ2.out k h).2⟩
          · exact ⟨.inr h, by omega, fun hR => by have := (hROT.out k hR).1; omega⟩
        have hy3 := blk_mod HQ3.out hm3 (fun h => (HQ2.out _ h).2.1 rfl)
        have hm33 : Sb.Mod S3 W W3 := hm3.mono (fun k _ h => (HQ2.out k h).1)
        have P1 := hid hnew
        have P2 := hid hROW
        have P3 := hid hy3
        have P4 := hid hm33
        clear hsz3 hm3 hs3 hRn hROW hnew hy3 hm33
        cases bb with
        | true =>
          gi_wp2
          refine ⟨fun k => S3 k ∨ W.heap.size ≤ k, fun k h => h, P4.out, S', ?_, fun k hk => P1.out k hk, P3.out, .inl q4, fun k hk => ⟨.inl (HQ5.out k hk).1, P2.out k hk⟩⟩
          rw [HTD.out]
          exact HRD'.out trivial
        | false =>
          gi_wp2
          refine ⟨fun k => S3 k ∨ W.heap.size ≤ k, fun k h => h, P4.out, rfl, S', ?_, fun k hk => ⟨(P1.out k hk).1, (P1.out k hk).2.2⟩, ?_, fun k hk => ⟨.inl (HQ5.out k hk).1, P2.out k hk⟩⟩
          · rw [HTD.out]
            exact HRS'.out trivial
          · rw [HTD.out]
            simp
    · have same : ∀ q, bodyOwes (fun pre S3 W => ∃ S1, Rd (told l ys pre) S1 W ∧ (∀ k, S1 k → S3 k ∧ k ≠ w.heap.size ∧ ¬ RO k) ∧ W.heap[w.heap.size]? = some (.cells #[.func (.yield lp) #[] #[]] 175 (0, 0)) ∧ S3 w.heap.size ∧ (∀ k, RO k → S3 k ∧ W.heap[k]? = w.heap[k]?))
          (fun c pre S3 W => c = .ret ∧ ∃ S1, Rs (told l ys pre) S1 W ∧ (∀ k, S1 k → S3 k ∧ ¬ RO k) ∧ told l ys pre ≠ [] ∧ (∀ k, RO k → S3 k ∧ W.heap[k]? = w.heap[k]?)) (pre ++ [x]) S3 W .normal { tmps := #[], defers := [] } (W.drewN q) := fun q =>
        ⟨S3, fun k h => .inl h, Mod.of_keep (keep_drewN _ _), S1, by rw [told_out hx]; exact htk.frame _ _ _ _ HQ1.out (agree_keep (keep_drewN _ _)) (Nat.le_refl _), HQ2.out, HQ3.out, q4, HQ5.out⟩
      have SAME := hid same
      clear same
      by_cases hx0 : x < 0
      · clear hx
        gi_wp2
        refine ⟨trivial, ?_⟩
        gi_wp2
        exact SAME.out 0
      · have hge : (l.length : Int) ≤ x := by omega
        have hx0' : decide (x < 0) = false := by simpa using hx0
        clear hx hx0
        obtain ⟨Ln, hLn⟩ : ∃ Ln : Int, (l.length : Int) = Ln := ⟨_, rfl⟩
        rw [hLn] at hge
        have HLn := hid hLn
        clear hLn
        gi_wp2_with fail
        refine ⟨trivial, fun h => (by cases h), ?_⟩
        refine (CallsIn.inRound lq (callsIn_wide.2 (len_any _ _ _ _ _ HI'.out))).mono ?_
        rintro e w' ⟨rfl, ⟨q, rfl⟩⟩
        rw [HLn.out]
        gi_wp2
        exact SAME.out _
  case hdone =>
    rintro D zs S3 W rfl hDs hnD hD hS3 hmod ⟨S1, q1, q2, q3, q4, q5⟩ hJ
    have hm1 : Sb.Mod S w W := ⟨hmod.os.trans HK0.out.os, hmod.tape.trans HK0.out.tape, hmod.output.trans HK0.out.output, Nat.le_trans HK0.out.size hmod.size, fun k hk hn => by
      by_cases hR : RO k
      · exact (q5 k hR).2
      · refine (hmod.block k (Nat.lt_of_lt_of_le hk HK0.out.size) ?_).trans (HK0.out.block k hk)
        rintro (((h | rfl) | h) | h)
        · exact hn h
        · omega
        · exact hR h
        · exact h⟩
    have hS1 : ∀ k, S1 k → S k ∨ w.heap.size ≤ k := fun k hk => by
      rcases hS3 k (q2 k hk).1 with ((h | rfl) | h) | h
      · exact .inl h
      · exact .inr (Nat.le_refl _)
      · exact absurd h (q2 k hk).2.2
      · exact .inr (by have := HK0.out.size; omega)
    have hDw : w.heap.size ≤ D := by have := HK0.out.size; omega
    have hr1 : Rd (told l ys zs) S1 (W.putObj D (.deferred none)) := htk.frame _ _ _ _ q1 (put_agree (fun h => hnD (q2 _ h).1) _) (by simp)
    have HR := hid hr1
    have HM := hid (hm1.trans (put_mod (.inl (.inr hDw)) (.deferred none)) : Sb.Mod S w (W.putObj D (.deferred none)))
    have HS1 := hid hS1
    clear q1 q2 q3 hm1 hS1 hr1
    gi_wp2
    refine ⟨by simp, .inl ⟨_, _, rfl, run_takeDeferred hD, ?_⟩⟩
    refine ⟨_, results_none rfl _ _ _, ⟨_, rfl⟩, S1, HS1.out, HM.out.mono (fun k _ h => .inl h), .inl ⟨_, rfl, HR.out, trivial⟩⟩
  case hstop =>
    rintro D c pre S3 W hDs hnD hD hS3 hmod hpre ⟨rfl, S1, q1, q2, q3, q5⟩ hJ
    have hm1 : Sb.Mod S w W := ⟨hmod.os.trans HK0.out.os, hmod.tape.trans HK0.out.tape, hmod.output.trans HK0.out.output, Nat.le_trans HK0.out.size hmod.size, fun k hk hn => by
      by_cases hR : RO k
      · exact (q5 k hR).2
      · refine (hmod.block k (Nat.lt_of_lt_of_le hk HK0.out.size) ?_).trans (HK0.out.block k hk)
        rintro (((h | rfl) | h) | h)
        · exact hn h
        · omega
        · exact hR h
        · exact h⟩
    have hS1 : ∀ k, S1 k → S k ∨ w.heap.size ≤ k := fun k hk => by
      rcases hS3 k (q2 k hk).1 with ((h | rfl) | h) | h
      · exact .inl h
      · exact .inr (Nat.le_refl _)
      · exact absurd h (q2 k hk).2
      · exact .inr (by have := HK0.out.size; omega)
    have hDw : w.heap.size ≤ D := by have := HK0.out.size; omega
    have hr1 : Rs (told l ys pre) S1 (W.putObj D (.deferred none)) := htk.frameS _ _ _ _ q1 (put_agree (fun h => hnD (q2 _ h).1) _) (by simp)
    have HR := hid hr1
    have HM := hid (hm1.trans (put_mod (.inl (.inr hDw)) (.deferred none)) : Sb.Mod S w (W.putObj D (.deferred none)))
    have HS1 := hid hS1
    clear q1 q2 hm1 hS1 hr1
    gi_wp2
    refine ⟨by simp, .inl ⟨_, _, rfl, run_takeDeferred hD, ?_⟩⟩
    refine ⟨_, results_none rfl _ _ _, ⟨_, rfl⟩, S1, HS1.out, HM.out.mono (fun k _ h => .inl h), .inr ⟨_, told_prefix hpre, q3, HR.out, trivial⟩⟩
end Go.Proofs.Ytoligbmcceindaa
