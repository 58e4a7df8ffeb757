/- Contracts: topk.Of at results. -/
import Derived.Test.YtoligbmcceindaaTopkI
set_option linter.unusedVariables false
set_option linter.unusedSimpArgs false
namespace Go.Proofs.Ytoligbmcceindaa
open Go.RowKit Go.Sb
attribute [local go_sem] Oper.semAt_some

def resArg (x : Res) : Array Value := #[.agg #[.int .i64 x.1, .int .i64 x.2]]

set_option maxRecDepth 100000 in
set_option maxHeartbeats 2000000 in
theorem of_any (gf : Nat) (lb : Array Value) (eg : Enters Try.prog gf) (Ok Full : List Res → Prop) (T U : Nat → Prop) (J : List Res → World → Prop) (most : Int) (w : World)
    (hit : ∀ w', Keep w w' → Iter Try.prog gf lb resArg Ok Full T U w' J) (hT : ∀ k, T k → k < w.heap.size) (hOk : ∀ pre, Ok pre → pre.length < 1073741824) (hFull : ∀ xs, Full xs → xs.length < 1073741824)
    (hJ : ∀ pre W W', J pre W → Agree T W W' → W.heap.size ≤ W'.heap.size → J pre W') (hmost : 1 ≤ most) :
    Calls Try.prog 59 #[.func (.func 60) #[] #[], .int .i64 most, .func (.func gf) #[] lb] w fun e w' => ∃ v, e = .returned v ∧ ∃ xs out, Full xs ∧ Sb.Own tRes 33 w' v (out.map (·.1)) ∧ Kept nearer most.toNat (stamped xs) out ∧
      out.Pairwise (fun x y => Sb.ahead nearer y x = false) ∧ (∀ k, v.ownBlock = some k → w.heap.size ≤ k) ∧ Sb.Mod U w w' := by
  have HT := hid hT
  have HMO := hid hmost
  clear hT hmost
  refine (callsIn_wide (n := 9)).1 ?_
  refine callsIn_of_wp_marks Try.func59 rfl trivial ?_
  simp only [Try.ntmps59, List.size_toArray, List.length_cons, List.length_nil, Nat.reduceAdd, Nat.reduceSub, Array.replicate_succ, Array.replicate_zero, List.push_toArray, List.append_toArray, List.nil_append, List.cons_append]
  gi_wp2_with fail
  refine ⟨trivial, ?_⟩
  refine (callsIn_wide.2 (sel_new_any most w)).mono ?_
  rintro e w1 ⟨s, S, rfl, hsel, hS, hk1⟩
  gi_wp2_with fail
  have K1 := keep_alloc hk1 (.cells #[.pointer (some ⟨s, 0, none⟩)] 173)
  have hB1 := blk_new w1 (.cells #[.pointer (some ⟨s, 0, none⟩)] 173)
  have hz1 : w.heap.size ≤ w1.heap.size := hk1.size
  refine range_law rfl eg (hit _ K1) (fun _ => rfl) ?hT
    (fun pre S3 W => ∃ S1, IsSel S1 s most pre W ∧ (∀ k, S1 k → S3 k ∧ k < W.heap.size ∧ k ≠ w1.heap.size) ∧ W.heap[w1.heap.size]? = some (.cells #[.pointer (some ⟨s, 0, none⟩)] 173 (0, 0)) ∧ S3 w1.heap.size) (fun _ _ _ _ => False) ?hI (fun _ _ _ _ _ h _ _ => h)
    (fun k => S k ∨ k = w1.heap.size) ?h0 ?hS0 ?hdis
    (fun x B a' W => W.heap[B]? = some (.cells #[.int .i64 x.1, .int .i64 x.2] 33 (0, 0)) ∧ a' = { tmps := #[.func (.func 60) #[] #[], .int .i64 most, .func (.func gf) #[] lb, undef, undef, undef, .slice none 0 0, .pointer (some ⟨w1.heap.size, 0, none⟩), .pointer (some ⟨B, 0, none⟩), .func (.func 60) #[] #[], .int .i64 most, .pointer (some ⟨s, 0, none⟩), .func (.func gf) #[] lb, .agg #[.int .i64 x.1, .int .i64 x.2], undef, undef, undef, undef, undef], defers := [] })
    ?hAx ?hassign ?hbody ?hdone hJ (fun _ _ _ _ _ _ _ _ _ _ _ h _ => h.elim)
  case hT => exact fun k hk => Nat.lt_of_lt_of_le (HT.out k hk) K1.size
  case hI =>
    rintro pre S3 W W' ⟨S1, h1, h2, h3, h4⟩ ha hsz
    exact ⟨S1, h1.move (fun k hk hlt => ha k (h2 k hk).1 hlt), fun k hk => ⟨(h2 k hk).1, Nat.lt_of_lt_of_le (h2 k hk).2.1 hsz, (h2 k hk).2.2⟩, ha.at h3 h4, h4⟩
  case h0 => exact ⟨S, hsel.keep (keep_alloc (Below.refl _ _) _), fun k hk => ⟨.inl hk, by have := (hS k hk).2; simp; omega, Nat.ne_of_lt (hS k hk).2⟩, hB1, .inr rfl⟩
  case hS0 =>
    rintro k (h | rfl)
    · have := (hS k h).2; simp; omega
    · simp
  case hdis =>
    rintro k hk (h | rfl)
    · have := (hS k h).1; have := HT.out k hk; omega
    · have := HT.out _ hk; omega
  case hAx =>
    rintro x B a' W W' ⟨h1, h2⟩ hk hsz
    exact ⟨(hk B (Nat.le_refl _) (lt_of_some h1)).trans h1, h2⟩
  case hassign =>
    rintro l ⟨x1, x2⟩ W m K hK
    simp only [resArg]
    gi_wp2
    exact hK _ _ (keep_alloc (Below.refl _ W) _) ⟨blk_new W _, rfl⟩
  case hbody =>
    rintro l pre ⟨x1, x2⟩ S3 W m B a' ⟨S1, h1, h2, h3, h4⟩ ⟨hB, rfl⟩ hWs hBs hS1 hok hl hr hnl
    have a0 : W.cell? ⟨w1.heap.size, 0, none⟩ = some (.pointer (some ⟨s, 0, none⟩)) := blk_cell h3 0
    have b0 : W.cell? ⟨B, 0, none⟩ = some (.int .i64 x1) := blk_cell hB 0
    have b1 : W.cell? ⟨B, 1, none⟩ = some (.int .i64 x2) := blk_cell hB 1
    have hpl : pre.length < 1073741824 := by have := hOk _ hok; simp at this; omega
    have H1 := hid h1
    have H2 := hid h2
    have H3 := hid h3
    have HPL := hid hpl
    clear h1 h2 h3 hB hok hr hpl hit
    gi_wp2_with fail
    refine ⟨trivial, fun h => (by cases h), ?_⟩
    refine (CallsIn.inRound l (callsIn_wide.2 (offer_any S1 s most pre x1 x2 W H1.out (fun k hk => (H2.out k hk).2.1) HMO.out HPL.out))).mono ?_
    rintro e w2 ⟨⟨v, rfl⟩, S', hsel', hS', hm'⟩
    have R : bodyOwes (fun pre S3 W => ∃ S1, IsSel S1 s most pre W ∧ (∀ k, S1 k → S3 k ∧ k < W.heap.size ∧ k ≠ w1.heap.size) ∧ W.heap[w1.heap.size]? = some (.cells #[.pointer (some ⟨s, 0, none⟩)] 173 (0, 0)) ∧ S3 w1.heap.size) (fun _ _ _ _ => False) (pre ++ [(x1, x2)]) S3 W .normal { tmps := #[], defers := [] } w2 := by
      refine ⟨fun k => S3 k ∨ W.heap.size ≤ k, fun k h => h, hm'.mono (fun k _ h => (H2.out k h).1), S', hsel', fun k hk => ⟨?_, (hS' k hk).2, ?_⟩, blk_mod H3.out hm' (fun h => (H2.out _ h).2.2 rfl), .inl h4⟩
      · exact (hS' k hk).1.elim (fun h => .inl (H2.out k h).1) .inr
      · rcases (hS' k hk).1 with h | h
        · exact (H2.out k h).2.2
        · have := lt_of_some H3.out; omega
    have HR := hid R
    clear R hsel' hS' hm'
    gi_wp2
    exact HR.out
  case hdone =>
    rintro D xs S3 W hfull hDs hnD hD hS3 hmod ⟨S1, h1, h2, h3, h4⟩ hJ'
    have a0 : W.cell? ⟨w1.heap.size, 0, none⟩ = some (.pointer (some ⟨s, 0, none⟩)) := blk_cell h3 0
    have hMW : Sb.Mod U w W := (Mod.of_keep K1).trans (hmod.mono (fun k _ h => h.elim (fun h => .inr (by
      rcases h with h | rfl
      · exact (hS k h).1
      · exact hz1)) .inl))
    have H1 := hid h1
    have H2 := hid h2
    have HMW := hid hMW
    have HD := hid hD
    have hzW : w.heap.size ≤ W.heap.size := hMW.size
    have HZW := hid hzW
    have hDn : ∀ k, S1 k → k ≠ D := fun k hk e => hnD (e ▸ (h2 k hk).1)
    have hDw : w.heap.size ≤ D := by have := K1.size; omega
    have HDN := hid hDn
    have HDW := hid hDw
    have hSw : Hid (∀ k, S1 k → U k ∨ w.heap.size ≤ k) := fun k hk => by
      rcases hS3 k (h2 k hk).1 with (h | rfl) | h
      · exact .inr (hS k h).1
      · exact .inr hz1
      · exact .inr (by have := K1.size; omega)
    clear h1 h2 h3 h4 hMW hD hzW hDn hDw hit hsel hS hk1 K1 hB1 hmod hS3 hDs hnD hJ'
    gi_wp2_with fail
    refine ⟨trivial, ?_⟩
    refine (callsIn_wide.2 (list_any S1 s most xs W H1.out (fun k hk => (H2.out k hk).2.1) (hFull xs hfull))).mono ?_
    rintro e w3 ⟨v, out, rfl, h1, h2, h3, h5, h6⟩
    have hD3 := blk_mod HD.out h6 (fun h => HDN.out _ h rfl)
    have Q1 := hid h1
    have Q2 := hid h2
    have Q3 := hid h3
    have Q5 := hid h5
    have Q6 := hid h6
    have QD := hid hD3
    clear h1 h2 h3 h5 h6 hD3
    gi_wp2
    refine ⟨by simp, .inl ⟨_, _, rfl, run_takeDeferred QD.out, ?_⟩⟩
    have hlt := lt_of_some HD.out
    have hzw := HZW.out
    have hz3 := Q6.out.size
    refine ⟨_, results_tmp rfl _ _ _, v, rfl, xs, out, hfull, ?_, Q2.out, Q3.out, ?_, ?_⟩
    · exact Q1.out.move tRes_flatly (fun k e _ => World.putObj_heap_other (by have := Q5.out k e; omega))
    · exact fun k e => by have := Q5.out k e; omega
    · exact (HMW.out.trans (Q6.out.mono (fun k _ h => hSw.out k h))).trans (put_mod (.inl (.inr HDW.out)) _)
end Go.Proofs.Ytoligbmcceindaa
