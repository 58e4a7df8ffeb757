/- Contracts: slices.Values at []int, as an iterator. -/
import Derived.Test.YtoligbmcceindaaTopkJ
set_option linter.unusedVariables false
set_option linter.unusedSimpArgs false
namespace Go.Proofs.Ytoligbmcceindaa
open Go.RowKit Go.Sb
attribute [local go_sem] Oper.semAt_some

theorem lies_move {α : Type} {d : Ty α} (hd : Flatly d) {w w' : World} {v : Value} {xs : List α} (h : Lies d w v xs) (hk : ∀ k, v.ownBlock = some k → k < w.heap.size → w'.heap[k]? = w.heap[k]?) : Lies d w' v xs := by
  obtain ⟨A, c, cs, e, h1, h2, hf, hc⟩ := h
  refine ⟨A, c, cs, e, h1, h2, hf.any hd, fun j u hu => ?_⟩
  obtain ⟨b, o, rfl, hcell⟩ := hc j u hu
  exact ⟨b, o, rfl, (World.cell?_of_block (w := w) (hk b (by rw [e]; rfl) (World.block_lt_of_cell? w _ hcell))).trans hcell⟩

set_option maxHeartbeats 400000 in
theorem values_any (A : Option Addr) (n c : Nat) (w : World) :
    Calls Try.prog 62 #[.slice A n c] w fun e w' => e = .returned (.func (.func 107) #[] #[.pointer (some ⟨w.heap.size, 0, none⟩)]) ∧
      w'.heap[w.heap.size]? = some (.cells #[.slice A n c] 65 (0, 0)) ∧ Keep w w' := by
  go_enter Try.func62, Try.ntmps62
  go_wp2
  go_ret
  exact ⟨rfl, blk_new w _, keep_alloc (Below.refl _ w) _⟩

def intArg (x : Int) : Array Value := #[.int .i64 x]

theorem prefix_step {xs : List Int} {i : Nat} (h : i < xs.length) : xs.take (i + 1) = xs.take i ++ [nth xs i] := by
  rw [List.take_succ_eq_append_getElem h, nth_eq h]

set_option maxRecDepth 100000 in
set_option maxHeartbeats 1000000 in
theorem values_iter (bx : Nat) (v : Value) (xs : List Int) (W0 : World) (hb : W0.cell? ⟨bx, 0, none⟩ = some v) (hl : i64s W0 v xs) :
    Iter Try.prog 107 #[.pointer (some ⟨bx, 0, none⟩)] intArg (fun pre => pre <+: xs) (fun ys => ys = xs)
      (fun k => k = bx ∨ v.ownBlock = some k) (fun _ => False) W0 (fun _ _ => True) := by
  intro lp Rd Rs S w htk hag hsz hdis hSb hRd hos n
  obtain ⟨A, c, rfl, hc1, hc2⟩ := hl.form
  have hbw : w.cell? ⟨bx, 0, none⟩ = some (.slice A xs.length c) := hag.cell hb (.inl rfl)
  have HLW : Hid (i64s w (.slice A xs.length c) xs) := lies_move (tInt_flatly _) hl (fun k e hlt => hag k (.inr e) hlt)
  have HL0 := hid hl
  clear hl hb hc1
  refine callsIn_of_wp Try.func107 rfl trivial ?_ rfl
  simp only [Try.ntmps107, List.size_toArray, List.length_cons, List.length_nil, Nat.reduceAdd, Nat.reduceSub, Array.replicate_succ, Array.replicate_zero, List.push_toArray, List.append_toArray, List.nil_append, List.cons_append]
  gi_wp2
  gi_loopw [7] (fun kv wr => ∃ (i : Nat) (S1 : Nat → Prop), kv = .int .i64 i ∧ i ≤ xs.length ∧ Hid (Rd (xs.take i) S1 wr) ∧ Hid (∀ k, S1 k → S k ∨ w.heap.size ≤ k) ∧ Hid (Sb.Mod S w wr)) (fun kv wr => xs.length - (intOf kv).toNat)
  case atStart => exact ⟨0, S, rfl, Nat.zero_le _, hid (by simpa using hRd), fun k hk => .inl hk, Mod.refl _ _⟩
  case round =>
    obtain ⟨i, S1, rfl, hi, hrd, hs1, hmod⟩ := hrel
    by_cases hlt : i < xs.length
    · have HLR : i64s wr (.slice A xs.length c) xs := lies_move (tInt_flatly _) HLW.out (fun k e hk => hmod.out.block k hk (fun hS => by
        have hk0 : k < W0.heap.size := by
          obtain ⟨b, o, cap, e2, _, _, hb2, _⟩ := ints_open HL0.out (by omega)
          rw [e2] at e
          have e' : b = k := by simpa [Value.ownBlock] using e
          omega
        exact hdis k (.inr e) hk0 hS))
      obtain ⟨b, o, cap, e, _, _, hb, hat⟩ := ints_open HLR (by omega)
      injection e with e1 e2 e3
      subst e1 e3
      have hx := hat i hlt
      have hii : (i : Int) < (xs.length : Int) := by omega
      have HLT := hid hlt
      obtain ⟨fn, tmps, assign, body, hy, hR⟩ := htk.round (xs.take i) (nth xs i) S1 wr (n - 1) hrd.out (by rw [← prefix_step hlt]; exact List.take_prefix _ _)
      simp only [intArg] at hy
      rw [← prefix_step hlt] at hR
      have HR := hid hR
      clear hR hat hlt HLR hb
      gi_wp2
      refine ⟨fun h => (by cases h), HR.out.mono ?_⟩
      rintro e W' ⟨S', hs', hm', hend⟩
      have hsz' := hmod.out.size
      have hmod' := hid (hmod.out.trans (hm'.mono (fun k _ h => hs1.out k h)))
      have hs1' : Hid (∀ k, S' k → S k ∨ w.heap.size ≤ k) := fun k hk => by
        rcases hs' k hk with e | e
        · exact hs1.out k e
        · exact .inr (by omega)
      clear hsz' hs' hm'
      rcases hend with ⟨rfl, hrd'⟩ | ⟨rfl, hrs'⟩
      · have HRD := hid hrd'
        clear hrd'
        gi_wp2
        go_roundw
        case rel => exact ⟨i + 1, S', by go_num, HLT.out, HRD, hs1', hmod'⟩
        case measure => simp [intOf]; have := HLT.out; omega
      · have HRS := hid hrs'
        clear hrs'
        gi_wp2
        refine bodyPost_ret (results_none rfl _ _ _) rfl ?_
        refine ⟨⟨_, rfl⟩, S', hs1'.out, hmod'.out.mono (fun k _ h => .inl h), .inr ⟨xs.take (i + 1), List.take_prefix _ _, ?_, HRS.out, trivial⟩⟩
        intro e
        have := HLT.out
        have h2 := congrArg List.length e
        rw [List.length_take, List.length_nil] at h2
        omega
    · obtain rfl : i = xs.length := by omega
      have HRD := hid hrd.out
      clear hlt
      gi_wp2
      go_end0
      refine ⟨⟨_, rfl⟩, S1, hs1.out, hmod.out.mono (fun k _ h => .inl h), .inl ⟨xs, rfl, ?_, trivial⟩⟩
      have := HRD.out
      rwa [List.take_length] at this
end Go.Proofs.Ytoligbmcceindaa
