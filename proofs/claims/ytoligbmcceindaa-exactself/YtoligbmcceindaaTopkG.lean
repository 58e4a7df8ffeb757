/- Contracts: heap.Drain as an iterator. -/
import Derived.Test.YtoligbmcceindaaTopkF
import Derived.LoopNIn
import Derived.LoopIn
set_option linter.unusedVariables false
set_option linter.unusedSimpArgs false
namespace Go.Proofs.Ytoligbmcceindaa
open Go.RowKit Go.Sb
attribute [local go_sem] Oper.semAt_some

set_option maxHeartbeats 400000 in
theorem drain_any (h : Nat) (w : World) :
    Calls Try.prog 143 #[.pointer (some ⟨h, 0, none⟩)] w fun e w' => e = .returned (.func (.func 161) #[] #[.pointer (some ⟨w.heap.size, 0, none⟩)]) ∧
      w'.heap[w.heap.size]? = some (.cells #[.pointer (some ⟨h, 0, none⟩)] 208 (0, 0)) ∧ Keep w w' := by
  go_enter Try.func143, Try.ntmps143
  go_wp2
  go_ret
  exact ⟨rfl, blk_new w _, keep_alloc (Below.refl _ w) _⟩

/-- What is left, read off the world. -/
def left (h : Nat) (w : World) : Nat := match w.cell? ⟨h, 1, none⟩ with
  | some (.slice _ n _) => n
  | _ => 0
theorem left_eq {S : Nat → Prop} {h b s : Nat} {l : List Ent} {w : World} (H : IsHeap S h b s l w) : left h w = l.length := by
  obtain ⟨A, c, _, c1, _⟩ := H.cells
  simp [left, c1]

def entArg (x : Ent) : Array Value := #[.agg #[.int .i64 x.1.1, .int .i64 x.1.2, .int .i64 x.2]]

structure Drained (l : List Ent) (Sh : Nat → Prop) (h b s : Nat) (pre : List Ent) (w : World) : Prop where
  ex : ∃ rest, (pre ++ rest).Perm l ∧ pre.Pairwise (fun x y => Sb.ahead nearer x y = false) ∧ (∀ x ∈ pre, ∀ y ∈ rest, Sb.ahead nearer x y = false) ∧ HeapOrd below rest ∧ IsHeap Sh h b s rest w

set_option maxRecDepth 100000 in
set_option maxHeartbeats 1000000 in
theorem drain_iter (Sh : Nat → Prop) (h b s d : Nat) (l : List Ent) (W0 : World) (H : IsHeap Sh h b s l W0) (ho : HeapOrd below l) (hd : W0.cell? ⟨d, 0, none⟩ = some (.pointer (some ⟨h, 0, none⟩))) (hSh : ∀ k, Sh k → k < W0.heap.size) (hnd : ¬ Sh d) (hfew : l.length < 1099511627776) :
    Iter Try.prog 161 #[.pointer (some ⟨d, 0, none⟩)] entArg (fun pre => pre.length ≤ l.length) (fun pre => pre.Perm l ∧ pre.Pairwise (fun x y => Sb.ahead nearer x y = false))
      (fun k => Sh k ∨ k = b ∨ k = s ∨ k = d) Sh W0 (Drained l Sh h b s) := by
  intro lp Rd Rs S w htk hag hsz hdis hSb hRd hos n
  have HW : IsHeap Sh h b s l w := H.move (fun k hk hlt => hag k (by rcases hk with e | e | e; exact .inl e; exact .inr (.inl e); exact .inr (.inr (.inl e))) hlt)
  have hdw : w.cell? ⟨d, 0, none⟩ = some (.pointer (some ⟨h, 0, none⟩)) := hag.cell hd (.inr (.inr (.inr rfl)))
  refine callsIn_of_wp Try.func161 rfl trivial ?_ rfl
  simp only [Try.ntmps161, List.size_toArray, List.length_cons, List.length_nil, Nat.reduceAdd, Nat.reduceSub, Array.replicate_succ, Array.replicate_zero, List.push_toArray, List.append_toArray, List.nil_append, List.cons_append]
  gi_wp2
  gi_loopw [5] (fun p wr => ∃ (pre rest : List Ent) (S1 : Nat → Prop), Hid ((pre ++ rest).Perm l) ∧ Hid (pre.Pairwise (fun x y => Sb.ahead nearer x y = false)) ∧ Hid (∀ x ∈ pre, ∀ y ∈ rest, Sb.ahead nearer x y = false) ∧ Hid (HeapOrd below rest) ∧ Hid (IsHeap Sh h b s rest wr) ∧ Hid (Rd pre S1 wr) ∧
      Hid (∀ k, S1 k → S k ∨ w.heap.size ≤ k) ∧ Hid (Sb.Mod (fun k => S k ∨ (Sh k ∧ k < W0.heap.size)) w wr)) (fun p wr => left h wr)
  case atStart => exact ⟨[], l, S, List.Perm.refl _, List.Pairwise.nil, fun x hx => by simp at hx, ho, HW, hRd, fun k hk => .inl hk, Mod.refl _ _⟩
  case round =>
    obtain ⟨pre, rest, S1, hperm, hpw, hpr, hord, hheap, hrd, hs1, hmod⟩ := hrel
    have hdr : wr.cell? ⟨d, 0, none⟩ = some (.pointer (some ⟨h, 0, none⟩)) := hmod.out.cell hdw (fun e => e.elim (fun e => hdis d (.inr (.inr (.inr rfl))) (World.block_lt_of_cell? _ _ hd) e) (fun e => hnd e.1))
    have hll := hperm.out.length_eq
    rw [List.length_append] at hll
    have HLL := hid hll
    clear hll
    by_cases h0 : 0 < rest.length
    · have h0' : (0 : Int) < (rest.length : Int) := by omega
      have HF : Hid (rest.length < 1099511627776) := by have := HLL.out; show _ < _; omega
      have H0 := hid h0
      clear h0
      gi_wp2_with fail
      refine ⟨trivial, fun h => (by cases h), ?_⟩
      refine (callsIn_wide.2 (heap_len_any Sh h b s rest wr hheap.out)).mono ?_
      rintro e w1 ⟨rfl, rfl⟩
      gi_wp2_with fail
      refine ⟨trivial, fun h => (by cases h), ?_⟩
      refine (callsIn_wide.2 (pop_any Sh h b s rest wr hheap.out hord.out H0.out HF.out)).mono ?_
      rintro e w2 ⟨rfl, rest', hp2, ho2, hh2, hm2⟩
      obtain ⟨⟨⟨x1, x2⟩, x3⟩, hx⟩ : ∃ x, nth rest 0 = x := ⟨_, rfl⟩
      rw [hx] at hp2 ⊢
      have HX := hid hx
      have HP2 := hid hp2
      have HO2 := hid ho2
      have HH2 := hid hh2
      have HM2 := hid hm2
      clear hx hp2 ho2 hh2 hm2
      have hmem : ((x1, x2), x3) ∈ rest := by rw [← HX.out]; exact nth_mem H0.out
      have hSh1 : ∀ k, Sh k → ¬ S1 k := fun k hk hs => by
        rcases hs1.out k hs with e | e
        · exact hdis k (.inl hk) (hSh k hk) e
        · have := hSh k hk; omega
      have hsz2 := hmod.out.size
      have hrd2 : Rd pre S1 w2 := htk.frame _ _ _ _ hrd.out (HM2.out.agree (fun k _ hs hk => hSh1 k hk hs)) HM2.out.size
      have KW := keep_alloc (Below.refl _ w2) (.cells #[.int .i64 x1, .int .i64 x2, .int .i64 x3] 213)
      have hrd3 := htk.frame _ _ _ _ hrd2 (agree_keep KW) KW.size
      have hlen2 := HP2.out.length_eq
      obtain ⟨fn, tmps, assign, body, hy, hR⟩ := htk.round pre ((x1, x2), x3) S1 _ (n - 1) hrd3 (by have := HLL.out; simp at hlen2 ⊢; omega)
      simp only [entArg] at hy
      have HR := hid hR
      have HSH1 := hid hSh1
      have HKW := hid KW
      have HMEM := hid hmem
      clear hR hrd2 hrd3 KW hlen2 hmem hSh1 hsz2
      gi_wp2
      refine ⟨fun h => (by cases h), HR.out.mono ?_⟩
      rintro e W' ⟨S', hs', hm', hend⟩
      have hS1T : ∀ k, (Sh k ∨ k = b ∨ k = s ∨ k = d) → k < W0.heap.size → ¬ S1 k := fun k hk hlt hs => by
        rcases hs1.out k hs with e | e
        · exact hdis k hk hlt e
        · omega
      have hag' : Agree (fun k => Sh k ∨ k = b ∨ k = s) w2 W' := fun k hk hlt => by
        refine (hm'.block k (Nat.lt_of_lt_of_le hlt HKW.out.size) ?_).trans (HKW.out.block k hlt)
        refine hS1T k (by rcases hk with e | e | e; exact .inl e; exact .inr (.inl e); exact .inr (.inr (.inl e))) ?_
        rcases hk with e | rfl | rfl
        · exact hSh k e
        · exact World.block_lt_of_cell? _ _ H.box
        · exact World.block_lt_of_cell? _ _ H.sel
      have hheap' := hid (HH2.out.move hag')
      have hmod' := hid (((hmod.out.trans (HM2.out.mono (fun k _ h => .inl (.inr ⟨h, hSh k h⟩)))).trans (Mod.of_keep HKW.out)).trans (hm'.mono (fun k _ h => by
        rcases hs1.out k h with e | e
        · exact .inl (.inl e)
        · exact .inr e)))
      have hsz3 : w.heap.size ≤ (w2.alloc (.cells #[.int .i64 x1, .int .i64 x2, .int .i64 x3] 213)).heap.size := Nat.le_trans (Nat.le_trans hmod.out.size HM2.out.size) HKW.out.size
      have hs1' : Hid (∀ k, S' k → S k ∨ w.heap.size ≤ k) := fun k hk => by
        rcases hs' k hk with e | e
        · exact hs1.out k e
        · exact .inr (Nat.le_trans hsz3 e)
      have hperm' : Hid ((pre ++ [((x1, x2), x3)] ++ rest').Perm l) := by
        show _
        rw [List.append_assoc]
        exact (List.Perm.append_left pre HP2.out).trans hperm.out
      have hpw' : Hid ((pre ++ [((x1, x2), x3)]).Pairwise (fun x y => Sb.ahead nearer x y = false)) := by
        show _
        rw [List.pairwise_append]
        refine ⟨hpw.out, by simp, fun x hx y hy => ?_⟩
        rw [List.mem_singleton.1 hy]
        exact hpr.out x hx _ HMEM.out
      have hpr' : Hid (∀ x ∈ pre ++ [((x1, x2), x3)], ∀ y ∈ rest', Sb.ahead nearer x y = false) := fun x hx y hy => by
        have hyr : y ∈ rest := HP2.out.mem_iff.1 (List.mem_cons_of_mem _ hy)
        rcases List.mem_append.1 hx with hx | hx
        · exact hpr.out x hx y hyr
        · rw [List.mem_singleton.1 hx, ← HX.out]
          exact heap_top_mem below_swo hord.out hyr
      have hlr : rest'.length + 1 = rest.length := by have := HP2.out.length_eq; simpa using this
      rcases hend with ⟨rfl, hrd'⟩ | ⟨rfl, hrs'⟩
      · have HRD := hid hrd'
        clear hrd' hm' hs' hag' hS1T hsz3
        gi_wp2
        go_roundw
        case rel => exact ⟨pre ++ [((x1, x2), x3)], rest', S', hperm', hpw', hpr', HO2, hheap', HRD, hs1', hmod'⟩
        case measure => rw [left_eq hheap'.out, left_eq hheap.out]; omega
      · have HRS := hid hrs'
        clear hrs' hm' hs' hag' hS1T hsz3
        gi_wp2
        refine bodyPost_ret (results_none rfl _ _ _) rfl ?_
        refine ⟨⟨_, rfl⟩, S', hs1'.out, hmod'.out, .inr ⟨pre ++ [((x1, x2), x3)], ?_, by simp, HRS.out, ⟨rest', hperm'.out, hpw'.out, hpr'.out, HO2.out, hheap'.out⟩⟩⟩
        have := hperm'.out.length_eq
        rw [List.length_append] at this
        omega
    · obtain rfl : rest = [] := List.eq_nil_of_length_eq_zero (by omega)
      clear h0
      gi_wp2_with fail
      refine ⟨trivial, fun h => (by cases h), ?_⟩
      refine (callsIn_wide.2 (heap_len_any Sh h b s [] wr hheap.out)).mono ?_
      rintro e w1 ⟨rfl, rfl⟩
      gi_wp2
      go_end0
      exact ⟨⟨_, rfl⟩, S1, hs1.out, hmod.out, .inl ⟨pre, ⟨by simpa using hperm.out, hpw.out⟩, hrd.out, ⟨[], hperm.out, hpw.out, hpr.out, hord.out, hheap.out⟩⟩⟩
end Go.Proofs.Ytoligbmcceindaa
