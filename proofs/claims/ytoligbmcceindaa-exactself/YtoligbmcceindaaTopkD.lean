/- Contracts: the heap of entries: Pop. -/
import Derived.Test.YtoligbmcceindaaTopkC
set_option linter.unusedVariables false
set_option linter.unusedSimpArgs false
namespace Go.Proofs.Ytoligbmcceindaa
open Go.RowKit Go.Sb

theorem own_take {α : Type} {d : Ty α} {e : TypeId} {w : World} {g n c m : Nat} {xs : List α} (h : Sb.Own d e w (.slice (some ⟨g, 0, none⟩) n c) xs) (hm : m ≤ xs.length) :
    Sb.Own d e w (.slice (some ⟨g, 0, none⟩) m c) (xs.take m) := by
  obtain ⟨cs, hf, ho, hl⟩ := h
  rcases ho.2 with ⟨h1, _⟩ | ⟨g', cap, cur, e1, hb, hg, hca, hmx, hs, ht⟩
  · cases h1
  · injection e1 with e1 e2 e3
    injection e1 with e1
    injection e1 with e4 _
    subst e4 e3
    have hlen := hf.length
    have hmul : m * d.sz ≤ xs.length * d.sz := Nat.mul_le_mul_right _ hm
    have hlt : (xs.take m).length = m := by simp; omega
    refine ⟨cs.take (m * d.sz), hf.take m, ⟨?_, .inr ⟨g, c, cur, by rw [hlt], hb, hg, by omega, hmx, hs, ?_⟩⟩, by omega⟩
    · rw [List.length_take, hlen, hlt, Nat.min_eq_left hmul]
    · rw [hlt, ← ht, List.take_take, Nat.min_eq_left hmul]

theorem dropLast_set0 {α : Type} (l : List α) (x : α) : (l.set 0 x).dropLast = l.dropLast.set 0 x := by
  rcases l with _ | ⟨y, _ | ⟨z, l⟩⟩
  · rfl
  · rfl
  · rfl

theorem IsHeap.popped {S : Nat → Prop} {h b s : Nat} {l : List Ent} {w : World} (H : IsHeap S h b s l w) {g c m : Nat} (hv : w.cell? ⟨h, 1, none⟩ = some (.slice (some ⟨g, 0, none⟩) l.length c)) (hm : l.length = m + 1) (z1 z2 z3 : Int) {W : World}
    (hW : W = (((((w.setCell ⟨g, 0, none⟩ (.int .i64 z1)).setCell ⟨g, 1, none⟩ (.int .i64 z2)).setCell ⟨g, 2, none⟩ (.int .i64 z3)).setCell ⟨h, 1, none⟩ (.slice (some ⟨g, 0, none⟩) m c)).drew)) :
    IsHeap S h b s ((l.set 0 ((z1, z2), z3)).take m) W ∧ Sb.Mod (fun k => k = g ∨ k = h) w W := by
  subst hW
  obtain ⟨_, n1, n2, n3, hSg, _, hrow⟩ := H.row hv
  obtain ⟨⟨av, hg, ho, hS⟩, hm', h1, h2, h3, h4⟩ := H
  have hav : av = .slice (some ⟨g, 0, none⟩) l.length c := by rw [blk_cell hg] at hv; simpa using hv
  subst hav
  have hs : ∀ (W : World) (o : Nat) (v : Value), Sb.Mod (fun k => k = g ∨ k = h) w W → Sb.Mod (fun k => k = g ∨ k = h) w (W.setCell ⟨g, o, none⟩ v) := fun W o v h => h.setCell (.inl (.inl rfl)) v
  have hs2 : ∀ (W : World) (o : Nat) (v : Value), Sb.Mod (fun k => k = g ∨ k = h) w W → Sb.Mod (fun k => k = g ∨ k = h) w (W.setCell ⟨h, o, none⟩ v) := fun W o v h => h.setCell (.inl (.inr rfl)) v
  have hmod : Sb.Mod (fun k => k = g ∨ k = h) w (((((w.setCell ⟨g, 0, none⟩ (.int .i64 z1)).setCell ⟨g, 1, none⟩ (.int .i64 z2)).setCell ⟨g, 2, none⟩ (.int .i64 z3)).setCell ⟨h, 1, none⟩ (.slice (some ⟨g, 0, none⟩) m c)).drew) :=
    (hs2 _ _ _ (hs _ _ _ (hs _ _ _ (hs _ _ _ (Mod.refl _ w))))).drew
  have hst : Sb.Own tEnt 213 (((w.setCell ⟨g, 0, none⟩ (.int .i64 z1)).setCell ⟨g, 1, none⟩ (.int .i64 z2)).setCell ⟨g, 2, none⟩ (.int .i64 z3)) (.slice (some ⟨g, 0, none⟩) l.length c) (l.set 0 ((z1, z2), z3)) := ent_store hrow (i := 0) (by omega) z1 z2 z3
  have hcut := own_take hst (m := m) (by simp; omega)
  have hb := blk_set (blk_set_ne (blk_set_ne (blk_set_ne hg (p := ⟨g, 0, none⟩) n1.symm (.int .i64 z1)) (p := ⟨g, 1, none⟩) n1.symm (.int .i64 z2)) (p := ⟨g, 2, none⟩) n1.symm (.int .i64 z3)) 1 (.slice (some ⟨g, 0, none⟩) m c)
  refine ⟨⟨⟨_, hb, ?_, ?_⟩, hm', hmod.cell h1 (fun e => e.elim n2.symm (fun e => h3 (show S b from (show b = h from e) ▸ hm'))), hmod.cell h2 (fun e => e.elim n3.symm (fun e => h4 (show S s from (show s = h from e) ▸ hm'))), h3, h4⟩, hmod⟩
  · refine (hcut.move tEnt_flatly (fun k e _ => Below.heap_setCell _ _ _ _ (fun e2 => ?_))).keep (keep_drew (Below.refl _ _))
    have e' : g = k := by simpa [Value.ownBlock] using e
    exact n1 (e'.trans e2)
  · intro k e
    have e' : g = k := by simpa [Value.ownBlock] using e
    exact e' ▸ hSg

set_option maxRecDepth 100000 in
set_option maxHeartbeats 2000000 in
theorem pop_any (S : Nat → Prop) (h b s : Nat) (l : List Ent) (w : World) (H0 : IsHeap S h b s l w) (ho : HeapOrd below l) (h0 : 0 < l.length) (hfew : l.length < 1099511627776) :
    Calls Try.prog 142 #[.pointer (some ⟨h, 0, none⟩)] w fun e w' =>
      e = .returned (.tuple #[.agg #[.int .i64 (nth l 0).1.1, .int .i64 (nth l 0).1.2, .int .i64 (nth l 0).2], .bool true]) ∧
      ∃ l', (nth l 0 :: l').Perm l ∧ HeapOrd below l' ∧ IsHeap S h b s l' w' ∧ Sb.Mod S w w' := by
  have H : IsHeap (fun k => S k ∧ k < w.heap.size) h b s l w := H0.mono (fun k hk hS => ⟨hS, hk⟩) (fun h => H0.notb h.1) (fun h => H0.nots h.1)
  obtain ⟨A, c, c0, c1, k1, k2, k3, hl⟩ := H.cells
  obtain ⟨g, o', c', e, _, _, hb', hat⟩ := ents_open hl h0
  injection e with e1 e2 e3
  subst e1 e3
  obtain ⟨rfl, n1, n2, n3, n4, hfr, hrow⟩ := H.row c1
  obtain ⟨m, hm⟩ : ∃ m, l.length = m + 1 := ⟨l.length - 1, by omega⟩
  obtain ⟨q0, q1, q2⟩ := hat m (by omega)
  obtain ⟨r0, r1, r2⟩ := hat 0 (by omega)
  simp only [Nat.zero_mul, Nat.zero_add] at q0 q1 q2 r0 r1 r2
  obtain ⟨⟨⟨t1, t2⟩, t3⟩, ht⟩ : ∃ x, nth l 0 = x := ⟨_, rfl⟩
  obtain ⟨⟨⟨z1, z2⟩, z3⟩, hz⟩ : ∃ x, nth l m = x := ⟨_, rfl⟩
  rw [ht] at r0 r1 r2
  rw [hz] at q0 q1 q2
  have hlt := H.lt
  have HH := hid H
  have HORD := hid ho
  have HM := hid hm
  have HT := hid ht
  have HZ := hid hz
  have HFR := hid hfr
  have HROW := hid hrow
  have HP := hid h0
  have HB' := hid hb'
  have HLT := hid hlt
  have HF := hid hfew
  have hmb : (m : Int) + 1 ≤ 1099511627776 := by omega
  rw [hm] at c1
  have hmc : m + 1 ≤ c := by omega
  have HG0 := hid H0
  clear H0
  clear hat hl H ho hm hfr hrow h0 hb' hlt hfew ht hz c0 k1 k3
  go_enter Try.func142, Try.ntmps142
  go_wp2_with fail
  refine (peek_any _ h b s l _ (HH.out.keep (keep_alloc (Below.refl _ w) _)) HP.out).mono ?_
  rintro e w1 ⟨rfl, hk⟩
  rw [HT.out]
  have K1 := hid (keep_trans (keep_alloc (Below.refl _ w) _) hk)
  have HB0 := hid (blk_keep (blk_new w (.cells #[.int .i64 0, .int .i64 0, .int .i64 0] 213)) hk)
  have K2 := hid (keep_alloc K1.out (.cells #[.int .i64 t1, .int .i64 t2, .int .i64 t3] 213))
  clear hk
  replace c1 := keep_cell K2.out c1
  replace q0 := keep_cell K2.out q0
  replace q1 := keep_cell K2.out q1
  replace q2 := keep_cell K2.out q2
  replace r0 := keep_cell K2.out r0
  replace r1 := keep_cell K2.out r1
  replace r2 := keep_cell K2.out r2
  have g0 := keep_frz K2.out HB'.out (HFR.out 0)
  have g1 := keep_frz K2.out HB'.out (HFR.out 1)
  have g2 := keep_frz K2.out HB'.out (HFR.out 2)
  obtain ⟨_, hHH, _⟩ := HH.out.ex
  have gh := keep_frz K2.out HLT.out (blk_free hHH 1)
  clear hHH
  go_wp2
  go_region
  go_wp2_with fail
  obtain ⟨W4, hW4⟩ : ∃ W4, W4 = (((((w1.alloc (.cells #[.int .i64 t1, .int .i64 t2, .int .i64 t3] 213)).setCell ⟨g, 0, none⟩ (.int .i64 z1)).setCell ⟨g, 1, none⟩ (.int .i64 z2)).setCell ⟨g, 2, none⟩ (.int .i64 z3)).setCell ⟨h, 1, none⟩ (.slice (some ⟨g, 0, none⟩) m c)).drew := ⟨_, rfl⟩
  have hpo := (HH.out.keep K2.out).popped (by rw [HM.out]; exact c1) HM.out z1 z2 z3 hW4
  rw [← hW4]
  have M4 := hid ((Mod.of_keep (S := fun k => S k ∧ k < w.heap.size) K2.out).trans (hpo.2.mono (fun k hk e => by
    rcases e with rfl | rfl
    · exact .inl n4
    · exact .inl HH.out.mine)))
  have B0 := hid (blk_mod (blk_alloc HB0.out (.cells #[.int .i64 t1, .int .i64 t2, .int .i64 t3] 213)) hpo.2 (fun e => by
    have := HB'.out; have := HLT.out; omega))
  have hs1 : w.heap.size ≤ w1.heap.size := K1.out.size
  have B4 := hid (blk_mod (blk_new w1 (.cells #[.int .i64 t1, .int .i64 t2, .int .i64 t3] 213)) hpo.2 (fun e => by
    have := HB'.out; have := HLT.out; omega))
  have HI4 := hid hpo.1
  clear hpo
  have hset : nth l (l.length - 1) = ((z1, z2), z3) := by rw [HM.out]; exact HZ.out
  have htake : (l.set 0 ((z1, z2), z3)).take m = l.dropLast.set 0 ((z1, z2), z3) := by
    rw [← dropLast_set0, List.dropLast_eq_take]; simp [HM.out]
  have hdn : DownInv below ((l.set 0 ((z1, z2), z3)).take m) 0 := by rw [htake]; exact down_start (heap_dropLast HORD.out)
  have hperm : (nth l 0 :: ((l.set 0 ((z1, z2), z3)).take m)).Perm l := by
    rw [htake, ← dropLast_set0, ← hset]; exact pop_perm HP.out
  have hfw : ((l.set 0 ((z1, z2), z3)).take m).length < 1099511627776 := by have := HF.out; have := HM.out; simp; omega
  have HPE := hid hperm
  refine (sink_any _ h b s _ _ HI4.out hdn hfw).mono ?_
  clear hW4 hset htake hdn hperm hfw c1 q0 q1 q2 r0 r1 r2 g0 g1 g2 gh
  rintro e w5 ⟨⟨v, rfl⟩, l', hp, hord, hheap, hmod⟩
  have B05 := blk_mod B0.out hmod (fun e => by have := e.2; omega)
  have B45 := blk_mod B4.out hmod (fun e => by have := e.2; omega)
  have d0 : w5.cell? ⟨w1.heap.size, 0, none⟩ = some (.int .i64 t1) := blk_cell B45 0
  have d1 : w5.cell? ⟨w1.heap.size, 1, none⟩ = some (.int .i64 t2) := blk_cell B45 1
  have d2 : w5.cell? ⟨w1.heap.size, 2, none⟩ = some (.int .i64 t3) := blk_cell B45 2
  have y0 : w5.cell? ⟨w.heap.size, 0, none⟩ = some (.int .i64 0) := blk_cell B05 0
  have y1 : w5.cell? ⟨w.heap.size, 1, none⟩ = some (.int .i64 0) := blk_cell B05 1
  have y2 : w5.cell? ⟨w.heap.size, 2, none⟩ = some (.int .i64 0) := blk_cell B05 2
  have x0 := blk_free B05 0
  have x1 := blk_free B05 1
  have x2 := blk_free B05 2
  have HB5 := hid B05
  have HHE := hid hheap
  have HMO := hid hmod
  have HPP := hid hp
  have HOO := hid hord
  clear B05 B45 hheap hmod hp hord
  go_wp2
  have hK : Sb.Mod (fun k => S k ∧ k < w.heap.size) w (((w5.setCell ⟨w.heap.size, 0, none⟩ (.int .i64 t1)).setCell ⟨w.heap.size, 1, none⟩ (.int .i64 t2)).setCell ⟨w.heap.size, 2, none⟩ (.int .i64 t3)) :=
    (((M4.out.trans (HMO.out.mono (fun k _ h => .inl h))).setCell (p := ⟨w.heap.size, 0, none⟩) (.inr (Nat.le_refl _)) _).setCell (p := ⟨w.heap.size, 1, none⟩) (.inr (Nat.le_refl _)) _).setCell (p := ⟨w.heap.size, 2, none⟩) (.inr (Nat.le_refl _)) _
  refine bodyPost_ret (results_row2 rfl _ _ w.heap.size 213 _ (0, 0) _ rfl (blk_set (blk_set (blk_set HB5.out 0 _) 1 _) 2 _) Try.underlying213 rfl (by kernel_rfl)) rfl ⟨?_, l', ?_, HOO.out, ?_, hK.mono (fun k _ h => h.1)⟩
  · rw [HT.out]
    rfl
  · exact (List.Perm.cons _ HPP.out).trans HPE.out
  · refine IsHeap.mono (S := fun k => S k ∧ k < w.heap.size) ?_ (fun k _ h => h.1) HG0.out.notb HG0.out.nots
    refine HHE.out.move (fun k hk hlt => ?_)
    have hne : k ≠ w.heap.size := by
      rcases hk with h | rfl | rfl
      · have := h.2; omega
      · exact Nat.ne_of_lt (World.block_lt_of_cell? _ _ HH.out.box)
      · exact Nat.ne_of_lt (World.block_lt_of_cell? _ _ HH.out.sel)
    rw [Below.heap_setCell _ _ _ _ hne, Below.heap_setCell _ _ _ _ hne, Below.heap_setCell _ _ _ _ hne]
end Go.Proofs.Ytoligbmcceindaa
