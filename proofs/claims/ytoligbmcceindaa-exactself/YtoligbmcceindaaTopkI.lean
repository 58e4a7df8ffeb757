/- Contracts: the selector's List. -/
import Derived.Test.YtoligbmcceindaaTopkH
import Derived.Shelf.Abstract
set_option linter.unusedVariables false
set_option linter.unusedSimpArgs false
namespace Go.Proofs.Ytoligbmcceindaa
open Go.RowKit Go.Sb
attribute [local go_sem] Oper.semAt_some

theorem info_res : (Try.prog.info? 33).map (fun i => (i.zero, i.size, i.bytes)) = some (some (.agg #[.int .i64 0, .int .i64 0]), tRes.sz, 16) := by kernel_rfl

set_option maxRecDepth 100000 in
set_option maxHeartbeats 4000000 in
theorem list_any (S : Nat → Prop) (s : Nat) (most : Int) (xs : List Res) (w : World) (H : IsSel S s most xs w) (hS : ∀ k, S k → k < w.heap.size) (hfew : xs.length < 1073741824) :
    Calls Try.prog 101 #[.pointer (some ⟨s, 0, none⟩)] w fun e w' => ∃ v out, e = .returned v ∧ Sb.Own tRes 33 w' v (out.map (·.1)) ∧ Kept nearer most.toNat (stamped xs) out ∧
      out.Pairwise (fun x y => Sb.ahead nearer y x = false) ∧ (∀ k, v.ownBlock = some k → w.heap.size ≤ k) ∧ Sb.Mod S w w' := by
  obtain ⟨h, b, Sh, kept, hs, hh0, ho, h1, h2, h3, hkept⟩ := H.ex
  have hh : IsHeap (fun k => Sh k ∧ k < w.heap.size) h b s kept w := hh0.mono (fun k hk hs => ⟨hs, hk⟩) (fun h => hh0.notb h.1) (fun h => hh0.nots h.1)
  have hkl := hkept.len
  rw [stamped_length] at hkl
  have hlen40 : Hid (kept.length < 1099511627776) := by show _ < _; omega
  have K0 := keep_alloc (Below.refl _ w) (.cells #[.slice none 0 0] 218)
  have c2 : (w.alloc (.cells #[.slice none 0 0] 218)).cell? ⟨s, 2, none⟩ = some (.pointer (some ⟨h, 0, none⟩)) := blk_cell (blk_keep hs K0) 2
  have HS := hid hs
  have HH := hid hh
  have HO := hid ho
  have H1 := hid h1
  have HKT := hid hkept
  have HSS := hid hS
  have HF := hid hfew
  have hslt := lt_of_some hs
  have hblt : b < w.heap.size := World.block_lt_of_cell? _ _ hh0.box
  have HSL := hid hslt
  have HBL := hid hblt
  have HK0 := hid K0
  clear H hs hh hh0 ho h1 hkept hS hfew hslt hblt hkl K0
  refine (callsIn_wide (n := 9)).1 ?_
  refine callsIn_of_wp_marks Try.func101 rfl trivial ?_
  simp only [Try.ntmps101, List.size_toArray, List.length_cons, List.length_nil, Nat.reduceAdd, Nat.reduceSub, Array.replicate_succ, Array.replicate_zero, List.push_toArray, List.append_toArray, List.nil_append, List.cons_append]
  gi_wp2_with fail
  refine ⟨trivial, ?_⟩
  refine (callsIn_wide.2 (drain_any h _)).mono ?_
  rintro e w2 ⟨rfl, hb2, hk2⟩
  have hA2 := blk_keep (blk_new w (.cells #[.slice none 0 0] 218)) hk2
  have K2 := keep_trans HK0.out hk2
  have HB2 := hid hb2
  have HA2 := hid hA2
  have HK2 := hid K2
  have hsz2 : w.heap.size + 1 < w2.heap.size := by have := lt_of_some hb2; rw [World.size_alloc] at this; exact this
  rw [World.size_alloc] at HB2 ⊢
  have HZ2 := hid hsz2
  clear hb2 hk2 hA2 K2 hsz2
  gi_wp2_with fail
  have hit := drain_iter (fun k => Sh k ∧ k < w.heap.size) h b s (w.heap.size + 1) kept w2 (HH.out.keep HK2.out) HO.out (blk_cell HB2.out 0) (fun k hk => by have := HZ2.out; have := hk.2; omega) (fun h => by have := h.2; omega) hlen40.out
  refine range_law rfl (enters_of Try.func161 (by kernel_rfl) rfl) hit (fun _ => rfl) ?hT
    (fun pre S1 W => ∃ v, W.heap[w.heap.size]? = some (.cells #[v] 218 (0, 0)) ∧ Sb.Own tEnt 213 W v pre ∧ (∀ k, v.ownBlock = some k → S1 k) ∧ S1 w.heap.size) (fun _ _ _ _ => False) ?hI (fun _ _ _ _ _ h _ _ => h)
    (fun k => k = w.heap.size) ?h0 ?hS0 ?hdis
    (fun x B a' W => W.heap[B]? = some (.cells #[.int .i64 x.1.1, .int .i64 x.1.2, .int .i64 x.2] 213 (0, 0)) ∧ a' = { tmps := #[.pointer (some ⟨s, 0, none⟩), undef, .slice none 0 0, .pointer (some ⟨w.heap.size, 0, none⟩), .pointer (some ⟨B, 0, none⟩), undef, undef, undef, .pointer (some ⟨s, 0, none⟩), .pointer (some ⟨s, 0, none⟩), .pointer (some ⟨s, 2, none⟩), .pointer (some ⟨h, 0, none⟩), .func (.func 161) #[] #[.pointer (some ⟨w.heap.size + 1, 0, none⟩)], .agg #[.int .i64 x.1.1, .int .i64 x.1.2, .int .i64 x.2], undef, undef, undef, undef, undef, undef, undef, undef, undef, undef, undef, undef, undef, undef, undef, undef, undef, undef, undef, undef, undef, undef, undef, undef, undef], defers := [] })
    ?hAx ?hassign ?hbody ?hdone ?hJ (fun _ _ _ _ _ _ _ _ _ _ _ h _ => h.elim)
  case hT =>
    rintro k (h | rfl | rfl | rfl)
    · have := HZ2.out; have := h.2; omega
    · have := HZ2.out; have := HBL.out; omega
    · have := HZ2.out; have := HSL.out; omega
    · exact HZ2.out
  case hI =>
    rintro pre S1 W W' ⟨v, h1, h2, h3, h4⟩ ha hsz
    exact ⟨v, ha.at h1 h4, h2.move tEnt_flatly (fun k e hlt => ha k (h3 k e) hlt), h3, h4⟩
  case h0 => exact ⟨_, HA2.out, Own.nil _ _ _, fun k e => by simp [Value.ownBlock] at e, rfl⟩
  case hS0 => rintro k rfl; have := HZ2.out; omega
  case hdis =>
    rintro k (h | h | h | h) e
    · have := h.2; omega
    · have := HBL.out; omega
    · have := HSL.out; omega
    · omega
  case hAx =>
    rintro x B a' W W' ⟨h1, h2⟩ hk hsz
    have hlt := lt_of_some h1
    exact ⟨(hk B (Nat.le_refl _) hlt).trans h1, h2⟩
  case hassign =>
    rintro l ⟨⟨x1, x2⟩, x3⟩ W m K hK
    simp only [entArg]
    gi_wp2
    exact hK _ _ (keep_alloc (Below.refl _ W) _) ⟨blk_new W _, rfl⟩
  case hbody =>
    rintro l pre ⟨⟨x1, x2⟩, x3⟩ S1 W m B a' ⟨v, hA, hown, hSv, hSa⟩ ⟨hB, rfl⟩ hWs hBs hS1 hok hl hr hnl
    obtain ⟨A, c, rfl, hc1, hc2⟩ := hown.form
    have hne : Hid (∀ k, (Value.slice A pre.length c).ownBlock = some k → k ≠ w.heap.size) := by
      intro k hk e
      subst e
      obtain ⟨cs, hc⟩ := hown.typed hk
      rw [hA] at hc
      injection hc with hc
      injection hc with _ hc _
      exact absurd hc (by decide)
    have K := keep_alloc (Below.refl _ W) (.cells #[.int .i64 x1, .int .i64 x2, .int .i64 x3] 213)
    have HOX : Hid (Sb.Own tEnt 213 (W.alloc (.cells #[.int .i64 x1, .int .i64 x2, .int .i64 x3] 213)) (.slice A pre.length c) pre) := hown.keep K
    have HBX : Hid (ents (W.alloc (.cells #[.int .i64 x1, .int .i64 x2, .int .i64 x3] 213)) (.slice (some ⟨W.heap.size, 0, none⟩) 1 1) [((x1, x2), x3)]) := Lies.box (w := w) (e := 213) (c := [.int .i64 x1, .int .i64 x2, .int .i64 x3]) rfl (blk_new _ _)
    have hbytes : Hid ((pre.length + 1) * 24 ≤ 140737488355328) := by
      have := hlen40.out
      have h1 : pre.length + 1 ≤ kept.length := by simpa using hok
      show _ ≤ _
      omega
    have a0 : W.cell? ⟨w.heap.size, 0, none⟩ = some (.slice A pre.length c) := blk_cell hA 0
    have A1 := hid (blk_keep hA K)
    have C1 := hid (keep_cell K a0)
    have F1 := hid (blk_free A1.out 0)
    have b0 : W.cell? ⟨B, 0, none⟩ = some (.int .i64 x1) := blk_cell hB 0
    have b1 : W.cell? ⟨B, 1, none⟩ = some (.int .i64 x2) := blk_cell hB 1
    have b2 : W.cell? ⟨B, 2, none⟩ = some (.int .i64 x3) := blk_cell hB 2
    have HK := hid K
    have HSV := hid hSv
    clear hA hown hSv hB K hok hr hc2 hit
    gi_wp2_with (gi_at_builtin; refine wpListIn_app (d := tEnt) rfl _ _ 218 213 (.agg #[.int .i64 0, .int .i64 0, .int .i64 0]) 24 rfl Try.underlying218 info_ent rfl (by decide) (.slice A pre.length c) _ pre [((x1, x2), x3)] rfl rfl HOX.out HBX.out hbytes.out (flat_any tEnt_flatly _ _ _) ?_; intro v' w1 hown1 hgrow hat; obtain ⟨A', c', rfl, hc1', hc2'⟩ := hown1.form; have d2 := hgrow.cell C1.out (fun e => hne.out _ e.symm rfl); have g2 := grown_free hgrow C1.out F1.out (fun e => hne.out _ e.symm rfl); have HW := hid hown1; have HGR := hid hgrow; have HAT := hid hat; clear hown1 hgrow hat)
    have hA2 := HGR.out.block w.heap.size (lt_of_some A1.out) (fun e => hne.out _ e.symm rfl)
    have hA3 := blk_set (hA2.trans A1.out) 0 (Value.slice A' (pre.length + 1) c')
    have hlen1 : (pre ++ [((x1, x2), x3)]).length = pre.length + 1 := by simp
    rw [hlen1] at HW HAT
    have hne2 : ∀ k, (Value.slice A' (pre.length + 1) c').ownBlock = some k → k ≠ w.heap.size := by
      intro k hk e
      subst e
      obtain ⟨cs, hc⟩ := HW.out.typed hk
      rw [hA2.trans A1.out] at hc
      injection hc with hc
      injection hc with _ hc _
      exact absurd hc (by decide)
    refine ⟨fun k => S1 k ∨ W.heap.size ≤ k, fun k h => h, ?_, _, hA3, HW.out.move tEnt_flatly (fun k e _ => Below.heap_setCell _ _ _ _ (fun e2 => hne2 k e e2)), ?_, .inl hSa⟩
    · exact ((Mod.of_keep HK.out).trans (Mod.of_grown HGR.out (fun k e => .inl (HSV.out k e)))).setCell (p := ⟨w.heap.size, 0, none⟩) (.inl hSa) _
    · intro k hk
      rcases HAT.out with e2 | e2
      · exact .inl (HSV.out k (e2 ▸ hk))
      · rw [e2] at hk
        injection hk with hk
        exact .inr (by rw [← hk]; simp)
  case hdone =>
    rintro D out S3 W ⟨hperm, hpw⟩ hDs hnD hD hS3 hmod ⟨v, hA, hown, hSv, hSa⟩ ⟨rest, j1, j2, j3, j4, j5⟩
    have hr0 : rest = [] := by
      have h1 := j1.length_eq
      have h2 := hperm.length_eq
      rw [List.length_append] at h1
      exact List.eq_nil_of_length_eq_zero (by omega)
    subst hr0
    have hszW : w2.heap.size ≤ W.heap.size := hmod.size
    have hHS := blk_mod (blk_keep HS.out HK2.out) hmod (fun e => e.elim (fun e => by have := HSL.out; omega) (fun e => HH.out.nots e))
    have hmodS : Sb.Mod S w W := (Mod.of_keep HK2.out).trans (hmod.mono (fun k _ e => e.elim (fun e => .inr (by omega)) (fun e => .inl (H1.out k e.1))))
    have hvn : ∀ k, v.ownBlock = some k → w.heap.size ≤ k ∧ k ≠ D ∧ k ≠ w.heap.size := fun k hk => by
      refine ⟨?_, ?_, ?_⟩
      · rcases hS3 k (hSv k hk) with e | e
        · omega
        · have := HZ2.out; omega
      · rintro rfl; exact hnD (hSv _ hk)
      · rintro rfl
        obtain ⟨cs, hc⟩ := hown.typed hk
        rw [hA] at hc
        injection hc with hc
        injection hc with _ hc _
        exact absurd hc (by decide)
    obtain ⟨A, c, rfl, hc1, hc2⟩ := hown.form
    have a0 : W.cell? ⟨w.heap.size, 0, none⟩ = some (.slice A out.length c) := blk_cell hA 0
    have hlo := hperm.length_eq
    have HL40 : Hid (out.length < 1099511627776) := by have := hlen40.out; show _ < _; omega
    have HPERM := hid hperm
    have HPW := hid hpw
    have HOWN := hid hown
    have HAW := hid hA
    have HVN := hid hvn
    have HHS := hid hHS
    have HMS := hid hmodS
    have HJ5 := hid j5
    have HDD := hid hD
    have HDW := hid hDs
    have HWS := hid hszW
    clear hperm hpw hA hown hSv hSa j1 j2 j3 j4 j5 hmod hHS hmodS hvn hD hDs hnD hS3 hszW hlo hit hc2
    simp only [Exit.inBlock, Exit.then]
    rename_i K0 hK0
    refine hK0 _ _ (wpIn_wide.2 ?_)
    clear hK0
    go_wp2_with fail
    refine (reverse_any _ out W HOWN.out HL40.out).mono ?_
    rintro e w4 ⟨⟨u0, rfl⟩, hown4, hmod4⟩
    obtain ⟨L, hL⟩ : ∃ L, out.reverse = L := ⟨_, rfl⟩
    have hLl : L.length = out.length := by rw [← hL]; simp
    rw [hL] at hown4
    have hv4 : ∀ k, (Value.slice A out.length c).ownBlock = some k → w.heap.size ≤ k ∧ k ≠ D ∧ k ≠ w.heap.size ∧ k < w4.heap.size := fun k hk => ⟨(HVN.out k hk).1, (HVN.out k hk).2.1, (HVN.out k hk).2.2, Nat.lt_of_lt_of_le (HOWN.out.lt hk) hmod4.size⟩
    have a4 : w4.cell? ⟨w.heap.size, 0, none⟩ = some (.slice A out.length c) := hmod4.cell a0 (fun e => (HVN.out _ e).2.2 rfl)
    have S4 := hid (blk_mod HHS.out hmod4 (fun e => by have := (HVN.out _ e).1; have := HSL.out; omega))
    have D4 := hid (blk_mod HDD.out hmod4 (fun e => (HVN.out _ e).2.1 rfl))
    have J4 : Hid (IsHeap (fun k => Sh k ∧ k < w.heap.size) h b s [] w4) := HJ5.out.move (fun k hk hlt => hmod4.block k hlt (fun e => by
      have := (HVN.out _ e).1
      rcases hk with e | rfl | rfl
      · have := e.2; omega
      · have := HBL.out; omega
      · have := HSL.out; omega))
    have M4 : Hid (Sb.Mod S w w4) := HMS.out.trans (hmod4.mono (fun k _ e => .inr (HVN.out k e).1))
    have V4 := hid hv4
    have O4 := hid hown4
    have Z4 : Hid (w.heap.size + 1 < w4.heap.size ∧ D < w4.heap.size) := ⟨by have := HZ2.out; have := HWS.out; have := hmod4.size; omega, Nat.lt_of_lt_of_le (lt_of_some HDD.out) hmod4.size⟩
    rw [← hLl] at a4 V4 O4
    have hnA : L.length ≤ c := by omega
    have HLl := hid hLl
    have HL := hid hL
    clear hv4 hown4 hmod4 a0 hc1 HOWN HAW HVN HHS HMS HJ5 HDD hLl hL
    have HLN : Hid (L.length < 1099511627776) := by rw [HLl.out]; exact HL40.out
    go_wp2
    clear a4
    go_loopw [5, 22] (fun ov kv wr => ∃ (i : Nat) (u : Value) (hl : List Ent) (Sx : Nat → Prop), ov = u ∧ kv = .int .i64 i ∧ i ≤ L.length ∧ Hid (Sb.Own tRes 33 wr u ((L.take i).map (·.1))) ∧ Hid (∀ k, u.ownBlock = some k → w4.heap.size ≤ k ∧ ¬ Sx k) ∧
      Hid (IsHeap Sx h b s hl wr) ∧ Hid (HeapOrd below hl) ∧ Hid (hl.length = i) ∧ Hid (∀ k, Sx k → ((Sh k ∧ k < w.heap.size) ∨ w4.heap.size ≤ k) ∧ k < wr.heap.size) ∧
      Hid (Sb.Own tEnt 213 wr (.slice A L.length c) L) ∧ Hid (wr.heap[s]? = some (.cells #[.func (.func 60) #[] #[], .int .i64 most, .pointer (some ⟨h, 0, none⟩), .int .i64 xs.length] 210 (0, 0))) ∧
      Hid (wr.heap[D]? = some (.deferred (some []))) ∧ Hid (w4.heap.size ≤ wr.heap.size) ∧ Hid (Sb.Mod S w wr)) (fun ov kv _ => L.length - (intOf kv).toNat)
    case atStart => exact ⟨0, _, [], _, rfl, rfl, by omega, Own.nil _ _ _, fun k e => by simp [Value.ownBlock] at e, J4, fun i h0 hi => by simp at hi, rfl, fun k hk => ⟨.inl hk, by have := Z4.out; have := hk.2; omega⟩, O4, S4, D4, Nat.le_refl _, M4⟩
    case round =>
      obtain ⟨i, u, hl, Sx, hu, rfl, hi, hou, hun, hheap, hord, hll, hsx, hov, hsel, hdd, hzz, hms⟩ := hrel
      replace hu := hu.symm
      subst hu
      clear O4 S4 D4 J4 M4
      by_cases hlt : i < L.length
      · obtain ⟨g, o', c'', e, _, _, hb', hat⟩ := ents_open hov.out.lies (by omega)
        injection e with e1 e2 e3
        subst e1 e3
        obtain ⟨rfl, he, _, _⟩ := hov.out.block rfl
        clear he
        obtain ⟨q0, q1, q2⟩ := hat i hlt
        rw [Nat.zero_add] at q0 q1 q2
        obtain ⟨⟨⟨y1, y2⟩, y3⟩, hy⟩ : ∃ x, nth L i = x := ⟨_, rfl⟩
        rw [hy] at q0 q1 q2
        have hii : (i : Int) < (L.length : Int) := by omega
        have HY := hid hy
        have HLT := hid hlt
        clear hat hy hlt hb' e2
        obtain ⟨Wa, hWa⟩ : ∃ Wa, wr.alloc (.cells #[.int .i64 y1, .int .i64 y2, .int .i64 y3] 213) = Wa := ⟨_, rfl⟩
        have KA : Keep wr Wa := by rw [← hWa]; exact keep_alloc (Below.refl _ wr) _
        have EA : Wa.heap[wr.heap.size]? = some (.cells #[.int .i64 y1, .int .i64 y2, .int .i64 y3] 213 (0, 0)) := by rw [← hWa]; exact blk_new wr _
        have HKA := hid KA
        have HEA := hid EA
        have e0 : Wa.cell? ⟨wr.heap.size, 0, none⟩ = some (.int .i64 y1) := blk_cell EA 0
        have e1 : Wa.cell? ⟨wr.heap.size, 1, none⟩ = some (.int .i64 y2) := blk_cell EA 1
        have e2 : Wa.cell? ⟨wr.heap.size, 2, none⟩ = some (.int .i64 y3) := blk_cell EA 2
        have c2s : Wa.cell? ⟨s, 2, none⟩ = some (.pointer (some ⟨h, 0, none⟩)) := blk_cell (blk_keep hsel.out KA) 2
        have hn1 : Hid (¬ Sx s) := hheap.out.nots
        have hn2 : Hid (¬ Sx wr.heap.size) := fun h => by have := (hsx.out _ h).2; omega
        have hll6 : Hid (hl.length < 1099511627776) := by have := hll.out; have := HLN.out; have := HLT.out; show _ < _; omega
        clear KA EA
        go_wp2_with fail
        go_region_held3 (fun w' => w'.cell? ⟨s, 2, none⟩ = some (.pointer (some ⟨h, 0, none⟩)) ∧ w'.cell? ⟨wr.heap.size, 0, none⟩ = some (.int .i64 y1) ∧ w'.cell? ⟨wr.heap.size, 1, none⟩ = some (.int .i64 y2) ∧ w'.cell? ⟨wr.heap.size, 2, none⟩ = some (.int .i64 y3))
          (first | go_keep | exact ⟨hm'.cell c2s hn1.out, hm'.cell e0 hn2.out, hm'.cell e1 hn2.out, hm'.cell e2 hn2.out⟩)
          (first | (go_at_call 140; refine (push_any Sx h b s hl y1 y2 y3 Wa.drew ((hheap.out.keep HKA.out).keep (same_keep rfl rfl rfl rfl)) hord.out hll6.out).mono ?_; rintro e w5 ⟨⟨v, rfl⟩, hl', hp, ho', hh', hm'⟩))
        have f0 := hm'.cell (show Wa.drew.cell? ⟨wr.heap.size, 0, none⟩ = _ from e0) hn2.out
        have f1 := hm'.cell (show Wa.drew.cell? ⟨wr.heap.size, 1, none⟩ = _ from e1) hn2.out
        have f2 := hm'.cell (show Wa.drew.cell? ⟨wr.heap.size, 2, none⟩ = _ from e2) hn2.out
        have HM := hid hm'
        have HPE := hid hp
        have HOR := hid ho'
        have HHE := hid hh'
        have KD : Hid (Keep wr Wa.drew) := keep_drew HKA.out
        have hm5 : Hid (Sb.Mod Sx wr w5) := (Mod.of_keep KD.out).trans (HM.out.mono (fun k _ h => .inl h))
        rename_i hHeld
        clear hm' hp ho' hh' hHeld e0 e1 e2 c2s hWa
        have U5 : Hid (Sb.Own tRes 33 w5 u ((L.take i).map (·.1))) := hou.out.move tRes_flatly (fun k e hlt => hm5.out.block k hlt (hun.out k e).2)
        have KB := keep_alloc (Below.refl _ w5) (.cells #[.int .i64 y1, .int .i64 y2] 33)
        have HOX : Hid (Sb.Own tRes 33 (w5.alloc (.cells #[.int .i64 y1, .int .i64 y2] 33)) u ((L.take i).map (·.1))) := U5.out.keep KB
        have HBX : Hid (ress (w5.alloc (.cells #[.int .i64 y1, .int .i64 y2] 33)) (.slice (some ⟨w5.heap.size, 0, none⟩) 1 1) [(y1, y2)]) := Lies.box (w := w) (e := 33) (c := [.int .i64 y1, .int .i64 y2]) rfl (blk_new _ _)
        have HKB := hid KB
        clear KB
        go_wp2_with (at_builtin; refine wpList_app (d := tRes) rfl _ _ 27 33 (.agg #[.int .i64 0, .int .i64 0]) 16 rfl Try.underlying27 info_res rfl (by decide) u _ ((L.take i).map (·.1)) [(y1, y2)] rfl rfl HOX.out HBX.out ?h1 (flat_any tRes_flatly _ _ _) ?_; (case h1 => have h5 := HLN.out; simp only [List.length_map, List.length_take, List.length_cons, List.length_nil]; omega); intro v' w6 hown1 hgrow hat; have HW := hid hown1; have HGR := hid hgrow; have HAT := hid hat; clear hown1 hgrow hat)
        have hsz5 : wr.heap.size ≤ w5.heap.size := hm5.out.size
        have hszA : wr.heap.size ≤ Wa.heap.size := HKA.out.size
        have hsz6 : w5.heap.size + 1 ≤ w6.heap.size := by have := HGR.out.size; rw [World.size_alloc] at this; exact this
        have hz4 := hzz.out
        have hzw := Z4.out
        have hkeep6 : ∀ k, k < w5.heap.size → u.ownBlock ≠ some k → w6.heap[k]? = w5.heap[k]? := fun k hk hu =>
          (HGR.out.block k (by rw [World.size_alloc]; omega) (fun e => hu e.symm)).trans (HKB.out.block k hk)
        have hkeep : ∀ k, k < wr.heap.size → ¬ Sx k → u.ownBlock ≠ some k → w6.heap[k]? = wr.heap[k]? := fun k hk hs hu =>
          (hkeep6 k (by omega) hu).trans (hm5.out.block k hk hs)
        have hSxs : ∀ k, Sx k → S k ∨ w.heap.size ≤ k := fun k hk => by
          rcases (hsx.out k hk).1 with e | e
          · exact .inl (H1.out k e.1)
          · exact .inr (by omega)
        have hul : ∀ k, u.ownBlock = some k → k < wr.heap.size := fun k hk => hou.out.lt hk
        have hms6 : Sb.Mod S w w6 := ((hms.out.trans (hm5.out.mono (fun k _ h => hSxs k h))).trans (Mod.of_keep HKB.out)).trans (Mod.of_grown HGR.out (fun k e => .inr (by have := (hun.out k e).1; omega)))
        have hbs : b < w4.heap.size ∧ s < w4.heap.size := ⟨by have := HBL.out; omega, by have := HSL.out; omega⟩
        have hheap6 : IsHeap (fun k => (Sx k ∨ Wa.heap.size ≤ k) ∧ k < w5.heap.size) h b s hl' w6 := by
          have h0 : IsHeap (fun k => (Sx k ∨ Wa.heap.size ≤ k) ∧ k < w5.heap.size) h b s hl' w5 := HHE.out.mono (fun k hk h => ⟨h, hk⟩)
            (fun h => h.1.elim hheap.out.notb (fun h => by omega)) (fun h => h.1.elim hheap.out.nots (fun h => by omega))
          refine h0.move (fun k hk hlt => hkeep6 k hlt (fun e => ?_))
          have hk4 := hun.out k e
          have hkl := hul k e
          rcases hk with h | rfl | rfl
          · exact h.1.elim hk4.2 (fun h => by omega)
          · omega
          · omega
        have htake : (L.take (i + 1)).map (·.1) = (L.take i).map (·.1) ++ [((y1, y2) : Res)] := by
          rw [List.take_succ_eq_append_getElem HLT.out, List.map_append, ← nth_eq HLT.out, HY.out]
          rfl
        have hw6 : Sb.Own tRes 33 w6 v' ((L.take (i + 1)).map (·.1)) := by rw [htake]; exact HW.out
        have hown6 : ∀ k, v'.ownBlock = some k → w4.heap.size ≤ k ∧ ¬ ((Sx k ∨ Wa.heap.size ≤ k) ∧ k < w5.heap.size) := fun k hk => by
          rcases HAT.out with e | e
          · rw [e] at hk
            have h4 := hun.out k hk
            have hkl := hul k hk
            exact ⟨h4.1, fun h => h.1.elim h4.2 (fun h => by omega)⟩
          · rw [e, World.size_alloc] at hk
            injection hk with hk
            exact ⟨by omega, fun h => by have := h.2; omega⟩
        have hov6 : Sb.Own tEnt 213 w6 (.slice (some ⟨g, 0, none⟩) L.length c) L := hov.out.move tEnt_flatly (fun k e hlt => by
          have h4 := V4.out k e
          refine hkeep k hlt (fun h => ?_) (fun h => ?_)
          · rcases (hsx.out k h).1 with e | e
            · have := e.2; omega
            · omega
          · have := (hun.out k h).1; omega)
        have hsel6 := (hkeep s (lt_of_some hsel.out) hheap.out.nots (fun h => by have := (hun.out s h).1; omega)).trans hsel.out
        have hdd6 := (hkeep D (lt_of_some hdd.out) (fun h => by
          rcases (hsx.out D h).1 with e | e
          · have := e.2; have := HDW.out; have := HZ2.out; omega
          · omega) (fun h => by have := (hun.out D h).1; omega)).trans hdd.out
        have hhl : hl'.length = i + 1 := by have := HPE.out.length_eq; have := hll.out; simp at *; omega
        have P1 := hid hheap6
        have P2 := hid hw6
        have P3 := hid hown6
        have P4 := hid hov6
        have P5 := hid hsel6
        have P6 := hid hdd6
        have P7 := hid hhl
        have P8 := hid hms6
        have P9 : Hid (w4.heap.size ≤ w6.heap.size) := by show _ ≤ _; omega
        have P0 : Hid (∀ k, ((Sx k ∨ Wa.heap.size ≤ k) ∧ k < w5.heap.size) → ((Sh k ∧ k < w.heap.size) ∨ w4.heap.size ≤ k) ∧ k < w6.heap.size) := fun k hk => by
          refine ⟨?_, by omega⟩
          rcases hk.1 with e | e
          · exact (hsx.out k e).1
          · exact .inr (by omega)
        have hi1 : i + 1 ≤ L.length := HLT.out
        clear hsz5 hszA hsz6 hz4 hzw hkeep6 hkeep hSxs hul hms6 hbs hheap6 htake hw6 hown6 hov6 hsel6 hdd6 hhl
        go_roundw
        case rel => exact ⟨i + 1, v', hl', _, rfl, by go_num, hi1, P2, P3, P1, HOR, P7, P0, P4, P5, P6, P9, P8⟩
        case measure => simp [intOf]; omega
      · have hge : ¬ ((i : Int) < (L.length : Int)) := by omega
        have hiL : i = L.length := by omega
        have HIL := hid hiL
        clear hlt hiL
        go_wp2
        refine ⟨by simp, .inl ⟨_, _, rfl, run_takeDeferred hdd.out, ?_⟩⟩
        have hdw := HDW.out
        have hz2 := HZ2.out
        have hz4 := Z4.out
        have hkp : ∀ k, k ≠ D → (wr.putObj D (.deferred none)).heap[k]? = wr.heap[k]? := fun k hk => World.putObj_heap_other hk
        refine ⟨_, results_tmp rfl _ _ _, u, rfl, L, ?_, ?_, ?_, ?_, ?_⟩
        · have := hou.out
          rw [HIL.out, List.take_length] at this
          exact this.move tRes_flatly (fun k e hlt => hkp k (by have := (hun.out k e).1; omega))
        · rw [← HL.out]
          exact HKT.out.perm ((List.reverse_perm _).trans HPERM.out)
        · rw [← HL.out, List.pairwise_reverse]
          exact HPW.out
        · exact fun k e => by have := (hun.out k e).1; omega
        · exact hms.out.trans (put_mod (.inl (.inr (by omega))) _)
  case hJ =>
    rintro pre W W' ⟨rest, j1, j2, j3, j4, j5⟩ ha hsz
    exact ⟨rest, j1, j2, j3, j4, j5.move (fun k hk hlt => ha k (by rcases hk with e | e | e; exact .inl e; exact .inr (.inl e); exact .inr (.inr (.inl e))) hlt)⟩
end Go.Proofs.Ytoligbmcceindaa
