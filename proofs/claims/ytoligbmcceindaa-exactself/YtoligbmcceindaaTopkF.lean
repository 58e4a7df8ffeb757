/- Contracts: the selector of the first few (topk at results): Len, Offer. -/
import Derived.Test.YtoligbmcceindaaTopkE
import Derived.StillTailTactics
set_option linter.unusedVariables false
set_option linter.unusedSimpArgs false
namespace Go.Proofs.Ytoligbmcceindaa
open Go.RowKit Go.Sb

theorem mixed_prog : Try.prog.follows .mixedOrders = true := by kernel_rfl

theorem IsHeap.resel {S : Nat → Prop} {h b s : Nat} {l : List Ent} {w w' : World} (H : IsHeap S h b s l w) (hk : Agree (fun k => S k ∨ k = b) w w') (hs : w'.cell? ⟨s, 0, none⟩ = some (.func (.func 60) #[] #[])) : IsHeap S h b s l w' := by
  obtain ⟨⟨av, hg, ho, hS⟩, hm, h1, h2, h3, h4⟩ := H
  exact ⟨⟨av, hk.at hg (.inl hm), ho.move tEnt_flatly (fun k e hlt => hk k (.inl (hS k e)) hlt), hS⟩, hm, hk.cell h1 (.inr rfl), hs, h3, h4⟩

set_option maxHeartbeats 400000 in
theorem sel_len_any (S : Nat → Prop) (s h b : Nat) (kept : List Ent) (w : World) (c2 : w.cell? ⟨s, 2, none⟩ = some (.pointer (some ⟨h, 0, none⟩))) (hh : IsHeap S h b s kept w) :
    Calls Try.prog 139 #[.pointer (some ⟨s, 0, none⟩)] w fun e w' => e = .returned (.int .i64 kept.length) ∧ w = w' := by
  have HH := hid hh
  clear hh
  go_enter Try.func139, Try.ntmps139
  go_wp2_with (go_at_call 159; refine (heap_len_any S h b s kept _ HH.out).mono ?_; rintro e w' ⟨rfl, rfl⟩)
  go_ret
  exact ⟨rfl, rfl⟩

theorem sel_wrap {S : Nat → Prop} {s h b : Nat} {most : Int} {xs : List Res} {x : Res} {w w5 : World} {Sh5 : Nat → Prop} {kept5 : List Ent}
    (hs5 : w5.heap[s]? = some (.cells #[.func (.func 60) #[] #[], .int .i64 most, .pointer (some ⟨h, 0, none⟩), .int .i64 ((xs.length : Int) + 1)] 210 (0, 0)))
    (hh5 : IsHeap Sh5 h b s kept5 w5) (ho5 : HeapOrd below kept5) (hsub : ∀ k, Sh5 k → S k ∨ w.heap.size ≤ k) (hS : S s) (hb : S b) (hm5 : Sb.Mod S w w5) (hk5 : Kept nearer most.toNat (stamped xs ++ [(x, (xs.length : Int))]) kept5) :
    ∃ S', IsSel S' s most (xs ++ [x]) w5 ∧ (∀ k, S' k → (S k ∨ w.heap.size ≤ k) ∧ k < w5.heap.size) ∧ Sb.Mod S w w5 := by
  refine ⟨fun k => (S k ∨ w.heap.size ≤ k) ∧ k < w5.heap.size, ⟨⟨h, b, fun k => Sh5 k ∧ k < w5.heap.size, kept5, ?_, ?_, ho5, ?_, ⟨.inl hS, lt_of_some hs5⟩, ⟨.inl hb, World.block_lt_of_cell? _ _ hh5.box⟩, ?_⟩⟩, fun k h => h, hm5⟩
  · rw [hs5]; simp
  · exact hh5.mono (fun k hk hS => ⟨hS, hk⟩) (fun h => hh5.notb h.1) (fun h => hh5.nots h.1)
  · exact fun k hk => ⟨hsub k hk.1, hk.2⟩
  · rw [stamped_snoc]; exact hk5

theorem same_keep {w w' : World} (h1 : w'.os = w.os) (h2 : w'.tape = w.tape) (h3 : w'.output = w.output) (h4 : w'.heap = w.heap) : Keep w w' := ⟨h1, h2, h3, by rw [h4]; exact Nat.le_refl _, fun k _ => by rw [h4]⟩

theorem ahead_below (a b : Ent) : below a b = Sb.ahead nearer b a := rfl

set_option maxRecDepth 100000 in
set_option maxHeartbeats 2000000 in
theorem offer_any (S : Nat → Prop) (s : Nat) (most : Int) (xs : List Res) (x1 x2 : Int) (w : World) (H : IsSel S s most xs w) (hS : ∀ k, S k → k < w.heap.size) (hmost : 1 ≤ most) (hfew : xs.length < 1073741824) :
    Calls Try.prog 100 #[.pointer (some ⟨s, 0, none⟩), .agg #[.int .i64 x1, .int .i64 x2]] w fun e w' =>
      (∃ v, e = .returned v) ∧ ∃ S', IsSel S' s most (xs ++ [(x1, x2)]) w' ∧ (∀ k, S' k → (S k ∨ w.heap.size ≤ k) ∧ k < w'.heap.size) ∧ Sb.Mod S w w' := by
  obtain ⟨h, b, Sh, kept, hs, hh, ho, h1, h2, h3, hkept⟩ := H.ex
  have hkl := hkept.len
  rw [stamped_length] at hkl
  have K0 := keep_alloc (Below.refl _ w) (.cells #[.int .i64 x1, .int .i64 x2] 33)
  have K1 := keep_drew (keep_alloc K0 (.cells #[.int .i64 x1, .int .i64 x2, .int .i64 xs.length] 213))
  have HS1 := hid (blk_keep hs K0)
  have HS2 := hid (blk_keep hs K1)
  have c3 : (w.alloc (.cells #[.int .i64 x1, .int .i64 x2] 33)).cell? ⟨s, 3, none⟩ = some (.int .i64 xs.length) := blk_cell HS1.out 3
  have HF := hid hfew
  have hfw : (xs.length : Int) < 1073741824 := by omega
  have HKL := hid hkl
  have HH := hid hh
  have HO := hid ho
  have H1 := hid h1
  have HKT := hid hkept
  have HK1 := hid K1
  have hslt : s < w.heap.size := lt_of_some hs
  have HSL := hid hslt
  have HSS := hid hS
  have HMO := hid hmost
  clear H hs hh ho h1 hkl hkept K0 K1 hfew hslt hS hmost
  go_enter Try.func100, Try.ntmps100
  go_wp2
  have n3 := World.new_ne _ _ c3
  rw [World.size_alloc] at n3
  go_region_held3 (fun w' => w'.cell? ⟨s, 3, none⟩ = some (.int .i64 xs.length) ∧ w'.cell? ⟨w.heap.size, 0, none⟩ = some (.int .i64 x1) ∧ w'.cell? ⟨w.heap.size, 1, none⟩ = some (.int .i64 x2)) (go_keep) (fail)
  obtain ⟨W1, hW1⟩ : ∃ W1, W1 = ((w.alloc (.cells #[.int .i64 x1, .int .i64 x2] 33)).alloc (.cells #[.int .i64 x1, .int .i64 x2, .int .i64 xs.length] 213)).drew := ⟨_, rfl⟩
  have HE1 : W1.heap[w.heap.size + 1]? = some (.cells #[.int .i64 x1, .int .i64 x2, .int .i64 xs.length] 213 (0, 0)) := by
    rw [hW1]; exact new_blk (by simp)
  rw [← hW1] at HS2 HK1 ⊢
  have HH1 := HH.out.keep HK1.out
  have d3 : W1.cell? ⟨s, 3, none⟩ = some (.int .i64 xs.length) := blk_cell HS2.out 3
  have f3 := blk_free HS2.out 3
  rename_i hHeld
  clear hHeld c3 n3 hW1
  obtain ⟨W2, hW2⟩ : ∃ W2, W2 = W1.setCell ⟨s, 3, none⟩ (.int .i64 ((xs.length : Int) + 1)) := ⟨_, rfl⟩
  have hS2 : W2.heap[s]? = some (.cells #[.func (.func 60) #[] #[], .int .i64 most, .pointer (some ⟨h, 0, none⟩), .int .i64 ((xs.length : Int) + 1)] 210 (0, 0)) := by
    rw [hW2]; exact blk_set HS2.out 3 _
  have hE2 : W2.heap[w.heap.size + 1]? = some (.cells #[.int .i64 x1, .int .i64 x2, .int .i64 xs.length] 213 (0, 0)) := by
    rw [hW2]; exact blk_set_ne HE1 (by have := HSL.out; simp; omega) _
  have hM2 : Sb.Mod (fun k => k = s) W1 W2 := by rw [hW2]; exact Mod.setCell (S := fun k => k = s) (p := ⟨s, 3, none⟩) (Mod.refl _ W1) (.inl rfl) _
  have hH2 : IsHeap Sh h b s kept W2 := HH1.resel (hM2.agree (fun k _ hk e => by
    rcases hk with hk | hk
    · exact HH1.nots (e ▸ hk)
    · have hb := HH1.box
      rw [← hk, e] at hb
      have := HH1.sel
      rw [this] at hb
      cases hb)) (blk_cell hS2 0)
  have hMW : Sb.Mod S w W2 := (Mod.of_keep HK1.out).trans (hM2.mono (fun k _ e => .inl (e ▸ h2)))
  have hH2b : IsHeap (fun k => Sh k ∧ k < w.heap.size) h b s kept W2 := hH2.mono (fun k hk hs => ⟨hs, HSS.out k (H1.out k hs)⟩) (fun h => hH2.notb h.1) (fun h => hH2.nots h.1)
  have C1 : W2.cell? ⟨s, 1, none⟩ = some (.int .i64 most) := blk_cell hS2 1
  have C2 : W2.cell? ⟨s, 2, none⟩ = some (.pointer (some ⟨h, 0, none⟩)) := blk_cell hS2 2
  have E0 : W2.cell? ⟨w.heap.size + 1, 0, none⟩ = some (.int .i64 x1) := blk_cell hE2 0
  have E1 : W2.cell? ⟨w.heap.size + 1, 1, none⟩ = some (.int .i64 x2) := blk_cell hE2 1
  have E2 : W2.cell? ⟨w.heap.size + 1, 2, none⟩ = some (.int .i64 xs.length) := blk_cell hE2 2
  have Hs2 := hid hS2
  have He2 := hid hE2
  have Hh2 := hid hH2b
  have Hm2 := hid hMW
  have hsz2 : w.heap.size + 1 < W2.heap.size := lt_of_some hE2
  clear HS1 HS2 HK1 HE1 HH1 hS2 hE2 hM2 hH2 hH2b hMW HH
  have hgo : W1.setCell ⟨s, 3, none⟩ (.int .i64 ((xs.length : Int) + 1)) = W2 := hW2.symm
  clear hW2
  have hlen40 : kept.length < 1099511627776 := by have := HKL.out; have := HF.out; omega
  have HL40 := hid hlen40
  clear hlen40
  by_cases hroom : (kept.length : Int) < most
  · go_wp2_with fail
    clear hgo d3 f3 hfw
    go_region_held3 (fun w' => w'.cell? ⟨s, 1, none⟩ = some (.int .i64 most)) (go_keep)
      (first | (go_at_call 139; refine (sel_len_any _ s h b kept W2.drew C2 (Hh2.out.keep (same_keep rfl rfl rfl rfl))).mono ?_; rintro e w' ⟨rfl, rfl⟩))
    go_wp2
    have hn1 : Hid (¬ ((fun k => Sh k ∧ k < w.heap.size) s)) := Hh2.out.nots
    have hn2 : Hid (¬ ((fun k => Sh k ∧ k < w.heap.size) (w.heap.size + 1))) := by show ¬ (_ ∧ _); omega
    go_region_held3 (fun w' => w'.cell? ⟨s, 2, none⟩ = some (.pointer (some ⟨h, 0, none⟩)) ∧ w'.cell? ⟨w.heap.size + 1, 0, none⟩ = some (.int .i64 x1) ∧ w'.cell? ⟨w.heap.size + 1, 1, none⟩ = some (.int .i64 x2) ∧ w'.cell? ⟨w.heap.size + 1, 2, none⟩ = some (.int .i64 xs.length))
      (first | go_keep | exact ⟨hm'.cell C2 hn1.out, hm'.cell E0 hn2.out, hm'.cell E1 hn2.out, hm'.cell E2 hn2.out⟩)
      (first | (go_at_call 140; refine (push_any (fun k => Sh k ∧ k < w.heap.size) h b s kept x1 x2 xs.length W2.drew.drew (Hh2.out.keep (same_keep rfl rfl rfl rfl)) HO.out HL40.out).mono ?_; rintro e w5 ⟨⟨v, rfl⟩, kept', hp, ho', hh', hm'⟩))
    have HR := hid (sel_wrap (w := w) (S := S) (x := (x1, x2)) (blk_mod (S := fun k => Sh k ∧ k < w.heap.size) (blk_keep Hs2.out (same_keep (w' := W2.drew.drew) rfl rfl rfl rfl)) hm' hn1.out) hh' ho' (fun k hk => hk.elim (fun h => .inl (H1.out k h.1)) (fun h => .inr (Nat.le_trans (show w.heap.size ≤ W2.heap.size by omega) h))) h2 h3
      ((Hm2.out.trans (Mod.of_keep (same_keep (w' := W2.drew.drew) rfl rfl rfl rfl))).trans (hm'.mono (fun k _ h => .inl (H1.out k h.1)))) ((HKT.out.room ((x1, x2), xs.length) (by omega)).perm hp))
    clear hp ho' hh' hm'
    go_wp2
    go_ret
    exact ⟨⟨_, rfl⟩, HR.out⟩
  · have HRM := hid hroom
    have hk0 : 0 < kept.length := by have := HMO.out; omega
    have HK0 := hid hk0
    clear hk0
    go_wp2_with fail
    clear hgo d3 f3 hfw
    go_region_held3 (fun w' => w'.cell? ⟨s, 1, none⟩ = some (.int .i64 most)) (go_keep)
      (first | (go_at_call 139; refine (sel_len_any _ s h b kept W2.drew C2 (Hh2.out.keep (same_keep rfl rfl rfl rfl))).mono ?_; rintro e w' ⟨rfl, rfl⟩))
    go_wp2_with fail
    refine (peek_any _ h b s kept W2.drew (Hh2.out.keep (same_keep rfl rfl rfl rfl)) HK0.out).mono ?_
    rintro e w3 ⟨rfl, hk3⟩
    obtain ⟨⟨⟨l1, l2⟩, l3⟩, hlast⟩ : ∃ x, nth kept 0 = x := ⟨_, rfl⟩
    rw [hlast]
    have HLA := hid hlast
    clear hlast
    have K3 : Keep W2 w3 := keep_trans (same_keep (w' := W2.drew) rfl rfl rfl rfl) hk3
    clear hk3
    have K4 := keep_alloc K3 (.cells #[.int .i64 l1, .int .i64 l2, .int .i64 l3] 213)
    have HK4 := hid K4
    replace E0 := keep_cell K4 E0
    replace E1 := keep_cell K4 E1
    replace E2 := keep_cell K4 E2
    have SEL := keep_cell K4 Hh2.out.sel
    clear K3 K4 C1 C2
    have D2 : Hid (∀ w4, Keep (w3.alloc (.cells #[.int .i64 l1, .int .i64 l2, .int .i64 l3] 213)) w4 → Keep W2 w4) := fun w4 h => keep_trans HK4.out h
    have HAT : Hid (∀ a ∈ stamped xs, a.2 ≠ (((x1, x2), (xs.length : Int)) : Ent).2) := fun a ha => by have := stamped_lt ha; show a.2 ≠ (xs.length : Int); omega
    have HTOP : Hid (∀ a ∈ kept, Sb.ahead nearer ((l1, l2), l3) a = false) := fun a ha => by
      have := heap_top_mem below_swo HO.out ha
      rw [HLA.out] at this
      exact this
    have HFULL : Hid (most.toNat ≤ kept.length) := by have := HRM.out; show _ ≤ _; omega
    by_cases ha : Sb.ahead nearer ((x1, x2), (xs.length : Int)) ((l1, l2), l3) = true
    · go_wp2_with fail
      refine (ahead_any s x1 x2 xs.length l1 l2 l3 _ SEL).mono ?_
      rintro e w4 ⟨rfl, hk4⟩
      have K5 := hid (D2.out w4 hk4)
      clear hk4 SEL E0 E1 E2
      have S5 := blk_keep Hs2.out K5.out
      have e5 := blk_keep He2.out K5.out
      have c2 : w4.cell? ⟨s, 2, none⟩ = some (.pointer (some ⟨h, 0, none⟩)) := blk_cell S5 2
      have HS5 := hid S5
      have HE5 := hid e5
      clear S5 e5
      go_wp2_with fail
      refine (pop_any (fun k => Sh k ∧ k < w.heap.size) h b s kept _ (Hh2.out.keep K5.out) HO.out HK0.out HL40.out).mono ?_
      rintro e w6 ⟨rfl, kept2, hp2, ho2, hh2, hm2⟩
      rw [HLA.out] at hp2 ⊢
      have hn1 : Hid (¬ ((fun k => Sh k ∧ k < w.heap.size) s)) := Hh2.out.nots
      have hn2 : Hid (¬ ((fun k => Sh k ∧ k < w.heap.size) (w.heap.size + 1))) := by show ¬ (_ ∧ _); omega
      have HS6 := hid (blk_mod (S := fun k => Sh k ∧ k < w.heap.size) HS5.out hm2 hn1.out)
      have HE6 := hid (blk_mod (S := fun k => Sh k ∧ k < w.heap.size) HE5.out hm2 hn2.out)
      have HM6 := hid ((Hm2.out.keep_trans K5.out).trans (hm2.mono (fun k _ h => .inl (H1.out k h.1))))
      have HP6 := hid hp2
      have HO6 := hid ho2
      have HH6 := hid hh2
      have hsz6 := hm2.size
      have hsz5 := K5.out.size
      have HZ6 : Hid (w.heap.size ≤ w6.heap.size) := by show _ ≤ _; omega
      clear hp2 ho2 hh2 hm2 hsz6 hsz5 c2
      have c26 : w6.cell? ⟨s, 2, none⟩ = some (.pointer (some ⟨h, 0, none⟩)) := blk_cell HS6.out 2
      have e60 : w6.cell? ⟨w.heap.size + 1, 0, none⟩ = some (.int .i64 x1) := blk_cell HE6.out 0
      have e61 : w6.cell? ⟨w.heap.size + 1, 1, none⟩ = some (.int .i64 x2) := blk_cell HE6.out 1
      have e62 : w6.cell? ⟨w.heap.size + 1, 2, none⟩ = some (.int .i64 xs.length) := blk_cell HE6.out 2
      have HL6 : Hid (kept2.length < 1099511627776) := by have := HP6.out.length_eq; have := HL40.out; simp at *; show _ < _; omega
      go_wp2
      go_region_held3 (fun w' => w'.cell? ⟨s, 2, none⟩ = some (.pointer (some ⟨h, 0, none⟩)) ∧ w'.cell? ⟨w.heap.size + 1, 0, none⟩ = some (.int .i64 x1) ∧ w'.cell? ⟨w.heap.size + 1, 1, none⟩ = some (.int .i64 x2) ∧ w'.cell? ⟨w.heap.size + 1, 2, none⟩ = some (.int .i64 xs.length))
        (first | go_keep | exact ⟨hm'.cell c26 hn1.out, hm'.cell e60 hn2.out, hm'.cell e61 hn2.out, hm'.cell e62 hn2.out⟩)
        (first | (go_at_call 140; refine (push_any (fun k => Sh k ∧ k < w.heap.size) h b s kept2 x1 x2 xs.length w6.drew (HH6.out.keep (same_keep rfl rfl rfl rfl)) HO6.out HL6.out).mono ?_; rintro e w7 ⟨⟨v, rfl⟩, kept', hp, ho', hh', hm'⟩))
      have HR := hid (sel_wrap (w := w) (S := S) (x := (x1, x2)) (blk_mod (S := fun k => Sh k ∧ k < w.heap.size) (blk_keep HS6.out (same_keep (w' := w6.drew) rfl rfl rfl rfl)) hm' hn1.out) hh' ho' (fun k hk => hk.elim (fun h => .inl (H1.out k h.1)) (fun h => .inr (Nat.le_trans HZ6.out h))) h2 h3
        ((HM6.out.trans (Mod.of_keep (same_keep (w' := w6.drew) rfl rfl rfl rfl))).trans (hm'.mono (fun k _ h => .inl (H1.out k h.1))))
        ((HKT.out.swap nearer_swo ((x1, x2), (xs.length : Int)) HFULL.out HAT.out (stamped_nodup xs) HP6.out HTOP.out ha).perm hp))
      clear hp ho' hh' hm'
      go_wp2
      go_ret
      exact ⟨⟨_, rfl⟩, HR.out⟩
    · have ha : Sb.ahead nearer ((x1, x2), (xs.length : Int)) ((l1, l2), l3) = false := by simpa using ha
      go_wp2_with fail
      refine (ahead_any s x1 x2 xs.length l1 l2 l3 _ SEL).mono ?_
      rintro e w4 ⟨rfl, hk4⟩
      have K5 := hid (D2.out w4 hk4)
      have HR := hid (sel_wrap (w := w) (S := S) (x := (x1, x2)) (blk_keep Hs2.out K5.out) (Hh2.out.keep K5.out) HO.out (fun k hk => .inl (H1.out k hk.1)) h2 h3 (Hm2.out.keep_trans K5.out)
        (HKT.out.not nearer_swo ((x1, x2), (xs.length : Int)) HFULL.out HAT.out (fun a hm => ⟨((l1, l2), l3), by rw [← HLA.out]; exact nth_mem HK0.out, HTOP.out a hm, ha⟩)))
      clear hk4
      go_wp2
      go_ret
      exact ⟨⟨_, rfl⟩, HR.out⟩
end Go.Proofs.Ytoligbmcceindaa
