/- Contracts: slices.Reverse at entries. -/
import Derived.Test.YtoligbmcceindaaTopkG
set_option linter.unusedVariables false
set_option linter.unusedSimpArgs false
namespace Go.Proofs.Ytoligbmcceindaa
open Go.RowKit Go.Sb

theorem own_swapped {l : List Ent} {w : World} {g n c : Nat} (hrow : Sb.Own tEnt 213 w (.slice (some ⟨g, 0, none⟩) n c) l) {i u : Nat} (hi : i < l.length) (hu : u < l.length)
    {i1 i2 i3 u1 u2 u3 : Int} (hxi : nth l i = ((i1, i2), i3)) (hxu : nth l u = ((u1, u2), u3)) {W : World}
    (hW : W = (((((((w.setCell ⟨g, i * 3, none⟩ (.int .i64 u1)).setCell ⟨g, i * 3 + 1, none⟩ (.int .i64 u2)).setCell ⟨g, i * 3 + 2, none⟩ (.int .i64 u3)).setCell ⟨g, u * 3, none⟩ (.int .i64 i1)).setCell ⟨g, u * 3 + 1, none⟩ (.int .i64 i2)).setCell ⟨g, u * 3 + 2, none⟩ (.int .i64 i3)).drew)) :
    Sb.Own tEnt 213 W (.slice (some ⟨g, 0, none⟩) n c) (swap l i u) ∧ Sb.Mod (fun k => k = g) w W := by
  subst hW
  have hs : ∀ (W : World) (o : Nat) (v : Value), Sb.Mod (fun k => k = g) w W → Sb.Mod (fun k => k = g) w (W.setCell ⟨g, o, none⟩ v) := fun W o v h => h.setCell (.inl rfl) v
  refine ⟨?_, (hs _ _ _ (hs _ _ _ (hs _ _ _ (hs _ _ _ (hs _ _ _ (hs _ _ _ (Mod.refl _ w))))))).drew⟩
  have h1 := ent_store hrow hi u1 u2 u3
  have h2 := ent_store h1 (i := u) (by simpa using hu) i1 i2 i3
  have e : swap l i u = (l.set i ((u1, u2), u3)).set u ((i1, i2), i3) := by rw [swap, hxi, hxu]
  rw [e]
  exact h2.keep (keep_drew (Below.refl _ _))

set_option maxHeartbeats 1000000 in
theorem reverse_any (v : Value) (xs : List Ent) (w : World) (h : Sb.Own tEnt 213 w v xs) (hfew : xs.length < 1099511627776) :
    Calls Try.prog 144 #[v] w fun e w' => (∃ u, e = .returned u) ∧ Sb.Own tEnt 213 w' v xs.reverse ∧ Sb.Mod (fun k => v.ownBlock = some k) w w' := by
  obtain ⟨A, c, rfl, hc1, hc2⟩ := h.form
  have HO := hid h
  by_cases h0 : 0 < xs.length
  · obtain ⟨g, o, c', e, _, _, hb', _⟩ := ents_open h.lies h0
    injection e with e1 e2 e3
    subst e1 e3
    obtain ⟨rfl, _, _⟩ := h.block rfl
    obtain ⟨m, hm⟩ : ∃ m, xs.length = m + 1 := ⟨xs.length - 1, by omega⟩
    have HM := hid hm
    have hmI : (m : Int) < 1099511627776 := by omega
    rw [hm] at HO ⊢ hc1
    clear h h0 hb' hm hfew e2 hc2
    go_enter Try.func144, Try.ntmps144
    go_wp2
    clear hmI
    go_loopw [2, 3] (fun iv jv wr => ∃ (i j : Nat) (l1 : List Ent), iv = .int .i64 i ∧ jv = .int .i64 j ∧ i + j = m ∧ i ≤ j + 1 ∧ Hid (l1.length = m + 1) ∧ Hid (∀ q, q < m + 1 → nth l1 q = if q < i ∨ j < q then nth xs (m - q) else nth xs q) ∧
      Hid (Sb.Own tEnt 213 wr (.slice (some ⟨g, 0, none⟩) (m + 1) c) l1) ∧ Hid (Sb.Mod (fun k => k = g) w wr)) (fun iv jv _ => (intOf jv).toNat + 1 - (intOf iv).toNat)
    case atStart => exact ⟨0, m, xs, rfl, by go_num, by omega, by omega, HM.out, fun q hq => by rw [if_neg (by omega)], HO, Mod.refl _ _⟩
    case round =>
      obtain ⟨i, j, l1, rfl, rfl, hij, hle, hlen, hq, hown, hmod⟩ := hrel
      by_cases hlt : i < j
      · obtain ⟨g', o', c'', e, _, _, hb', hat⟩ := ents_open hown.out.lies (by have := hlen.out; omega)
        injection e with e1 e2 e3
        injection e1 with e1
        injection e1 with e4 e5
        subst e4 e5
        obtain ⟨_, he, cur, hcur, _⟩ := hown.out.block rfl
        clear he
        obtain ⟨p0, p1, p2⟩ := hat i (by have := hlen.out; omega)
        obtain ⟨q0, q1, q2⟩ := hat j (by have := hlen.out; omega)
        rw [Nat.zero_add] at p0 p1 p2 q0 q1 q2
        obtain ⟨⟨⟨i1, i2⟩, i3⟩, hxi⟩ : ∃ x, nth l1 i = x := ⟨_, rfl⟩
        obtain ⟨⟨⟨u1, u2⟩, u3⟩, hxu⟩ : ∃ x, nth l1 j = x := ⟨_, rfl⟩
        rw [hxi] at p0 p1 p2
        rw [hxu] at q0 q1 q2
        have hii : (i : Int) < (m : Int) + 1 := by omega
        have hiu : (j : Int) < (m : Int) + 1 := by omega
        have hltI : (i : Int) < (j : Int) := by omega
        have HXI := hid hxi
        have HXU := hid hxu
        have g0 := blk_free hcur (i * 3)
        have g1 := blk_free hcur (i * 3 + 1)
        have g2 := blk_free hcur (i * 3 + 2)
        have g3 := blk_free hcur (j * 3)
        have g4 := blk_free hcur (j * 3 + 1)
        have g5 := blk_free hcur (j * 3 + 2)
        clear hat hcur hxi hxu e2 e3
        go_wp2
        go_region
        have hw := own_swapped hown.out (i := i) (u := j) (by have := hlen.out; omega) (by have := hlen.out; omega) HXI.out HXU.out rfl
        go_wp2
        go_roundw
        case rel =>
          refine ⟨i + 1, j - 1, swap l1 i j, by go_num, int_eq (by omega), by omega, by omega, (swap_length _ _ _).trans hlen.out, ?_, hw.1, hmod.out.trans (hw.2.mono (fun k _ h => .inl h))⟩
          intro q hqm
          have hl := hlen.out
          by_cases e1 : q = i
          · subst e1
            rw [swap_left (by omega) (by omega) (by omega), if_pos (by omega), hq.out j (by omega), if_neg (by omega), show m - q = j by omega]
          · by_cases e2 : q = j
            · subst e2
              rw [swap_right (by omega), if_pos (by omega), hq.out i (by omega), if_neg (by omega), show m - q = i by omega]
            · rw [swap_other (Ne.symm e1) (Ne.symm e2), hq.out q hqm]
              by_cases e3 : q < i ∨ j < q
              · rw [if_pos e3, if_pos (by omega)]
              · rw [if_neg e3, if_neg (by omega)]
        case measure => simp [intOf]; omega
      · have hgeI : ¬ ((i : Int) < (j : Int)) := by omega
        have HLT := hid hlt
        clear hlt
        go_wp2
        go_end0
        have e : l1 = xs.reverse := by
          refine ext_nth (by rw [List.length_reverse, HM.out]; exact hlen.out) (fun q hql => ?_)
          have hql' : q < m + 1 := by have := hlen.out; omega
          have hr : nth xs.reverse q = nth xs (m - q) := by
            rw [nth_eq (by simp [HM.out]; omega), nth_eq (by have := HM.out; omega), List.getElem_reverse]
            congr 1
            have := HM.out
            omega
          rw [hr, hq.out q hql']
          split
          · rfl
          · have := HLT.out
            rw [show m - q = q by omega]
        rw [← e]
        refine ⟨⟨_, rfl⟩, hown.out, hmod.out.mono (fun k _ h => ?_)⟩
        simp [Value.ownBlock, h]
  · have h1 : xs = [] := List.eq_nil_of_length_eq_zero (by omega)
    subst h1
    clear h hc1 h0
    go_enter Try.func144, Try.ntmps144
    go_wp2
    go_loopw [2, 3] (fun iv jv wr => iv = .int .i64 0 ∧ jv = .int .i64 (-1) ∧ Drawn w wr) (fun iv jv _ => 0)
    case atStart => exact ⟨rfl, by go_num, Drawn.refl _⟩
    case round =>
      obtain ⟨rfl, rfl, ⟨q, rfl⟩⟩ := hrel
      go_wp2
      go_end0
      exact ⟨⟨_, rfl⟩, HO.out.keep (keep_dr (Below.refl _ _) _), Mod.of_keep (keep_dr (Below.refl _ _) _)⟩
end Go.Proofs.Ytoligbmcceindaa
