/- Contracts: items are made and added to (vec.Clone, data.New, data.Items.Add, data.Of, data.Items.At). -/
import Derived.Test.YtoligbmcceindaaData
set_option linter.unusedVariables false
set_option linter.unusedSimpArgs false
namespace Go.Proofs.Ytoligbmcceindaa
open Go.RowKit Go.Sb

set_option maxHeartbeats 400000 in
theorem clone_any (va : Value) (xs : List Int) (w : World) (ha : i32s w va xs) (hlen : xs.length ≤ 1073741824) :
    Calls Try.prog 67 #[va] w fun e w' => (∃ v, e = .returned v ∧ Own (tInt .i32) 21 w' v xs ∧ (∀ k, v.ownBlock = some k → w.heap.size ≤ k) ∧ (0 < xs.length → v ≠ .slice none 0 0)) ∧ Keep w w' := by
  obtain ⟨A, c, rfl, hc1, hc2⟩ := ha.form
  have HA := hid ha
  clear ha
  go_enter Try.func67, Try.ntmps67
  go_wp2_with (at_builtin; refine wpList_app (d := tInt .i32) rfl _ _ 31 21 (.int .i32 0) 4 rfl Try.underlying31 info_i32 rfl (by decide) (.slice none 0 0) _ [] xs rfl rfl (Own.nil _ _ _) HA.out ?h1 (flat_any (tInt_flatly _) _ _ _) ?_; (case h1 => simp; omega); intro v' w' hown hgrow hat)
  have HO := hid hown
  have HG := hid hgrow
  clear hown hgrow
  go_wp2
  go_ret
  refine ⟨⟨_, rfl, by simpa using HO.out, ?_, ?_⟩, ?_⟩
  · intro k hk
    rcases hat with e | e
    · have hk' : v'.ownBlock = some k := hk
      rw [e] at hk'
      cases hk'
    · have : v'.ownBlock = some k := hk
      rw [e] at this
      injection this with this
      omega
  · intro h0 e
    have := HO.out
    have e2 : v' = .slice none 0 0 := e
    rw [e2] at this
    obtain ⟨A, c, e3, _⟩ := this.form
    injection e3 with _ e4
    simp at e4
    rw [← e4] at h0
    simp at h0
  · have hm : Mod (fun _ => False) w w' := Mod.of_grown HG.out (fun k hk => by simp [Value.ownBlock] at hk)
    exact hm.keep (fun k _ h => h)

theorem cellsOf_items : Try.prog.cellsOf 113 = 2 := by kernel_rfl

set_option maxHeartbeats 400000 in
theorem new_any (dim : Int) (w : World) (h1 : 1 ≤ dim) (h2 : dim ≤ 1024) :
    Calls Try.prog 53 #[.int .i64 dim] w fun e w' => (∃ g, e = .returned (.tuple #[.pointer (some ⟨g, 0, none⟩), .int .i64 0]) ∧ IsItems (fun k => k = g) g dim [] w' ∧ w.heap.size ≤ g) ∧ Keep w w' := by
  go_enter Try.func53, Try.ntmps53
  go_wp2
  go_ret2
  refine ⟨⟨_, rfl, ?_, Nat.le_refl _⟩, (Below.refl _ _).alloc (Nat.le_refl _) _⟩
  exact ⟨⟨_, blk_new w _, Own.nil _ _ _, fun k e => by simp [Value.ownBlock] at e⟩, rfl, h1, h2, by simp, by simp⟩

set_option maxHeartbeats 400000 in
theorem new_bad (dim : Int) (w : World) (h : dim < 1 ∨ 1024 < dim) :
    Calls Try.prog 53 #[.int .i64 dim] w fun e w' => e = .returned (.tuple #[.pointer none, .int .i64 1]) ∧ w = w' := by
  by_cases h1 : dim < 1
  · clear h
    go_enter Try.func53, Try.ntmps53
    go_wp2
    go_ret2
    exact ⟨rfl, rfl⟩
  · have h2 : 1024 < dim := by omega
    clear h
    go_enter Try.func53, Try.ntmps53
    go_wp2
    go_ret2
    exact ⟨rfl, rfl⟩

/-- An item that may not be. -/
theorem add_bad (S : Nat → Prop) (g : Nat) (dim : Int) (l : List (List Int)) (va : Value) (xs : List Int) (w : World) (h : IsItems S g dim l w) (ha : i32s w va xs) (hv : vcheck xs dim ≠ 0) :
    Calls Try.prog 54 #[.pointer (some ⟨g, 0, none⟩), va] w fun e w' => e = .returned (.tuple #[.int .i64 0, .int .i64 (vcheck xs dim)]) ∧ Drawn w w' := by
  obtain ⟨A, c, c0, _⟩ := h.cells
  have HA := hid ha
  have hb : (vcheck xs dim != 0) = true := by simp [hv]
  clear ha hv h
  go_enter Try.func54, Try.ntmps54
  go_wp2_with (go_at_call 55; refine (check_any _ _ _ _ HA.out).mono ?_; rintro e w' ⟨rfl, ⟨q, rfl⟩⟩)
  go_ret2
  exact ⟨rfl, ⟨_, rfl⟩⟩

theorem flatten_concat (l : List (List Int)) (x : List Int) : (l ++ [x]).flatten = l.flatten ++ x := by simp

set_option maxHeartbeats 800000 in
/-- An item more. -/
theorem add_any (S : Nat → Prop) (g : Nat) (dim : Int) (l : List (List Int)) (va : Value) (xs : List Int) (w : World) (h : IsItems S g dim l w) (ha : i32s w va xs) (hv : vcheck xs dim = 0) (hfew : l.length < 1048576) :
    Calls Try.prog 54 #[.pointer (some ⟨g, 0, none⟩), va] w fun e w' => e = .returned (.tuple #[.int .i64 l.length, .int .i64 0]) ∧ IsItems (fun k => S k ∨ w.heap.size ≤ k) g dim (l ++ [xs]) w' ∧ Sb.Mod S w w' := by
  have hi := h
  have hS := h.mine
  obtain ⟨A, c, c0, c1, k1, k2, k3, hl⟩ := hi.cells
  obtain ⟨av, hg, hown, hSb⟩ := hi.ex
  have hav : av = .slice A (l.length * dim.toNat) c := by rw [blk_cell hg] at c1; simpa using c1
  subst hav
  have hlt := hi.lt
  have hd2 := hi.dim2
  have hxl : xs.length ≤ 1024 := by have := (vcheck_ok hv).2.2.1; omega
  have hfl := hi.flen
  have HA := hid ha
  have HO := hid hown
  have HI := hid hi
  have HV := hid hv
  have HG := hid hg
  have HSB := hid hSb
  have HFL := hid hfl
  have hb : (vcheck xs dim != 0) = false := by simp [hv]
  have f1 : w.frozen? ⟨g, 1, none⟩ = false := blk_free hg 1
  have hne : Hid (∀ k, (Value.slice A (l.length * dim.toNat) c).ownBlock = some k → k ≠ g) := by
    intro k hk e
    subst e
    obtain ⟨cs, hc⟩ := hown.typed hk
    rw [hg] at hc
    injection hc with hc
    injection hc with _ hc _
    exact absurd hc (by decide)
  obtain ⟨L, hL⟩ : ∃ L : Int, (l.length : Int) = L := ⟨_, rfl⟩
  have hL1 : 0 ≤ L := by omega
  have hL2 : L < 1048576 := by omega
  have HL := hid hL
  have K3 := hid k3
  clear ha hown hi hv hg hl h hfl hfew k3 hL hSb
  go_enter Try.func54, Try.ntmps54
  go_wp2_with fail
  refine (check_any _ _ _ _ HA.out).mono ?_
  rintro e w1 ⟨rfl, hd⟩
  have K1 := hid hd.keep
  clear hd
  rw [HV.out]
  go_wp2_with fail
  refine (len_any _ _ _ _ _ (HI.out.keep K1.out)).mono ?_
  rintro e w2 ⟨rfl, hd⟩
  have K2 := hid (keep_trans K1.out hd.keep)
  clear hd
  rw [HL.out]
  have d1 := keep_cell K2.out c1
  have g1 := keep_free K2.out c1 f1
  clear c0 c1 f1
  have HOD := hid (HO.out.keep K2.out)
  have HAD := hid (HA.out.keep K2.out)
  go_wp2_with (at_builtin; refine wpList_app (d := tInt .i32) rfl _ _ 31 21 (.int .i32 0) 4 rfl Try.underlying31 info_i32 rfl (by decide) (.slice A (l.length * dim.toNat) c) va _ xs rfl rfl HOD.out HAD.out ?h1 (flat_any (tInt_flatly _) _ _ _) ?_; (case h1 => have := K3.out; rw [HFL.out]; omega); intro v' w' hown hgrow hat; obtain ⟨A', c', rfl, _, _⟩ := hown.form; have d2 := hgrow.cell d1 (fun e => hne.out _ e.symm rfl); have g2 : w'.frozen? ⟨g, 1, none⟩ = false := (World.frozen?_of_block (hgrow.block g (World.block_lt_of_cell? _ _ d1) (fun e => hne.out _ e.symm rfl))).trans g1; clear d1 g1; have HW := hid hown; have HGR := hid hgrow; have HAT := hid hat; clear hown hgrow hat)
  go_ret2
  refine ⟨?_, ?_, ?_⟩
  · rw [HL.out]; rfl
  · have e : (List.map List.length l).sum + xs.length = (l.flatten ++ xs).length := by simp
    rw [e]
    have hsz := K2.out.size
    have hbg := blk_mod (blk_keep HG.out K2.out) (Mod.of_grown (S := fun k => (Value.slice A (l.length * dim.toNat) c).ownBlock = some k) HGR.out (fun k e => e)) (fun e => hne.out _ e rfl)
    have hb2 := blk_set hbg 1 (Value.slice A' (l.flatten ++ xs).length c')
    have hne2 : ∀ k, (Value.slice A' (l.flatten ++ xs).length c').ownBlock = some k → k ≠ g := by
      intro k hk e
      subst e
      obtain ⟨cs, hc⟩ := HW.out.typed hk
      rw [hbg] at hc
      injection hc with hc
      injection hc with _ hc _
      exact absurd hc (by decide)
    have hI := HI.out
    refine ⟨⟨_, hb2, ?_, ?_⟩, .inl hS, hI.dim1, hI.dim2, ?_, ?_⟩
    · rw [flatten_concat]
      exact HW.out.move (tInt_flatly _) (fun k e _ => Below.heap_setCell _ _ _ _ (fun e2 => hne2 k e e2))
    · intro k hk
      rcases HAT.out with e2 | e2
      · exact .inl (HSB.out k (e2 ▸ hk))
      · rw [e2] at hk
        injection hk with hk
        exact .inr (by omega)
    · intro x hx
      rcases List.mem_append.1 hx with hx | hx
      · exact hI.each x hx
      · rw [List.mem_singleton.1 hx]; exact HV.out
    · have := HL.out; simp; omega
  · have hm : Sb.Mod S w w' := (Mod.of_keep K2.out).trans (Mod.of_grown HGR.out (fun k e => .inl (HSB.out k e)))
    exact hm.setCell (.inl hS) _
end Go.Proofs.Ytoligbmcceindaa
