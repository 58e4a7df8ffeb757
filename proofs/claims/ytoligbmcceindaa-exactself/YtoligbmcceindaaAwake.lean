/- Contracts: shelterbeltlaw22.awake: the document's example. -/
import Derived.Test.YtoligbmcceindaaLaw22
set_option linter.unusedVariables false
set_option linter.unusedSimpArgs false
namespace Go.Proofs.Ytoligbmcceindaa
open Go.RowKit Go.Sb

theorem told_awake : told [[0], [5], [5]] [4] (allIds 3) = [(0, 16), (1, 1), (2, 1)] := by rfl
theorem sort_awake : ([(0, 16), (1, 1), (2, 1)] : List Res).mergeSort (fun a b => !nearer b a) = [(1, 1), (2, 1), (0, 16)] := by
  refine List.Perm.eq_of_pairwise (le := fun a b => (!nearer b a) = true) ?_ (List.pairwise_mergeSort ?_ ?_ _) (by decide) ((List.mergeSort_perm _ _).trans (by decide))
  · intro a b h1 h2 k1 k2
    have m1 := (List.mergeSort_perm _ _).mem_iff.1 h1
    simp at m1 h2
    rcases m1 with rfl | rfl | rfl <;> rcases h2 with rfl | rfl | rfl <;> first | rfl | (exfalso; revert k1 k2; decide)
  · intro a b c h1 h2
    simp at h1 h2 ⊢
    exact nearer_swo.ntrans _ _ _ h2 h1
  · intro a b
    by_cases e : nearer b a = true
    · simp [e, nearer_swo.asymm _ _ e]
    · simp [e]
theorem best_awake {out : List Ent} (h : Kept nearer (3 : Int).toNat (stamped [(0, 16), (1, 1), (2, 1)]) out) (hs : out.Pairwise (fun x y => Sb.ahead nearer y x = false)) : out.map (·.1) = [(1, 1), (2, 1), (0, 16)] := by
  have := h.sorted nearer_swo (List.Perm.refl _) hs (by decide)
  rw [this, stamped_fst, sort_awake]
  rfl

theorem one_row {W : World} {g : Nat} {x : Int} (h : W.heap[g]? = some (.cells #[.int .i32 x] 21 (0, 0))) (hw : (Lit.int .i32 x).wf = true) : i32s W (.slice (some ⟨g, 0, none⟩) 1 1) [x] :=
  Lies.box (d := tInt .i32) (w := W) (x := x) (e := 21) (c := [.int .i32 x]) ⟨rfl, hw⟩ h

set_option maxRecDepth 100000 in
set_option maxHeartbeats 1000000 in
theorem awake_any (w : World) : Calls Try.prog 8 #[] w fun e w' => e = .returned (.bool true) ∧ Keep w w' := by
  go_enter Try.func8, Try.ntmps8
  go_wp2_with fail
  obtain ⟨W, hW⟩ : ∃ W, W = (((w.alloc (.cells #[.int .i32 0] 21)).alloc (.cells #[.int .i32 5] 21)).alloc (.cells #[.int .i32 5] 21)).alloc (.cells #[.slice (some ⟨w.heap.size, 0, none⟩) 1 1, .slice (some ⟨w.heap.size + 1, 0, none⟩) 1 1, .slice (some ⟨w.heap.size + 1 + 1, 0, none⟩) 1 1] 31) := ⟨_, rfl⟩
  have hA : W.heap[w.heap.size]? = some (.cells #[.int .i32 0] 21 (0, 0)) := by rw [hW]; exact blk_alloc (blk_alloc (blk_alloc (blk_new w _) _) _) _
  have hB : W.heap[w.heap.size + 1]? = some (.cells #[.int .i32 5] 21 (0, 0)) := by
    rw [hW]
    have := blk_new (w.alloc (.cells #[.int .i32 0] 21)) (.cells #[.int .i32 5] 21)
    rw [World.size_alloc] at this
    exact blk_alloc (blk_alloc this _) _
  have hC : W.heap[w.heap.size + 1 + 1]? = some (.cells #[.int .i32 5] 21 (0, 0)) := by
    rw [hW]
    have := blk_new ((w.alloc (.cells #[.int .i32 0] 21)).alloc (.cells #[.int .i32 5] 21)) (.cells #[.int .i32 5] 21)
    rw [World.size_alloc, World.size_alloc] at this
    exact blk_alloc this _
  have hD : W.heap[w.heap.size + 1 + 1 + 1]? = some (.cells #[.slice (some ⟨w.heap.size, 0, none⟩) 1 1, .slice (some ⟨w.heap.size + 1, 0, none⟩) 1 1, .slice (some ⟨w.heap.size + 1 + 1, 0, none⟩) 1 1] 31 (0, 0)) := by
    rw [hW]
    have := blk_new (((w.alloc (.cells #[.int .i32 0] 21)).alloc (.cells #[.int .i32 5] 21)).alloc (.cells #[.int .i32 5] 21)) (.cells #[.slice (some ⟨w.heap.size, 0, none⟩) 1 1, .slice (some ⟨w.heap.size + 1, 0, none⟩) 1 1, .slice (some ⟨w.heap.size + 1 + 1, 0, none⟩) 1 1] 31)
    rw [World.size_alloc, World.size_alloc, World.size_alloc] at this
    exact this
  have hK : Keep w W := by rw [hW]; exact keep_alloc (keep_alloc (keep_alloc (keep_alloc (Below.refl _ w) _) _) _) _
  have hrows : i32rows W (.slice (some ⟨w.heap.size + 1 + 1 + 1, 0, none⟩) 3 3) [[0], [5], [5]] := by
    refine ⟨_, 3, [.slice (some ⟨w.heap.size, 0, none⟩) 1 1, .slice (some ⟨w.heap.size + 1, 0, none⟩) 1 1, .slice (some ⟨w.heap.size + 1 + 1, 0, none⟩) 1 1], rfl, Nat.le_refl _, ⟨by simp [maxLen], by simp⟩, ?_, fun j u hu => ⟨_, 0, rfl, ?_⟩⟩
    · exact ⟨[_], _, rfl, ⟨_, rfl, one_row hA (by rfl)⟩, [_], _, rfl, ⟨_, rfl, one_row hB (by rfl)⟩, [_], [], rfl, ⟨_, rfl, one_row hC (by rfl)⟩, rfl⟩
    · rw [Nat.zero_add, blk_cell hD]; simpa using hu
  have HR := hid hrows
  have HK := hid hK
  rw [← hW]
  clear hA hB hC hD hrows hK hW
  refine (of_ok 1 _ [[0], [5], [5]] W HR.out (by omega) (by omega) (by decide) (by decide)).mono ?_
  rintro e w1 ⟨⟨g, S, rfl, hI, hS⟩, hk⟩
  have HI := hid hI
  have HS := hid hS
  have K1 := hid (keep_trans HK.out hk)
  clear hI hS hk
  go_wp2_with fail
  obtain ⟨W2, hW2⟩ : ∃ W2, W2 = w1.alloc (.cells #[.int .i32 4] 21) := ⟨_, rfl⟩
  have hv : i32s W2 (.slice (some ⟨w1.heap.size, 0, none⟩) 1 1) [4] := one_row (by rw [hW2]; exact blk_new w1 _) (by rfl)
  have hk2 : Keep w1 W2 := by rw [hW2]; exact keep_alloc (Below.refl _ _) _
  have hz2 : W2.heap.size = w1.heap.size + 1 := by rw [hW2]; simp
  rw [← hW2]
  have HK2 := hid hk2
  clear hW2
  refine (brute_any S g 1 [[0], [5], [5]] _ [4] 3 W2 (HI.out.keep hk2) (fun k hk => by have := (HS.out k hk).2; omega) hv (fun k hk => by
    have : w1.heap.size = k := by simpa [Value.ownBlock] using hk
    omega) (by decide) (by rfl) (by omega) (by omega)).mono ?_
  rintro e w3 ⟨v, rfl, out, r1, r2, r3, r4, r5⟩
  have hbest : out.map (·.1) = [(1, 1), (2, 1), (0, 16)] := best_awake (by
    have : told [[0], [5], [5]] [4] (allIds ([[0], [5], [5]] : List (List Int)).length) = [(0, 16), (1, 1), (2, 1)] := told_awake
    rw [this] at r2
    exact r2) r3
  rw [hbest] at r1
  have R1 := hid r1
  have K3 := hid (keep_trans (keep_trans K1.out HK2.out) r5)
  clear r1 r2 r3 r4 r5 hv hk2 hz2 hbest
  go_wp2_with fail
  obtain ⟨W4, hW4⟩ : ∃ W4, W4 = w3.alloc (.cells #[.int .i64 1, .int .i64 1, .int .i64 2, .int .i64 1, .int .i64 0, .int .i64 16] 33) := ⟨_, rfl⟩
  have hk4 : Keep w3 W4 := by rw [hW4]; exact keep_alloc (Below.refl _ _) _
  have hb4 : W4.heap[w3.heap.size]? = some (.cells #[.int .i64 1, .int .i64 1, .int .i64 2, .int .i64 1, .int .i64 0, .int .i64 16] 33 (0, 0)) := by rw [hW4]; exact blk_new w3 _
  have hlit : ress W4 (.slice (some ⟨w3.heap.size, 0, none⟩) 3 3) [(1, 1), (2, 1), (0, 16)] := by
    refine ⟨_, 3, [.int .i64 1, .int .i64 1, .int .i64 2, .int .i64 1, .int .i64 0, .int .i64 16], rfl, Nat.le_refl _, ⟨by simp [maxLen], by simp⟩, ?_, fun j u hu => ⟨_, 0, rfl, ?_⟩⟩
    · exact ⟨[.int .i64 1, .int .i64 1], _, rfl, rfl, [.int .i64 2, .int .i64 1], _, rfl, rfl, [.int .i64 0, .int .i64 16], [], rfl, rfl, rfl⟩
    · rw [Nat.zero_add, blk_cell hb4]; simpa using hu
  rw [← hW4]
  refine (same4_any v _ _ _ W4 (R1.out.keep hk4).lies hlit).mono ?_
  rintro e w5 ⟨rfl, hd⟩
  have K5 := hid (keep_trans (keep_trans K3.out hk4) hd.keep)
  clear hd hk4 hb4 hlit hW4
  go_wp2
  go_ret
  exact ⟨by simp, K5.out⟩
end Go.Proofs.Ytoligbmcceindaa
