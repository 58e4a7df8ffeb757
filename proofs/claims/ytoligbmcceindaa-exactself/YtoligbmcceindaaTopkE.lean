/- Contracts: the selector of the first few (topk at results): New, Len, Offer. -/
import Derived.Test.YtoligbmcceindaaTopkD
set_option linter.unusedVariables false
set_option linter.unusedSimpArgs false
namespace Go.Proofs.Ytoligbmcceindaa
open Go.RowKit Go.Sb

set_option maxHeartbeats 400000 in
theorem heap_new_any (f : Fn) (x1 x2 : Array Value) (w : World) :
    Calls Try.prog 136 #[.func f x1 x2, .slice none 0 0] w fun e w' => e = .returned (.pointer (some ⟨w.heap.size, 0, none⟩)) ∧
      w'.heap[w.heap.size]? = some (.cells #[.func f x1 x2, .slice none 0 0] 242 (0, 0)) ∧ Keep w w' := by
  go_enter Try.func136, Try.ntmps136
  go_wp2
  go_loopw [13] (fun k wr => k = .int .i64 0 ∧ Hid (wr.heap[w.heap.size]? = some (.cells #[.func f x1 x2, .slice none 0 0] 242 (0, 0))) ∧ Hid (Keep w wr)) (fun k _ => 0)
  case atStart => exact ⟨rfl, blk_new w _, keep_alloc (Below.refl _ w) _⟩
  case round =>
    obtain ⟨rfl, hb, hk⟩ := hrel
    go_wp2
    go_ret
    exact ⟨rfl, hb.out, hk.out⟩

/-- What was offered, each with its number. -/
def stamped (xs : List Res) : List Ent := xs.zipIdx.map (fun p => (p.1, (p.2 : Int)))
theorem stamped_snoc (xs : List Res) (x : Res) : stamped (xs ++ [x]) = stamped xs ++ [(x, (xs.length : Int))] := by simp [stamped, List.zipIdx_append]
theorem stamped_length (xs : List Res) : (stamped xs).length = xs.length := by simp [stamped]
theorem stamped_lt {xs : List Res} {a : Ent} (h : a ∈ stamped xs) : a.2 < (xs.length : Int) := by
  simp only [stamped, List.mem_map] at h
  obtain ⟨p, hp, rfl⟩ := h
  have := List.snd_lt_of_mem_zipIdx hp
  simp at this ⊢
  omega
theorem stamped_nodup (xs : List Res) : ((stamped xs).map (·.2)).Nodup := by
  have e : (stamped xs).map (·.2) = (xs.zipIdx.map Prod.snd).map (fun n : Nat => (n : Int)) := by simp only [stamped, List.map_map]; rfl
  rw [e, List.zipIdx_map_snd]
  unfold List.Nodup
  rw [List.pairwise_map]
  exact List.Pairwise.imp (fun {a b} h => by omega) (List.pairwise_lt_range' (s := 0) (n := xs.length) (step := 1))
theorem stamped_fst (xs : List Res) : (stamped xs).map (·.1) = xs := by
  simp only [stamped, List.map_map]
  have : ((fun x : Ent => x.1) ∘ fun p : Res × Nat => (p.1, (p.2 : Int))) = Prod.fst := rfl
  rw [this, List.zipIdx_map_fst]

/-- A selector that was offered xs. -/
structure IsSel (S : Nat → Prop) (s : Nat) (most : Int) (xs : List Res) (w : World) : Prop where
  ex : ∃ (h b : Nat) (Sh : Nat → Prop) (kept : List Ent), w.heap[s]? = some (.cells #[.func (.func 60) #[] #[], .int .i64 most, .pointer (some ⟨h, 0, none⟩), .int .i64 xs.length] 210 (0, 0)) ∧
    IsHeap Sh h b s kept w ∧ HeapOrd below kept ∧ (∀ k, Sh k → S k) ∧ S s ∧ S b ∧ Kept nearer most.toNat (stamped xs) kept

theorem IsSel.move {S : Nat → Prop} {s : Nat} {most : Int} {xs : List Res} {w w' : World} (H : IsSel S s most xs w) (hk : Agree S w w') : IsSel S s most xs w' := by
  obtain ⟨h, b, Sh, kept, hs, hh, ho, h1, h2, h3, hkept⟩ := H.ex
  exact ⟨⟨h, b, Sh, kept, hk.at hs h2, hh.move (fun k hk' hlt => hk k (by
    rcases hk' with e | rfl | rfl
    · exact h1 k e
    · exact h3
    · exact h2) hlt), ho, h1, h2, h3, hkept⟩⟩
theorem IsSel.keep {S : Nat → Prop} {s : Nat} {most : Int} {xs : List Res} {w w' : World} (H : IsSel S s most xs w) (hk : Keep w w') : IsSel S s most xs w' := H.move (agree_keep hk)

set_option maxHeartbeats 1000000 in
theorem sel_new_any (most : Int) (w : World) :
    Calls Try.prog 99 #[.func (.func 60) #[] #[], .int .i64 most] w fun e w' => ∃ s S, e = .returned (.pointer (some ⟨s, 0, none⟩)) ∧ IsSel S s most [] w' ∧ (∀ k, S k → w.heap.size ≤ k ∧ k < w'.heap.size) ∧ Keep w w' := by
  go_enter Try.func99, Try.ntmps99
  go_wp2
  have HB0 : Hid (((w.alloc (.cells #[.func (.func 60) #[] #[], .int .i64 most, .pointer none, .int .i64 0] 210)).alloc (.cells #[.pointer (some ⟨w.heap.size, 0, none⟩)] 173)).drew.heap[w.heap.size]? = some (.cells #[.func (.func 60) #[] #[], .int .i64 most, .pointer none, .int .i64 0] 210)) := blk_alloc (blk_new w _) _
  have HB1 : Hid (((w.alloc (.cells #[.func (.func 60) #[] #[], .int .i64 most, .pointer none, .int .i64 0] 210)).alloc (.cells #[.pointer (some ⟨w.heap.size, 0, none⟩)] 173)).drew.heap[w.heap.size + 1]? = some (.cells #[.pointer (some ⟨w.heap.size, 0, none⟩)] 173)) := by
    have := blk_new (w.alloc (.cells #[.func (.func 60) #[] #[], .int .i64 most, .pointer none, .int .i64 0] 210)) (.cells #[.pointer (some ⟨w.heap.size, 0, none⟩)] 173)
    rw [World.size_alloc] at this
    exact this
  have HK0 : Hid (Keep w ((w.alloc (.cells #[.func (.func 60) #[] #[], .int .i64 most, .pointer none, .int .i64 0] 210)).alloc (.cells #[.pointer (some ⟨w.heap.size, 0, none⟩)] 173)).drew) := keep_drew (keep_alloc (keep_alloc (Below.refl _ w) _) _)
  refine' (fun (main : (_ : Prop)) => _) _
  rotate_left
  focus
    go_region_with (go_at_call 136; refine (heap_new_any _ _ _ _).mono ?_; rintro e w1 ⟨rfl, hb, hk⟩; have e0 := blk_keep HB0.out hk; have e1 := blk_keep HB1.out hk; have d0 : w1.cell? ⟨w.heap.size + 1, 0, none⟩ = some (.pointer (some ⟨w.heap.size, 0, none⟩)) := blk_cell e1 0; have d1 : w1.cell? ⟨w.heap.size, 2, none⟩ = some (.pointer none) := blk_cell e0 2; have d2 := blk_free e0 2; have E0 := hid e0; have E1 := hid e1; have HB := hid hb; have HK := hid hk; clear e0 e1 hb hk)
    all_goals (revert w1; exact main)
  intro w1 d0 d1 d2 E0 E1 HB HK
  have HB2 : Hid (w1.heap[w.heap.size + 1 + 1]? = some (.cells #[.func (.func 137) #[] #[.pointer (some ⟨w.heap.size + 1, 0, none⟩)], .slice none 0 0] 242 (0, 0))) := by
    have := HB.out
    exact hid (by simpa using this)
  clear HB
  have d3 : (w1.setCell ⟨w.heap.size, 2, none⟩ (.pointer (some ⟨w.heap.size + 1 + 1, 0, none⟩))).cell? ⟨w.heap.size + 1, 0, none⟩ = some (.pointer (some ⟨w.heap.size, 0, none⟩)) := by
    rw [blk_cell (blk_set_ne E1.out (by simp) _)]; rfl
  go_wp2
  go_ret
  have b0 := blk_set E0.out 2 (.pointer (some ⟨w.heap.size + 1 + 1, 0, none⟩))
  have b1 := blk_set_ne E1.out (p := ⟨w.heap.size, 2, none⟩) (by simp) (.pointer (some ⟨w.heap.size + 1 + 1, 0, none⟩))
  have b2 := blk_set_ne HB2.out (p := ⟨w.heap.size, 2, none⟩) (by simp; omega) (.pointer (some ⟨w.heap.size + 1 + 1, 0, none⟩))
  refine ⟨w.heap.size, fun k => k = w.heap.size ∨ k = w.heap.size + 1 ∨ k = w.heap.size + 1 + 1, rfl, ⟨⟨w.heap.size + 1 + 1, w.heap.size + 1, fun k => k = w.heap.size + 1 + 1, [], b0, ?_, ?_, ?_, .inl rfl, .inr (.inl rfl), ?_⟩⟩, ?_, ?_⟩
  · exact ⟨⟨_, b2, Own.nil _ _ _, fun k e => by simp [Value.ownBlock] at e⟩, rfl, (blk_cell b1 0).trans rfl, (blk_cell b0 0).trans rfl, by omega, by omega⟩
  · intro i h0 hi; simp at hi
  · exact fun k e => .inr (.inr e)
  · simpa [stamped] using Kept.start nearer most.toNat
  · intro k hk
    have h2 := lt_of_some b2
    rcases hk with rfl | rfl | rfl
    · exact ⟨Nat.le_refl _, by omega⟩
    · exact ⟨by omega, by omega⟩
    · exact ⟨by omega, h2⟩
  · exact Below.setCell (keep_trans HK0.out HK.out) (Nat.le_refl _) _
end Go.Proofs.Ytoligbmcceindaa
