/- Contracts: the selector's order (topk.Selector.ahead, the closure that New makes). -/
import Derived.Test.YtoligbmcceindaaOrder
import Derived.Test.YtoligbmcceindaaSeq
set_option linter.unusedVariables false
set_option linter.unusedSimpArgs false
namespace Go.Proofs.Ytoligbmcceindaa
open Go.RowKit Go.Sb

/-- A thing that was offered: a result, and when. -/
abbrev Ent := Res × Int
def tEnt : Ty Ent where
  sz := 3
  pos := by omega
  enc := fun _ x cs => cs = [.int .i64 x.1.1, .int .i64 x.1.2, .int .i64 x.2]
  len := by rintro w x cs rfl; rfl
  one := by rintro w x cs rfl u hu; simp at hu; rcases hu with rfl | rfl | rfl <;> rfl
  keep := fun h _ => h
def tRes : Ty Res where
  sz := 2
  pos := by omega
  enc := fun _ x cs => cs = [.int .i64 x.1, .int .i64 x.2]
  len := by rintro w x cs rfl; rfl
  one := by rintro w x cs rfl u hu; simp at hu; rcases hu with rfl | rfl <;> rfl
  keep := fun h _ => h
theorem tEnt_flatly : Flatly tEnt := fun _ _ _ _ h => h
theorem tRes_flatly : Flatly tRes := fun _ _ _ _ h => h

abbrev ents (w : World) (v : Value) (xs : List Ent) : Prop := Lies tEnt w v xs
abbrev ress (w : World) (v : Value) (xs : List Res) : Prop := Lies tRes w v xs

theorem ents_open {w : World} {v : Value} {xs : List Ent} (h : ents w v xs) (h0 : 0 < xs.length) :
    ∃ b o cap, v = .slice (some ⟨b, o, none⟩) xs.length cap ∧ xs.length ≤ cap ∧ cap ≤ 9223372036854775807 ∧ b < w.heap.size ∧
      ∀ i, i < xs.length → w.cell? ⟨b, o + i * 3, none⟩ = some (.int .i64 (nth xs i).1.1) ∧ w.cell? ⟨b, o + i * 3 + 1, none⟩ = some (.int .i64 (nth xs i).1.2) ∧ w.cell? ⟨b, o + i * 3 + 2, none⟩ = some (.int .i64 (nth xs i).2) := by
  obtain ⟨b, o, cap, e, h1, h2, hb, hat⟩ := h.open_ h0
  refine ⟨b, o, cap, e, h1, h2, hb, fun i hi => ?_⟩
  obtain ⟨c, rfl, hcell⟩ := hat i _ (List.getElem?_eq_getElem hi)
  have e0 := hcell 0 _ rfl
  have e1 := hcell 1 _ rfl
  have e2 := hcell 2 _ rfl
  rw [nth_eq hi]
  exact ⟨by simpa [tEnt] using e0, by simpa [tEnt, Nat.add_assoc] using e1, by simpa [tEnt, Nat.add_assoc] using e2⟩
theorem ress_open {w : World} {v : Value} {xs : List Res} (h : ress w v xs) (h0 : 0 < xs.length) :
    ∃ b o cap, v = .slice (some ⟨b, o, none⟩) xs.length cap ∧ xs.length ≤ cap ∧ cap ≤ 9223372036854775807 ∧ b < w.heap.size ∧
      ∀ i, i < xs.length → w.cell? ⟨b, o + i * 2, none⟩ = some (.int .i64 (nth xs i).1) ∧ w.cell? ⟨b, o + i * 2 + 1, none⟩ = some (.int .i64 (nth xs i).2) := by
  obtain ⟨b, o, cap, e, h1, h2, hb, hat⟩ := h.open_ h0
  refine ⟨b, o, cap, e, h1, h2, hb, fun i hi => ?_⟩
  obtain ⟨c, rfl, hcell⟩ := hat i _ (List.getElem?_eq_getElem hi)
  have e0 := hcell 0 _ rfl
  have e1 := hcell 1 _ rfl
  rw [nth_eq hi]
  exact ⟨by simpa [tRes] using e0, by simpa [tRes, Nat.add_assoc] using e1⟩

set_option maxHeartbeats 1000000 in
theorem ahead_any (s : Nat) (a1 a2 a3 b1 b2 b3 : Int) (w : World) (c0 : w.cell? ⟨s, 0, none⟩ = some (.func (.func 60) #[] #[])) :
    Calls Try.prog 138 #[.pointer (some ⟨s, 0, none⟩), .agg #[.int .i64 a1, .int .i64 a2, .int .i64 a3], .agg #[.int .i64 b1, .int .i64 b2, .int .i64 b3]] w fun e w' =>
      e = .returned (.bool (Sb.ahead nearer ((a1, a2), a3) ((b1, b2), b3))) ∧ Keep w w' := by
  have n1 := World.new_ne w _ c0
  have key : Hid (∀ W, Keep ((w.alloc (.cells #[.int .i64 a1, .int .i64 a2, .int .i64 a3] 213)).alloc (.cells #[.int .i64 b1, .int .i64 b2, .int .i64 b3] 213)) W → Keep w W) :=
    fun W h => keep_trans (keep_alloc (keep_alloc (Below.refl _ w) _) _) h
  by_cases h1 : nearer (a1, a2) (b1, b2) = true
  · have A := hid (show true = Sb.ahead nearer ((a1, a2), a3) ((b1, b2), b3) by simp [Sb.ahead, h1])
    go_enter Try.func138, Try.ntmps138
    go_wp2
    go_region_held3 (fun w' => w'.cell? ⟨s, 0, none⟩ = some (.func (.func 60) #[] #[]) ∧ w'.cell? ⟨w.heap.size, 0, none⟩ = some (.int .i64 a1) ∧ w'.cell? ⟨w.heap.size, 1, none⟩ = some (.int .i64 a2) ∧ w'.cell? ⟨w.heap.size, 2, none⟩ = some (.int .i64 a3) ∧ w'.cell? ⟨w.heap.size + 1, 0, none⟩ = some (.int .i64 b1) ∧ w'.cell? ⟨w.heap.size + 1, 1, none⟩ = some (.int .i64 b2) ∧ w'.cell? ⟨w.heap.size + 1, 2, none⟩ = some (.int .i64 b3))
      (first | go_keep | (go_split_ands; refine ⟨?_, ?_, ?_, ?_, ?_, ?_, ?_⟩ <;> (refine keep_cell (by assumption) ?_; assumption)))
      (first | (go_at_call 60; refine (nearer_any (a1, a2) (b1, b2) _).mono ?_; rintro e w1 ⟨rfl, hk⟩))
    all_goals go_wp2
    go_ret
    exact ⟨ret_bool A.out, key.out _ (keep_trans (keep_dr (Below.refl _ _) 1) hk)⟩
  · have h1 : nearer (a1, a2) (b1, b2) = false := by simpa using h1
    by_cases h2 : nearer (b1, b2) (a1, a2) = true
    · have A := hid (show false = Sb.ahead nearer ((a1, a2), a3) ((b1, b2), b3) by simp [Sb.ahead, h1, h2])
      go_enter Try.func138, Try.ntmps138
      go_wp2
      go_region_held3 (fun w' => w'.cell? ⟨s, 0, none⟩ = some (.func (.func 60) #[] #[]) ∧ w'.cell? ⟨w.heap.size, 0, none⟩ = some (.int .i64 a1) ∧ w'.cell? ⟨w.heap.size, 1, none⟩ = some (.int .i64 a2) ∧ w'.cell? ⟨w.heap.size, 2, none⟩ = some (.int .i64 a3) ∧ w'.cell? ⟨w.heap.size + 1, 0, none⟩ = some (.int .i64 b1) ∧ w'.cell? ⟨w.heap.size + 1, 1, none⟩ = some (.int .i64 b2) ∧ w'.cell? ⟨w.heap.size + 1, 2, none⟩ = some (.int .i64 b3))
        (first | go_keep | (go_split_ands; refine ⟨?_, ?_, ?_, ?_, ?_, ?_, ?_⟩ <;> (refine keep_cell (by assumption) ?_; assumption)))
        (first | (go_at_call 60; refine (nearer_any (a1, a2) (b1, b2) _).mono ?_; rintro e w1 ⟨rfl, hk⟩))
      all_goals go_wp2
      go_region_held3 (fun w' => w'.cell? ⟨s, 0, none⟩ = some (.func (.func 60) #[] #[]) ∧ w'.cell? ⟨w.heap.size, 0, none⟩ = some (.int .i64 a1) ∧ w'.cell? ⟨w.heap.size, 1, none⟩ = some (.int .i64 a2) ∧ w'.cell? ⟨w.heap.size, 2, none⟩ = some (.int .i64 a3) ∧ w'.cell? ⟨w.heap.size + 1, 0, none⟩ = some (.int .i64 b1) ∧ w'.cell? ⟨w.heap.size + 1, 1, none⟩ = some (.int .i64 b2) ∧ w'.cell? ⟨w.heap.size + 1, 2, none⟩ = some (.int .i64 b3))
        (first | go_keep | (go_split_ands; refine ⟨?_, ?_, ?_, ?_, ?_, ?_, ?_⟩ <;> (refine keep_cell (by assumption) ?_; assumption)))
        (first | (go_at_call 60; refine (nearer_any (b1, b2) (a1, a2) _).mono ?_; rintro e w2 ⟨rfl, hk2⟩))
      all_goals go_wp2
      go_ret
      exact ⟨ret_bool A.out, key.out _ (keep_trans (keep_trans (keep_dr (Below.refl _ _) 1) hk) (keep_trans (keep_dr (Below.refl _ _) 1) hk2))⟩
    · have h2 : nearer (b1, b2) (a1, a2) = false := by simpa using h2
      have A := hid (show decide (a3 < b3) = Sb.ahead nearer ((a1, a2), a3) ((b1, b2), b3) by simp [Sb.ahead, h1, h2])
      go_enter Try.func138, Try.ntmps138
      go_wp2
      go_region_held3 (fun w' => w'.cell? ⟨s, 0, none⟩ = some (.func (.func 60) #[] #[]) ∧ w'.cell? ⟨w.heap.size, 0, none⟩ = some (.int .i64 a1) ∧ w'.cell? ⟨w.heap.size, 1, none⟩ = some (.int .i64 a2) ∧ w'.cell? ⟨w.heap.size, 2, none⟩ = some (.int .i64 a3) ∧ w'.cell? ⟨w.heap.size + 1, 0, none⟩ = some (.int .i64 b1) ∧ w'.cell? ⟨w.heap.size + 1, 1, none⟩ = some (.int .i64 b2) ∧ w'.cell? ⟨w.heap.size + 1, 2, none⟩ = some (.int .i64 b3))
        (first | go_keep | (go_split_ands; refine ⟨?_, ?_, ?_, ?_, ?_, ?_, ?_⟩ <;> (refine keep_cell (by assumption) ?_; assumption)))
        (first | (go_at_call 60; refine (nearer_any (a1, a2) (b1, b2) _).mono ?_; rintro e w1 ⟨rfl, hk⟩))
      all_goals go_wp2
      go_region_held3 (fun w' => w'.cell? ⟨s, 0, none⟩ = some (.func (.func 60) #[] #[]) ∧ w'.cell? ⟨w.heap.size, 0, none⟩ = some (.int .i64 a1) ∧ w'.cell? ⟨w.heap.size, 1, none⟩ = some (.int .i64 a2) ∧ w'.cell? ⟨w.heap.size, 2, none⟩ = some (.int .i64 a3) ∧ w'.cell? ⟨w.heap.size + 1, 0, none⟩ = some (.int .i64 b1) ∧ w'.cell? ⟨w.heap.size + 1, 1, none⟩ = some (.int .i64 b2) ∧ w'.cell? ⟨w.heap.size + 1, 2, none⟩ = some (.int .i64 b3))
        (first | go_keep | (go_split_ands; refine ⟨?_, ?_, ?_, ?_, ?_, ?_, ?_⟩ <;> (refine keep_cell (by assumption) ?_; assumption)))
        (first | (go_at_call 60; refine (nearer_any (b1, b2) (a1, a2) _).mono ?_; rintro e w2 ⟨rfl, hk2⟩))
      all_goals go_wp2
      go_ret
      exact ⟨ret_bool A.out, key.out _ (keep_trans (keep_trans (keep_dr (Below.refl _ _) 1) hk) (keep_trans (keep_dr (Below.refl _ _) 1) hk2))⟩
end Go.Proofs.Ytoligbmcceindaa
