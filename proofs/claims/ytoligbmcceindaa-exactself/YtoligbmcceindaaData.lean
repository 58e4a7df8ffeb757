/- Contracts: package data (items) and vec.Clone. -/
import Derived.Test.YtoligbmcceindaaSame
import Derived.WalkSpells
set_option linter.unusedVariables false
set_option linter.unusedSimpArgs false
namespace Go.Proofs.Ytoligbmcceindaa
open Go.RowKit Go.Sb

theorem info_i32 : (Try.prog.info? 21).map (fun i => (i.zero, i.size, i.bytes)) = some (some (.int .i32 0), (tInt .i32).sz, 4) := by kernel_rfl

/-- Items of a dimension: at block g, all coordinates in a row of their own. -/
structure IsItems (S : Nat → Prop) (g : Nat) (dim : Int) (l : List (List Int)) (w : World) : Prop where
  ex : ∃ av, w.heap[g]? = some (.cells #[.int .i64 dim, av] 113 (0, 0)) ∧ Own (tInt .i32) 21 w av l.flatten ∧ ∀ k, av.ownBlock = some k → S k
  mine : S g
  dim1 : 1 ≤ dim
  dim2 : dim ≤ 1024
  each : ∀ x ∈ l, vcheck x dim = 0
  few : l.length ≤ 1048576

theorem flatten_len {l : List (List Int)} {n : Nat} (h : ∀ x ∈ l, x.length = n) : l.flatten.length = l.length * n := by
  induction l with
  | nil => simp
  | cons x l ih =>
    rw [List.flatten_cons, List.length_append, ih (fun y hy => h y (List.mem_cons_of_mem _ hy)), h x (List.mem_cons_self ..), List.length_cons, Nat.succ_mul, Nat.add_comm]
theorem flatten_cut {l : List (List Int)} {n : Nat} (h : ∀ x ∈ l, x.length = n) {i : Nat} (hi : i < l.length) : (l.flatten.take ((i + 1) * n)).drop (i * n) = nth l i := by
  induction l generalizing i with
  | nil => simp at hi
  | cons x l ih =>
    have hx : x.length = n := h x (List.mem_cons_self ..)
    cases i with
    | zero =>
      simp [nth, hx, List.take_append, List.take_of_length_le]
    | succ i =>
      have := ih (fun y hy => h y (List.mem_cons_of_mem _ hy)) (i := i) (by simpa using hi)
      rw [List.flatten_cons, show (i + 1 + 1) * n = n + (i + 1) * n by rw [Nat.succ_mul (i + 1)]; omega, show (i + 1) * n = n + i * n by rw [Nat.succ_mul]; omega, List.take_append, hx,
        List.take_of_length_le (l := x) (by omega), List.drop_append, hx, List.drop_of_length_le (l := x) (by omega), List.nil_append]
      simpa [nth, show n + (n + i * n) - n = n + i * n by omega, show n + i * n - n = i * n by omega, Nat.succ_mul, Nat.add_comm] using this

section items
variable {S : Nat → Prop} {g : Nat} {dim : Int} {l : List (List Int)} {w : World}
theorem IsItems.lens (h : IsItems S g dim l w) : ∀ x ∈ l, x.length = dim.toNat := fun x hx => by have := (vcheck_ok (h.each x hx)).2.2.1; omega
theorem IsItems.flen (h : IsItems S g dim l w) : l.flatten.length = l.length * dim.toNat := flatten_len h.lens
theorem IsItems.lt (h : IsItems S g dim l w) : g < w.heap.size := by
  obtain ⟨av, hg, _⟩ := h.ex
  exact lt_of_some hg
theorem IsItems.cells (h : IsItems S g dim l w) : ∃ A c, w.cell? ⟨g, 0, none⟩ = some (.int .i64 dim) ∧ w.cell? ⟨g, 1, none⟩ = some (.slice A (l.length * dim.toNat) c) ∧ l.length * dim.toNat ≤ c ∧ c ≤ 9223372036854775807 ∧
    l.length * dim.toNat ≤ 1073741824 ∧ i32s w (.slice A (l.length * dim.toNat) c) l.flatten := by
  obtain ⟨av, hg, ho, _⟩ := h.ex
  have hl := ho.lies
  obtain ⟨A, c, rfl, h1, h2⟩ := hl.form
  have hf := h.flen
  rw [hf] at h1 hl hg
  refine ⟨A, c, by rw [blk_cell hg]; rfl, by rw [blk_cell hg]; rfl, h1, h2, ?_, hl⟩
  have h3 := h.few
  have h4 := h.dim2
  exact Nat.le_trans (Nat.mul_le_mul h3 (show dim.toNat ≤ 1024 by omega)) (by omega)
theorem IsItems.move {w' : World} (h : IsItems S g dim l w) (hk : Agree S w w') : IsItems S g dim l w' := by
  obtain ⟨⟨av, hg, ho, hS⟩, hm, h1, h2, h3, h4⟩ := h
  exact ⟨⟨av, hk.at hg hm, ho.move (tInt_flatly _) (fun k e hlt => hk k (hS k e) hlt), hS⟩, hm, h1, h2, h3, h4⟩
theorem IsItems.keep {w' : World} (h : IsItems S g dim l w) (hk : Keep w w') : IsItems S g dim l w' := h.move (agree_keep hk)
theorem IsItems.mono {S' : Nat → Prop} (h : IsItems S g dim l w) (hs : ∀ k, k < w.heap.size → S k → S' k) : IsItems S' g dim l w := by
  obtain ⟨⟨av, hg, ho, hS⟩, hm, h1, h2, h3, h4⟩ := h
  exact ⟨⟨av, hg, ho, fun k e => hs k (ho.lt e) (hS k e)⟩, hs g (lt_of_some hg) hm, h1, h2, h3, h4⟩
end items

set_option maxHeartbeats 400000 in
theorem dim_any (S : Nat → Prop) (g : Nat) (dim : Int) (l : List (List Int)) (w : World) (h : IsItems S g dim l w) :
    Calls Try.prog 21 #[.pointer (some ⟨g, 0, none⟩)] w fun e w' => e = .returned (.int .i64 dim) ∧ w = w' := by
  obtain ⟨A, c, c0, c1, _⟩ := h.cells
  clear h
  go_enter Try.func21, Try.ntmps21
  go_wp2
  go_ret
  exact ⟨rfl, rfl⟩

set_option maxHeartbeats 400000 in
theorem len_any (S : Nat → Prop) (g : Nat) (dim : Int) (l : List (List Int)) (w : World) (h : IsItems S g dim l w) :
    Calls Try.prog 22 #[.pointer (some ⟨g, 0, none⟩)] w fun e w' => e = .returned (.int .i64 l.length) ∧ Drawn w w' := by
  obtain ⟨A, c, c0, c1, h1, h2, h3, _⟩ := h.cells
  have d1 := h.dim1
  have d2 := h.dim2
  have key : Hid (wrap64 (((l.length * dim.toNat : Nat) : Int) / dim) = (l.length : Int)) := by
    obtain ⟨n, rfl⟩ : ∃ n : Nat, dim = n := ⟨dim.toNat, by omega⟩
    have h5 : ((l.length * (n : Int).toNat : Nat) : Int) / (n : Int) = l.length := by
      rw [Int.toNat_natCast, Int.natCast_mul, Int.mul_ediv_cancel _ (by omega)]
    have h6 := h.few
    show wrap64 _ = _
    rw [h5, w64 (by omega)]
  clear h
  generalize hn : l.length * dim.toNat = n at c1 h1 h3 key
  clear hn
  go_enter Try.func22, Try.ntmps22
  go_wp2
  go_quiet (fail)
  go_wp2
  go_ret
  exact ⟨ret_int key.out, ⟨_, rfl⟩⟩

set_option maxHeartbeats 400000 in
/-- An item's row, read in place. -/
theorem row_in (S : Nat → Prop) (g : Nat) (dim : Int) (l : List (List Int)) (id : Nat) (w : World) (h : IsItems S g dim l w) (hid_ : id < l.length) :
    Calls Try.prog 68 #[.pointer (some ⟨g, 0, none⟩), .int .i64 id] w fun e w' => (∃ v, e = .returned v ∧ v ≠ .slice none 0 0 ∧ i32s w' v (nth l id)) ∧ Drawn w w' := by
  obtain ⟨A, c, c0, c1, h1, h2, h3, hl⟩ := h.cells
  have d1 := h.dim1
  have d2 := h.dim2
  have hfew := h.few
  obtain ⟨n, rfl⟩ : ∃ n : Nat, dim = n := ⟨dim.toNat, by omega⟩
  rw [Int.toNat_natCast] at c1 h1 h3 hl
  have hb1 : id * n ≤ 1073741824 := Nat.le_trans (Nat.mul_le_mul (show id ≤ 1048576 by omega) (show n ≤ 1024 by omega)) (by omega)
  have hb2 : (id + 1) * n ≤ l.length * n := Nat.mul_le_mul_right _ hid_
  have hb3 : (id + 1) * n = id * n + n := Nat.succ_mul _ _
  have hlens := h.lens
  rw [Int.toNat_natCast] at hlens
  have hpos : 0 < l.flatten.length := by rw [flatten_len hlens]; exact Nat.mul_pos (by omega) (by omega)
  obtain ⟨b, o, cap, e1, _, _, hb, _⟩ := ints_open hl hpos
  injection e1 with e1 e2 e3
  subst e1 e3
  have HL := hid hl
  have H := hid h
  have cut := hl.cut (lo := id * n) (hi := (id + 1) * n) (by omega) (by rw [← e2]; omega)
  rw [flatten_cut hlens hid_] at cut
  have CUT := hid cut
  have m1 : IntKind.i64.wrap ((id : Int) * (n : Int)) = ((id * n : Nat) : Int) := by
    rw [← Int.natCast_mul, w64i (by omega)]
  have m2 : IntKind.i64.wrap (((id : Int) + 1) * (n : Int)) = (((id + 1) * n : Nat) : Int) := by
    have : ((id : Int) + 1) = ((id + 1 : Nat) : Int) := by omega
    rw [this, ← Int.natCast_mul, w64i (by omega)]
  have m3 : IntKind.i64.wrap ((id : Int) + 1) = (id : Int) + 1 := w64i (by omega)
  clear hl h cut e2
  have i1 : (id : Int) < (l.length : Int) := by omega
  have hx1 : id * n ≤ (id + 1) * n := by omega
  have hx2 : id * n < (id + 1) * n := by omega
  clear hb3
  have j1 : Hid (nth l id = nth l id) := rfl
  generalize id * n = p at m1 CUT hb1 hx1 hx2
  generalize (id + 1) * n = q at m2 CUT hb2 hx1 hx2
  generalize l.length * n = len at *
  have g1 := hid m1
  have g2 := hid m2
  have g3 := hid m3
  clear m1 m2 m3
  go_enter Try.func68, Try.ntmps68
  go_wp2_with (go_at_call 22; refine (len_any _ _ _ _ _ H.out).mono ?_; rintro e w' ⟨rfl, ⟨q2, rfl⟩⟩)
  have m1 := g1.out
  have m2 := g2.out
  have m3 := g3.out
  go_quiet (fail)
  clear m1 m2 m3
  go_wp2
  go_ret
  refine ⟨⟨_, rfl, by simp, ?_⟩, drawn2 _ _ _⟩
  have hc := CUT.out
  simp only [show (tInt IntKind.i32).sz = 1 from rfl, Nat.mul_one] at hc
  exact (hc.keep (keep_drewN _ q2)).keep (keep_drewN _ nq)

set_option maxHeartbeats 400000 in
/-- Where there is none: nothing. -/
theorem row_out (S : Nat → Prop) (g : Nat) (dim : Int) (l : List (List Int)) (id : Int) (w : World) (h : IsItems S g dim l w) (hid_ : id < 0 ∨ (l.length : Int) ≤ id) :
    Calls Try.prog 68 #[.pointer (some ⟨g, 0, none⟩), .int .i64 id] w fun e w' => e = .returned (.slice none 0 0) ∧ Drawn w w' := by
  have H := hid h
  clear h
  by_cases h0 : id < 0
  · clear hid_
    go_enter Try.func68, Try.ntmps68
    go_wp2
    go_ret
    exact ⟨rfl, Drawn.refl _⟩
  · have h1 : (l.length : Int) ≤ id := by omega
    clear hid_
    go_enter Try.func68, Try.ntmps68
    go_wp2_with (go_at_call 22; refine (len_any _ _ _ _ _ H.out).mono ?_; rintro e w' ⟨rfl, ⟨q, rfl⟩⟩)
    go_ret
    exact ⟨rfl, ⟨_, rfl⟩⟩

theorem item_small {l : List (List Int)} {dim : Int} (h : ∀ x ∈ l, vcheck x dim = 0) (i : Nat) : Small (nth l i) := by
  by_cases hi : i < l.length
  · exact small_of_all (vcheck_ok (h _ (nth_mem hi))).2.2.2
  · rw [nth_none (by omega)]
    intro j
    rw [nth_none (by show (default : List Int).length ≤ _; exact Nat.zero_le _)]
    exact ⟨by decide, by decide⟩

set_option maxHeartbeats 400000 in
theorem ifar_any (S : Nat → Prop) (g : Nat) (dim : Int) (l : List (List Int)) (id : Nat) (vb : Value) (ys : List Int) (w : World) (h : IsItems S g dim l w) (hid_ : id < l.length) (hb : i32s w vb ys) (sb : Small ys) :
    Calls Try.prog 106 #[.pointer (some ⟨g, 0, none⟩), .int .i64 id, vb] w fun e w' => e = .returned (.int .i64 (far (nth l id) ys)) ∧ Drawn w w' := by
  have sa := item_small h.each id
  have hlen : (nth l id).length ≤ 100000 := by
    have := h.lens _ (nth_mem hid_)
    have := h.dim2
    omega
  have H := hid h
  have HB := hid hb
  have SA := hid sa
  have SB := hid sb
  clear h hb sa sb
  go_enter Try.func106, Try.ntmps106
  go_wp2_with fail
  refine (row_in S g dim l id w H.out hid_).mono ?_
  rintro e w' ⟨⟨v, rfl, hne, hv⟩, hd⟩
  have HV := hid hv
  have HD := hid hd
  clear hv hd hne
  go_wp2_with fail
  refine (far_any v vb _ ys _ HV.out (HB.out.keep HD.out.keep) SA.out SB.out hlen).mono ?_
  rintro e w2 ⟨rfl, hd2⟩
  have HD2 := hid hd2
  clear hd2
  go_wp2
  go_ret
  exact ⟨rfl, HD.out.trans HD2.out⟩
end Go.Proofs.Ytoligbmcceindaa
