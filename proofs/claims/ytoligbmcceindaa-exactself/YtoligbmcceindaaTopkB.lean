/- Contracts: the heap of entries (heap.Heap at topk's entries): its order, Len, Peek, Push. -/
import Derived.Test.YtoligbmcceindaaTopkA
import Derived.Test.YtoligbmcceindaaRow
import Derived.BigRegion
import Derived.Deep.RegionLaw
import Derived.Laws.ResultCell
import Derived.Laws.Rows
set_option linter.unusedVariables false
set_option linter.unusedSimpArgs false
namespace Go.Proofs.Ytoligbmcceindaa
open Go.RowKit Go.Sb

/-- The heap's order: the last of all is on top. -/
def below (x y : Ent) : Bool := Sb.ahead nearer y x
theorem below_swo : SWO below := by
  have S := ahead_swo nearer_swo
  exact ⟨fun a => S.irrefl a, fun a b h => S.asymm _ _ h, fun a b c h1 h2 => S.trans _ _ _ h2 h1, fun a b c h1 h2 => S.ntrans _ _ _ h2 h1⟩

set_option maxHeartbeats 1000000 in
theorem below_any (b s : Nat) (a1 a2 a3 b1 b2 b3 : Int) (w : World) (c0 : w.cell? ⟨b, 0, none⟩ = some (.pointer (some ⟨s, 0, none⟩))) (c1 : w.cell? ⟨s, 0, none⟩ = some (.func (.func 60) #[] #[])) :
    Calls Try.prog 137 #[.agg #[.int .i64 a1, .int .i64 a2, .int .i64 a3], .agg #[.int .i64 b1, .int .i64 b2, .int .i64 b3], .pointer (some ⟨b, 0, none⟩)] w fun e w' =>
      e = .returned (.bool (below ((a1, a2), a3) ((b1, b2), b3))) ∧ Keep w w' := by
  have c2 : ((w.alloc (.cells #[.int .i64 a1, .int .i64 a2, .int .i64 a3] 213)).alloc (.cells #[.int .i64 b1, .int .i64 b2, .int .i64 b3] 213)).cell? ⟨b, 0, none⟩ = some (.pointer (some ⟨s, 0, none⟩)) :=
    keep_cell (keep_alloc (keep_alloc (Below.refl _ w) _) _) c0
  clear c0
  have C1 := hid c1
  clear c1
  go_enter Try.func137, Try.ntmps137
  go_wp2_with fail
  refine (ahead_any s _ _ _ _ _ _ _ ?_).mono ?_
  · exact keep_cell (keep_alloc (keep_alloc (Below.refl _ w) _) _) C1.out
  rintro e w1 ⟨rfl, hk⟩
  go_wp2
  go_ret
  exact ⟨rfl, keep_trans (keep_alloc (keep_alloc (Below.refl _ w) _) _) hk⟩

/-- A heap of entries at block h; its order asks the selector at block s, through the box b. -/
structure IsHeap (S : Nat → Prop) (h b s : Nat) (l : List Ent) (w : World) : Prop where
  ex : ∃ av, w.heap[h]? = some (.cells #[.func (.func 137) #[] #[.pointer (some ⟨b, 0, none⟩)], av] 242 (0, 0)) ∧ Sb.Own tEnt 213 w av l ∧ ∀ k, av.ownBlock = some k → S k
  mine : S h
  box : w.cell? ⟨b, 0, none⟩ = some (.pointer (some ⟨s, 0, none⟩))
  sel : w.cell? ⟨s, 0, none⟩ = some (.func (.func 60) #[] #[])
  notb : ¬ S b
  nots : ¬ S s

section isheap
variable {S : Nat → Prop} {h b s : Nat} {l : List Ent} {w : World}
theorem IsHeap.lt (H : IsHeap S h b s l w) : h < w.heap.size := by
  obtain ⟨av, hg, _⟩ := H.ex
  exact lt_of_some hg
theorem IsHeap.cells (H : IsHeap S h b s l w) : ∃ A c, w.cell? ⟨h, 0, none⟩ = some (.func (.func 137) #[] #[.pointer (some ⟨b, 0, none⟩)]) ∧ w.cell? ⟨h, 1, none⟩ = some (.slice A l.length c) ∧ l.length ≤ c ∧ c ≤ 9223372036854775807 ∧
    l.length ≤ 281474976710656 ∧ ents w (.slice A l.length c) l := by
  obtain ⟨av, hg, ho, _⟩ := H.ex
  have hl := ho.lies
  obtain ⟨A, c, rfl, h1, h2⟩ := hl.form
  exact ⟨A, c, by rw [blk_cell hg]; rfl, by rw [blk_cell hg]; rfl, h1, h2, hl.len_le, hl⟩
theorem IsHeap.move {w' : World} (H : IsHeap S h b s l w) (hk : Agree (fun k => S k ∨ k = b ∨ k = s) w w') : IsHeap S h b s l w' := by
  obtain ⟨⟨av, hg, ho, hS⟩, hm, h1, h2, h3, h4⟩ := H
  exact ⟨⟨av, hk.at hg (.inl hm), ho.move tEnt_flatly (fun k e hlt => hk k (.inl (hS k e)) hlt), hS⟩, hm, hk.cell h1 (.inr (.inl rfl)), hk.cell h2 (.inr (.inr rfl)), h3, h4⟩
theorem IsHeap.keep {w' : World} (H : IsHeap S h b s l w) (hk : Keep w w') : IsHeap S h b s l w' := H.move (agree_keep hk)
theorem IsHeap.mono {S' : Nat → Prop} (H : IsHeap S h b s l w) (hs : ∀ k, k < w.heap.size → S k → S' k) (hb : ¬ S' b) (hs' : ¬ S' s) : IsHeap S' h b s l w := by
  obtain ⟨⟨av, hg, ho, hS⟩, hm, h1, h2, h3, h4⟩ := H
  exact ⟨⟨av, hg, ho, fun k e => hs k (ho.lt e) (hS k e)⟩, hs h (lt_of_some hg) hm, h1, h2, hb, hs'⟩
end isheap

set_option maxHeartbeats 400000 in
theorem heap_len_any (S : Nat → Prop) (h b s : Nat) (l : List Ent) (w : World) (H : IsHeap S h b s l w) :
    Calls Try.prog 159 #[.pointer (some ⟨h, 0, none⟩)] w fun e w' => e = .returned (.int .i64 l.length) ∧ w = w' := by
  obtain ⟨A, c, c0, c1, k1, k2, k3, _⟩ := H.cells
  clear H
  go_enter Try.func159, Try.ntmps159
  go_wp2
  go_ret
  exact ⟨rfl, rfl⟩

theorem keep_setNew {w : World} {o : Obj} {i : Nat} {u : Value} {n : Nat} (hn : n = w.heap.size) : Keep w ((w.alloc o).setCell ⟨n, i, none⟩ u) := by
  subst hn
  exact Below.setCell (keep_alloc (Below.refl _ w) o) (Nat.le_refl _) _

theorem results_row2 {P : Program} {fn : Func} {p u : Tmp} {ty : TypeId} (h : fn.results = #[.cell p ty, .tmp u]) (tmps : Array Value) (w : World) (g : Nat) (t : TypeId) (cs : Array Value) (fr : Nat × Nat) (d : TypeDesc)
    (hp : tmps.getD p undef = .pointer (some ⟨g, 0, none⟩)) (hg : w.heap[g]? = some (.cells cs t fr))
    (hu : P.underlying ty = some d) (hd : (match d with | .struct _ | .array _ _ => true | _ => false) = true) (hi : (P.info? ty).map (·.size) = some cs.size) :
    (results fn tmps).run P w = .ok (.tuple #[.agg cs, tmps.getD u undef]) w := by
  rw [results_cell_tmp h, hp]
  simp [asAddr, run_loadVar_row w g t ty cs fr d hg hu hd hi, Result.andThen]

set_option maxHeartbeats 400000 in
theorem peek_any (S : Nat → Prop) (h b s : Nat) (l : List Ent) (w : World) (H : IsHeap S h b s l w) (h0 : 0 < l.length) :
    Calls Try.prog 141 #[.pointer (some ⟨h, 0, none⟩)] w fun e w' =>
      e = .returned (.tuple #[.agg #[.int .i64 (nth l 0).1.1, .int .i64 (nth l 0).1.2, .int .i64 (nth l 0).2], .bool true]) ∧ Keep w w' := by
  obtain ⟨A, c, c0, c1, k1, k2, k3, hl⟩ := H.cells
  obtain ⟨b', o', c', e, _, _, hb', hat⟩ := ents_open hl h0
  injection e with e1 e2 e3
  subst e1 e3
  obtain ⟨q0, q1, q2⟩ := hat 0 h0
  simp only [Nat.zero_mul, Nat.add_zero] at q0 q1 q2
  obtain ⟨⟨⟨x1, x2⟩, x3⟩, hx⟩ : ∃ x, nth l 0 = x := ⟨_, rfl⟩
  rw [hx] at q0 q1 q2
  have hlt := H.lt
  have hb : ((l.length : Int) == 0) = false := beq_eq_false_iff_ne.2 (by omega)
  have h1 : (0 : Int) < (l.length : Int) := by omega
  have HX := hid hx
  have K := keep_alloc (Below.refl _ w) (.cells #[.int .i64 0, .int .i64 0, .int .i64 0] 213)
  have c2 := keep_cell K c1
  replace q0 := keep_cell K q0
  replace q1 := keep_cell K q1
  replace q2 := keep_cell K q2
  clear hat hl H hlt hb' hx c0 c1 K
  go_enter Try.func141, Try.ntmps141
  go_wp2
  refine bodyPost_ret (results_row2 rfl _ _ w.heap.size 213 _ (0, 0) _ rfl (blk_new w _) Try.underlying213 rfl (by kernel_rfl)) rfl ⟨?_, keep_alloc (Below.refl _ w) _⟩
  rw [HX.out]
  rfl

theorem keep_frz {w w' : World} (h : Keep w w') {a : Addr} (hlt : a.block < w.heap.size) (hf : w.frozen? a = false) : w'.frozen? a = false := (World.frozen?_of_block (h.block a.block hlt)).trans hf
theorem new_blk {X : World} {o : Obj} {n : Nat} (hn : X.heap.size = n) : ((X.alloc o).drew).heap[n]? = some o := by
  subst hn
  exact blk_new X o
theorem keep_drew {w w' : World} (h : Keep w w') : Keep w w'.drew := ⟨h.os, h.tape, h.output, h.size, h.block⟩
theorem grown_free {w w' : World} {row : Option Nat} (h : w.grownBy w' row) {a : Addr} {v : Value} (hc : w.cell? a = some v) (hf : w.frozen? a = false) (hne : some a.block ≠ row) : w'.frozen? a = false :=
  (World.frozen?_of_block (h.block a.block (World.block_lt_of_cell? _ _ hc) hne)).trans hf
theorem info_ent : (Try.prog.info? 213).map (fun i => (i.zero, i.size, i.bytes)) = some (some (.agg #[.int .i64 0, .int .i64 0, .int .i64 0]), tEnt.sz, 24) := by kernel_rfl

/-- An entry is written over. -/
theorem ent_store {w : World} {g n c : Nat} {xs : List Ent} (h : Sb.Own tEnt 213 w (.slice (some ⟨g, 0, none⟩) n c) xs) {i : Nat} (hi : i < xs.length) (y1 y2 y3 : Int) :
    Sb.Own tEnt 213 (((w.setCell ⟨g, i * 3, none⟩ (.int .i64 y1)).setCell ⟨g, i * 3 + 1, none⟩ (.int .i64 y2)).setCell ⟨g, i * 3 + 2, none⟩ (.int .i64 y3)) (.slice (some ⟨g, 0, none⟩) n c) (xs.set i ((y1, y2), y3)) := by
  obtain ⟨_, _, cur, hg, hc, hs⟩ := h.block rfl
  have hmul : (i + 1) * 3 ≤ c * 3 := Nat.mul_le_mul_right _ (by omega)
  have hs' : cur.size = c * 3 := hs
  refine h.store tEnt_flatly rfl hi (c := [.int .i64 y1, .int .i64 y2, .int .i64 y3]) rfl hg (blk_set (blk_set (blk_set hg _ _) _ _) _ _) (by simp) ?_
  intro j
  show _ = if i * 3 ≤ j ∧ j < i * 3 + 3 then _ else _
  rw [Array.getElem?_setIfInBounds, Array.getElem?_setIfInBounds, Array.getElem?_setIfInBounds]
  simp only [Array.size_setIfInBounds]
  by_cases h1 : i * 3 ≤ j ∧ j < i * 3 + 3
  · rw [if_pos h1]
    obtain ⟨q, rfl⟩ : ∃ q, j = i * 3 + q := ⟨j - i * 3, by omega⟩
    have hq : q < 3 := by omega
    have e0 : i * 3 + q - i * tEnt.sz = q := by show i * 3 + q - i * 3 = q; omega
    rw [e0]
    match q, hq with
    | 0, _ => rw [if_neg (by omega), if_neg (by omega), if_pos (by omega), if_pos (by omega)]; rfl
    | 1, _ => rw [if_neg (by omega), if_pos (by omega), if_pos (by omega)]; rfl
    | 2, _ => rw [if_pos (by omega), if_pos (by omega)]; rfl
  · rw [if_neg h1, if_neg (by omega), if_neg (by omega), if_neg (by omega)]

theorem IsHeap.row {S : Nat → Prop} {h b s : Nat} {l : List Ent} {w : World} (H : IsHeap S h b s l w) {g o c : Nat} (hv : w.cell? ⟨h, 1, none⟩ = some (.slice (some ⟨g, o, none⟩) l.length c)) :
    o = 0 ∧ g ≠ h ∧ g ≠ b ∧ g ≠ s ∧ S g ∧ (∀ i, w.frozen? ⟨g, i, none⟩ = false) ∧ Sb.Own tEnt 213 w (.slice (some ⟨g, 0, none⟩) l.length c) l := by
  obtain ⟨av, hg, ho, hS⟩ := H.ex
  have hav : av = .slice (some ⟨g, o, none⟩) l.length c := by rw [blk_cell hg] at hv; simpa using hv
  subst hav
  obtain ⟨rfl, _, cur, hcur, hc, hs⟩ := ho.block rfl
  refine ⟨rfl, ?_, ?_, ?_, hS g rfl, fun i => blk_free hcur i, ho⟩
  · rintro rfl
    rw [hg] at hcur
    injection hcur with hcur
    injection hcur with _ hcur _
    exact absurd hcur (by decide)
  · rintro rfl
    exact H.notb (hS _ rfl)
  · rintro rfl
    exact H.nots (hS _ rfl)

/-- The heap's list is another one, in place. -/
theorem IsHeap.put {S : Nat → Prop} {h b s : Nat} {l l' : List Ent} {w w' : World} (H : IsHeap S h b s l w) {g c : Nat} (hv : w.cell? ⟨h, 1, none⟩ = some (.slice (some ⟨g, 0, none⟩) l.length c))
    (hl : l'.length = l.length) (hown : Sb.Own tEnt 213 w' (.slice (some ⟨g, 0, none⟩) l.length c) l') (hm : Sb.Mod (fun k => k = g) w w') : IsHeap S h b s l' w' := by
  obtain ⟨_, n1, n2, n3, hSg, _, _⟩ := H.row hv
  obtain ⟨⟨av, hg, ho, hS⟩, hm', h1, h2, h3, h4⟩ := H
  have hav : av = .slice (some ⟨g, 0, none⟩) l.length c := by rw [blk_cell hg] at hv; simpa using hv
  subst hav
  exact ⟨⟨_, blk_mod hg hm n1.symm, hown, hS⟩, hm', hm.cell h1 n2.symm, hm.cell h2 n3.symm, h3, h4⟩

/-- Two entries change places. -/
theorem IsHeap.swapped {S : Nat → Prop} {h b s : Nat} {l : List Ent} {w : World} (H : IsHeap S h b s l w) {g c : Nat} (hv : w.cell? ⟨h, 1, none⟩ = some (.slice (some ⟨g, 0, none⟩) l.length c)) {i u : Nat} (hi : i < l.length) (hu : u < l.length)
    {i1 i2 i3 u1 u2 u3 : Int} (hxi : nth l i = ((i1, i2), i3)) (hxu : nth l u = ((u1, u2), u3)) :
    IsHeap S h b s (swap l i u) (((((((w.setCell ⟨g, i * 3, none⟩ (.int .i64 u1)).setCell ⟨g, i * 3 + 1, none⟩ (.int .i64 u2)).setCell ⟨g, i * 3 + 2, none⟩ (.int .i64 u3)).setCell ⟨g, u * 3, none⟩ (.int .i64 i1)).setCell ⟨g, u * 3 + 1, none⟩ (.int .i64 i2)).setCell ⟨g, u * 3 + 2, none⟩ (.int .i64 i3)).drew) ∧
    Sb.Mod (fun k => k = g) w (((((((w.setCell ⟨g, i * 3, none⟩ (.int .i64 u1)).setCell ⟨g, i * 3 + 1, none⟩ (.int .i64 u2)).setCell ⟨g, i * 3 + 2, none⟩ (.int .i64 u3)).setCell ⟨g, u * 3, none⟩ (.int .i64 i1)).setCell ⟨g, u * 3 + 1, none⟩ (.int .i64 i2)).setCell ⟨g, u * 3 + 2, none⟩ (.int .i64 i3)).drew) := by
  obtain ⟨_, _, _, _, _, _, hrow⟩ := H.row hv
  have hm : Sb.Mod (fun k => k = g) w (((((((w.setCell ⟨g, i * 3, none⟩ (.int .i64 u1)).setCell ⟨g, i * 3 + 1, none⟩ (.int .i64 u2)).setCell ⟨g, i * 3 + 2, none⟩ (.int .i64 u3)).setCell ⟨g, u * 3, none⟩ (.int .i64 i1)).setCell ⟨g, u * 3 + 1, none⟩ (.int .i64 i2)).setCell ⟨g, u * 3 + 2, none⟩ (.int .i64 i3)).drew) := by
    have hs : ∀ (W : World) (o : Nat) (v : Value), Sb.Mod (fun k => k = g) w W → Sb.Mod (fun k => k = g) w (W.setCell ⟨g, o, none⟩ v) := fun W o v h => h.setCell (.inl rfl) v
    exact (hs _ _ _ (hs _ _ _ (hs _ _ _ (hs _ _ _ (hs _ _ _ (hs _ _ _ (Mod.refl _ w))))))).drew
  refine ⟨H.put hv (swap_length _ _ _) ?_ hm, hm⟩
  have h1 := ent_store hrow hi u1 u2 u3
  have h2 := ent_store h1 (i := u) (by simpa using hu) i1 i2 i3
  have e : swap l i u = (l.set i ((u1, u2), u3)).set u ((i1, i2), i3) := by rw [swap, hxi, hxu]
  rw [e]
  exact h2.keep (keep_drew (Below.refl _ _))

set_option maxHeartbeats 2000000 in
theorem push_any (S : Nat → Prop) (h b s : Nat) (l : List Ent) (x1 x2 x3 : Int) (w : World) (H : IsHeap S h b s l w) (ho : HeapOrd below l) (hfew : l.length < 1099511627776) :
    Calls Try.prog 140 #[.pointer (some ⟨h, 0, none⟩), .agg #[.int .i64 x1, .int .i64 x2, .int .i64 x3]] w fun e w' =>
      (∃ v, e = .returned v) ∧ ∃ l', l'.Perm (l ++ [((x1, x2), x3)]) ∧ HeapOrd below l' ∧ IsHeap (fun k => S k ∨ w.heap.size ≤ k) h b s l' w' ∧ Sb.Mod S w w' := by
  obtain ⟨A, c, c0, c1, k1, k2, k3, hl⟩ := H.cells
  obtain ⟨av, hg, hown, hSb⟩ := H.ex
  have hav : av = .slice A l.length c := by rw [blk_cell hg] at c1; simpa using c1
  subst hav
  have hne : Hid (∀ k, (Value.slice A l.length c).ownBlock = some k → k ≠ h ∧ k ≠ w.heap.size) := by
    intro k hk
    refine ⟨fun e => ?_, Nat.ne_of_lt (hown.lt hk)⟩
    subst e
    obtain ⟨cs, hc⟩ := hown.typed hk
    rw [hg] at hc
    injection hc with hc
    injection hc with _ hc _
    exact absurd hc (by decide)
  have hbytes : Hid ((l.length + 1) * 24 ≤ 140737488355328) := by show _ ≤ _; omega
  have K := keep_alloc (Below.refl _ w) (.cells #[.int .i64 x1, .int .i64 x2, .int .i64 x3] 213)
  have f1 : w.frozen? ⟨h, 1, none⟩ = false := blk_free hg 1
  have c2 := keep_cell K c1
  have f2 := keep_free K c1 f1
  have c3 := keep_cell (keep_alloc K (.cells #[.int .i64 x1, .int .i64 x2, .int .i64 x3] 213)) c1
  have C3 := hid (keep_cell (keep_drew (keep_alloc K (.cells #[.int .i64 x1, .int .i64 x2, .int .i64 x3] 213))) c1)
  have F3 := hid (keep_free (keep_drew (keep_alloc K (.cells #[.int .i64 x1, .int .i64 x2, .int .i64 x3] 213))) c1 f1)
  have HO := hid (hown.keep K)
  have HOX : Hid (Sb.Own tEnt 213 ((w.alloc (.cells #[.int .i64 x1, .int .i64 x2, .int .i64 x3] 213)).alloc (.cells #[.int .i64 x1, .int .i64 x2, .int .i64 x3] 213)).drew (.slice A l.length c) l) := HO.out.keep (keep_drew (keep_alloc (Below.refl _ _) _))
  have HBX : Hid (ents ((w.alloc (.cells #[.int .i64 x1, .int .i64 x2, .int .i64 x3] 213)).alloc (.cells #[.int .i64 x1, .int .i64 x2, .int .i64 x3] 213)).drew (.slice (some ⟨w.heap.size + 1, 0, none⟩) 1 1) [((x1, x2), x3)]) := Lies.box (w := w) (e := 213) (c := [.int .i64 x1, .int .i64 x2, .int .i64 x3]) (show tEnt.enc _ ((x1, x2), x3) _ from rfl) (new_blk (by simp))
  have HK := hid K
  have HH := hid H
  have HORD := hid ho
  have HG := hid hg
  have HSB := hid hSb
  have HL := hid hl
  have hh : h ≠ w.heap.size := Nat.ne_of_lt H.lt
  clear K H hg hSb hl hown c0 c1 f1 ho
  go_enter Try.func140, Try.ntmps140
  go_wp2
  refine' (fun (main : (_ : Prop)) => _) _
  rotate_left
  focus
    go_region_law
      ((refine step_app (d := tEnt) (by rfl) _ _ 218 213 (.agg #[.int .i64 0, .int .i64 0, .int .i64 0]) 24 (by rfl) Try.underlying218 info_ent rfl (by decide) (.slice A l.length c) _ l [((x1, x2), x3)] (by rfl) (by rfl) HOX.out HBX.out hbytes.out (flat_any tEnt_flatly _ _ _) ?_; intro v' w1 hown1 hgrow hat; obtain ⟨A', c', rfl, hc1, hc2⟩ := hown1.form; have d2 := hgrow.cell C3.out (fun e => (hne.out _ e.symm).1 rfl); have g2 := grown_free hgrow C3.out F3.out (fun e => (hne.out _ e.symm).1 rfl); have HW := hid hown1; have HGR := hid hgrow; have HAT := hid hat; clear hown1 hgrow hat))
    all_goals (revert A' c' w1; exact main)
  intro w1 A' c' hc1 hc2 d2 g2 HW HGR HAT
  have hne2 : ∀ k, (Value.slice A' (l ++ [((x1, x2), x3)]).length c').ownBlock = some k → k ≠ h := by
    intro k hk e
    subst e
    obtain ⟨cs, hc⟩ := HW.out.typed hk
    have hh := HGR.out.block k (by have := lt_of_some HG.out; simp; omega) (fun e => (hne.out _ e.symm).1 rfl)
    rw [show ((w.alloc (.cells #[.int .i64 x1, .int .i64 x2, .int .i64 x3] 213)).alloc (.cells #[.int .i64 x1, .int .i64 x2, .int .i64 x3] 213)).drew.heap[k]? = _ from blk_keep HG.out (keep_drew (keep_alloc HK.out _))] at hh
    rw [hh] at hc
    injection hc with hc
    injection hc with _ hc _
    exact absurd hc (by decide)
  have hm1 : Sb.Mod S w w1 := (Mod.of_keep (keep_drew (keep_alloc HK.out _))).trans (Mod.of_grown HGR.out (fun k e => .inl (HSB.out k e)))
  have hm2 : Sb.Mod S w (w1.setCell ⟨h, 1, none⟩ (Value.slice A' (l ++ [((x1, x2), x3)]).length c')) := hm1.setCell (.inl HH.out.mine) _
  have hI : IsHeap (fun k => S k ∨ w.heap.size ≤ k) h b s (l ++ [((x1, x2), x3)]) (w1.setCell ⟨h, 1, none⟩ (Value.slice A' (l ++ [((x1, x2), x3)]).length c')) := by
    have H := HH.out
    have hbg := HGR.out.block h (by have := lt_of_some HG.out; simp; omega) (fun e => (hne.out _ e.symm).1 rfl)
    have hbg2 := hbg.trans (blk_keep HG.out (keep_drew (keep_alloc HK.out (.cells #[.int .i64 x1, .int .i64 x2, .int .i64 x3] 213))))
    have hb3 := blk_set hbg2 1 (Value.slice A' (l ++ [((x1, x2), x3)]).length c')
    have hbl : b < w.heap.size := World.block_lt_of_cell? _ _ H.box
    have hsl : s < w.heap.size := World.block_lt_of_cell? _ _ H.sel
    refine ⟨⟨_, hb3, ?_, ?_⟩, .inl H.mine, hm2.cell H.box H.notb, hm2.cell H.sel H.nots, fun h => h.elim H.notb (fun h => by omega), fun h => h.elim H.nots (fun h => by omega)⟩
    · exact HW.out.move tEnt_flatly (fun k e _ => Below.heap_setCell _ _ _ _ (fun e2 => hne2 k e e2))
    · intro k hk
      rcases HAT.out with e2 | e2
      · exact .inl (HSB.out k (e2 ▸ hk))
      · rw [e2] at hk
        injection hk with hk
        exact .inr (by rw [← hk]; simp; omega)
  have HI := hid hI
  have HM := hid hm2
  clear hI hm1 hm2 hne2 HW HGR HAT hc1 hc2 HK HG HSB HOX HBX HO HL C3 F3 c2 c3 f2 g2
  have hlen0 : (l ++ [((x1, x2), x3)]).length = l.length + 1 := by simp
  have hd : (w1.setCell ⟨h, 1, none⟩ (Value.slice A' (l ++ [((x1, x2), x3)]).length c')).cell? ⟨h, 1, none⟩ = some (.slice A' (l.length + 1) c') := by
    rw [World.cell?_setCell_same _ _ _ (by rw [d2]), hlen0]
  rw [hlen0] at hd HI HM
  generalize hW2 : w1.setCell ⟨h, 1, none⟩ (Value.slice A' (l.length + 1) c') = w2 at hd HI HM ⊢
  have UP := hid (up_start ((x1, x2), x3) l HORD.out)
  clear d2 hW2
  go_wp2
  go_loopw [4] (fun k wr => ∃ (i : Nat) (l1 : List Ent), k = .int .i64 i ∧ i < l.length + 1 ∧ Hid (l1.length = l.length + 1) ∧ Hid (l1.Perm (l ++ [((x1, x2), x3)])) ∧ Hid (UpInv below l1 i) ∧ Hid (IsHeap (fun k => S k ∨ w.heap.size ≤ k) h b s l1 wr) ∧ Hid (Sb.Mod S w wr)) (fun k _ => (intOf k).toNat)
  case atStart => exact ⟨l.length, _, by go_num, by omega, by show _ = _; simp, List.Perm.refl _, UP, HI, HM⟩
  case round =>
    clear HI HM UP hd
    obtain ⟨i, l1, rfl, hi, hlen, hperm, hup, hheap, hmod⟩ := hrel
    by_cases h0 : 0 < i
    · obtain ⟨A1, cp, cc0, cc1, kk1, kk2, kk3, hl1⟩ := hheap.out.cells
      obtain ⟨b', o', cp', e, _, _, hb', hat⟩ := ents_open hl1 (by have := hlen.out; omega)
      injection e with e1 e2 e3
      subst e1 e3
      obtain ⟨rfl, n1, n2, n3, n4, hfr, hrow⟩ := hheap.out.row cc1
      obtain ⟨u, hu⟩ : ∃ u, (i - 1) / 2 = u := ⟨_, rfl⟩
      have hui : u < i := by omega
      obtain ⟨p0, p1, p2⟩ := hat i (by have := hlen.out; omega)
      obtain ⟨q0, q1, q2⟩ := hat u (by have := hlen.out; omega)
      rw [Nat.zero_add] at p0 p1 p2 q0 q1 q2
      obtain ⟨⟨⟨i1, i2⟩, i3⟩, hxi⟩ : ∃ x, nth l1 i = x := ⟨_, rfl⟩
      obtain ⟨⟨⟨u1, u2⟩, u3⟩, hxu⟩ : ∃ x, nth l1 u = x := ⟨_, rfl⟩
      rw [hxi] at p0 p1 p2
      rw [hxu] at q0 q1 q2
      have hbox := hheap.out.box
      have hsel := hheap.out.sel
      have hii : (i : Int) < (l1.length : Int) := by have := hlen.out; omega
      have hiu : (u : Int) < (l1.length : Int) := by have := hlen.out; omega
      have h0' : (0 : Int) < (i : Int) := by omega
      have HU : Hid ((i - 1) / 2 = u) := hu
      have hq : IntKind.i64.wrap (((i : Int) - 1).tdiv 2) = (u : Int) := by
        have : ((i : Int) - 1).tdiv 2 = (u : Int) := by
          rw [Int.tdiv_eq_ediv_of_nonneg (by omega)]; omega
        rw [this, w64i (by omega)]
      have HXI := hid hxi
      have HXU := hid hxu
      have HFR := hid hfr
      have HROW := hid hrow
      clear hat hl1 hxi hxu hu hfr hrow
      have TF : Hid (∀ t, below ((i1, i2), i3) ((u1, u2), u3) = t → below (nth l1 i) (nth l1 u) = t) := by rw [HXI.out, HXU.out]; exact fun _ h => h
      by_cases t : below ((i1, i2), i3) ((u1, u2), u3) = true
      · have T := hid (TF.out _ t)
        go_wp2
        go_region_held3 (fun w' => w'.cell? ⟨h, 0, none⟩ = some (.func (.func 137) #[] #[.pointer (some ⟨b, 0, none⟩)]) ∧ w'.cell? ⟨h, 1, none⟩ = some (.slice (some ⟨b', 0, none⟩) l1.length cp) ∧
            w'.cell? ⟨b', i * 3, none⟩ = some (.int .i64 i1) ∧ w'.cell? ⟨b', i * 3 + 1, none⟩ = some (.int .i64 i2) ∧ w'.cell? ⟨b', i * 3 + 2, none⟩ = some (.int .i64 i3) ∧
            w'.cell? ⟨b', u * 3, none⟩ = some (.int .i64 u1) ∧ w'.cell? ⟨b', u * 3 + 1, none⟩ = some (.int .i64 u2) ∧ w'.cell? ⟨b', u * 3 + 2, none⟩ = some (.int .i64 u3) ∧
            w'.cell? ⟨b, 0, none⟩ = some (.pointer (some ⟨s, 0, none⟩)) ∧ w'.cell? ⟨s, 0, none⟩ = some (.func (.func 60) #[] #[]))
          (first | go_keep | (go_split_ands; refine ⟨?_, ?_, ?_, ?_, ?_, ?_, ?_, ?_, ?_, ?_⟩ <;> (refine keep_cell (by assumption) ?_; assumption)))
          (first | (go_at_call 137; refine (below_any b s i1 i2 i3 u1 u2 u3 _ (by assumption) (by assumption)).mono ?_; rintro e w3 ⟨rfl, hk⟩))
        have K3 := hid (keep_trans (keep_drew (Below.refl _ wr)) hk)
        clear hk
        have r0 := keep_cell K3.out cc1
        replace p0 := keep_cell K3.out p0
        replace p1 := keep_cell K3.out p1
        replace p2 := keep_cell K3.out p2
        replace q0 := keep_cell K3.out q0
        replace q1 := keep_cell K3.out q1
        replace q2 := keep_cell K3.out q2
        have g0 := keep_frz K3.out hb' (HFR.out (i * 3))
        have g1 := keep_frz K3.out hb' (HFR.out (i * 3 + 1))
        have g2 := keep_frz K3.out hb' (HFR.out (i * 3 + 2))
        have g3 := keep_frz K3.out hb' (HFR.out (u * 3))
        have g4 := keep_frz K3.out hb' (HFR.out (u * 3 + 1))
        have g5 := keep_frz K3.out hb' (HFR.out (u * 3 + 2))
        rename_i hHeld
        clear hHeld cc0 cc1 hbox hsel
        go_wp2
        go_region
        have hw := (hheap.out.keep K3.out).swapped r0 (i := i) (u := u) (by have := hlen.out; omega) (by have := hlen.out; omega) HXI.out HXU.out
        go_wp2
        go_roundw
        case rel =>
          refine ⟨u, swap l1 i u, rfl, by omega, (swap_length _ _ _).trans hlen.out, ?_, ?_, hw.1, ?_⟩
          · exact (swap_perm (by have := hlen.out; omega) (by have := hlen.out; omega)).trans hperm.out
          · have := up_step below_swo hup.out h0 (by have := hlen.out; omega) (by rw [HU.out]; exact T.out)
            rw [HU.out] at this
            exact this
          · exact (hmod.out.keep_trans K3.out).trans (hw.2.mono (fun k _ e => by rw [e]; exact n4))
        case measure => simp [intOf]; omega
      · have t : below ((i1, i2), i3) ((u1, u2), u3) = false := by simpa using t
        have T := hid (TF.out _ t)
        go_wp2
        go_region_held3 (fun w' => w'.cell? ⟨h, 0, none⟩ = some (.func (.func 137) #[] #[.pointer (some ⟨b, 0, none⟩)]) ∧ w'.cell? ⟨h, 1, none⟩ = some (.slice (some ⟨b', 0, none⟩) l1.length cp) ∧
            w'.cell? ⟨b', i * 3, none⟩ = some (.int .i64 i1) ∧ w'.cell? ⟨b', i * 3 + 1, none⟩ = some (.int .i64 i2) ∧ w'.cell? ⟨b', i * 3 + 2, none⟩ = some (.int .i64 i3) ∧
            w'.cell? ⟨b', u * 3, none⟩ = some (.int .i64 u1) ∧ w'.cell? ⟨b', u * 3 + 1, none⟩ = some (.int .i64 u2) ∧ w'.cell? ⟨b', u * 3 + 2, none⟩ = some (.int .i64 u3) ∧
            w'.cell? ⟨b, 0, none⟩ = some (.pointer (some ⟨s, 0, none⟩)) ∧ w'.cell? ⟨s, 0, none⟩ = some (.func (.func 60) #[] #[]))
          (first | go_keep | (go_split_ands; refine ⟨?_, ?_, ?_, ?_, ?_, ?_, ?_, ?_, ?_, ?_⟩ <;> (refine keep_cell (by assumption) ?_; assumption)))
          (first | (go_at_call 137; refine (below_any b s i1 i2 i3 u1 u2 u3 _ (by assumption) (by assumption)).mono ?_; rintro e w3 ⟨rfl, hk⟩))
        have K3 := hid (keep_trans (keep_drew (Below.refl _ wr)) hk)
        clear hk
        go_wp2
        go_end0
        exact ⟨⟨_, rfl⟩, l1, hperm.out, up_stop hup.out (.inr (by rw [HU.out]; exact T.out)), hheap.out.keep K3.out, hmod.out.keep_trans K3.out⟩
    · obtain rfl : i = 0 := by omega
      go_wp2
      go_end0
      exact ⟨⟨_, rfl⟩, l1, hperm.out, up_stop hup.out (.inl rfl), hheap.out, hmod.out⟩
end Go.Proofs.Ytoligbmcceindaa
