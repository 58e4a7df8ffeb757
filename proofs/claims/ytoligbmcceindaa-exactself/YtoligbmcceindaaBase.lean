/- The words of these proofs: how data lie in memory (a kind: 'Ty'), which blocks a fact hangs on ('Foot'), what a call may turn ('Mod'). No program in sight. -/
import Derived.WalkKit
import Derived.Deep.QuietTactic
import Derived.BigQuiet
import Derived.Deep.RegionHeld3
import Derived.Deep.AppendLies
import Derived.Maps.AppendAt
import Derived.OwnWalkIn
import Derived.TacticsInMore
set_option linter.unusedVariables false
set_option linter.unusedSimpArgs false
namespace Go.Sb
open Go Go.RowKit

/-- The i-th of a list, closed to simp. -/
def nth {α : Type} [Inhabited α] (l : List α) (i : Nat) : α := l[i]?.getD default

section nth
variable {α : Type} [Inhabited α]
theorem nth_eq {l : List α} {i : Nat} (h : i < l.length) : nth l i = l[i] := by simp [nth, h]
theorem nth_some {l : List α} {i : Nat} (h : i < l.length) : l[i]? = some (nth l i) := by simp [nth, h]
theorem nth_append_left {l m : List α} {i : Nat} (h : i < l.length) : nth (l ++ m) i = nth l i := by simp [nth, List.getElem?_append_left h]
theorem nth_append_len {l : List α} {x : α} : nth (l ++ [x]) l.length = x := by simp [nth]
theorem nth_set_self {l : List α} {i : Nat} {x : α} (h : i < l.length) : nth (l.set i x) i = x := by simp [nth, h]
theorem nth_set_ne {l : List α} {i j : Nat} {x : α} (h : i ≠ j) : nth (l.set i x) j = nth l j := by simp [nth, List.getElem?_set_ne h]
theorem nth_mem {l : List α} {i : Nat} (h : i < l.length) : nth l i ∈ l := by rw [nth_eq h]; exact List.getElem_mem h
theorem mem_nth {l : List α} {x : α} (h : x ∈ l) : ∃ i, i < l.length ∧ nth l i = x := by
  obtain ⟨i, hi, rfl⟩ := List.getElem_of_mem h
  exact ⟨i, hi, nth_eq hi⟩
theorem nth_dropLast {l : List α} {i : Nat} (h : i < l.length - 1) : nth l.dropLast i = nth l i := by
  simp [nth, List.getElem?_dropLast, h, show i < l.length by omega]
end nth

theorem nth_none {α : Type} [Inhabited α] {l : List α} {i : Nat} (h : l.length ≤ i) : nth l i = default := by simp [nth, List.getElem?_eq_none h]
theorem nth_int (l : List Int) (i : Nat) : nth l i = l[i]?.getD 0 := rfl

theorem hid {p : Prop} (h : p) : Hid p := h

/-! ### What a call may turn -/
structure Mod (S : Nat → Prop) (w w' : World) : Prop where
  os : w'.os = w.os
  tape : w'.tape = w.tape
  output : w'.output = w.output
  size : w.heap.size ≤ w'.heap.size
  block : ∀ k, k < w.heap.size → ¬ S k → w'.heap[k]? = w.heap[k]?

/-- Nothing that was there. -/
abbrev Keep (w w' : World) : Prop := Below w.heap.size w w'

theorem Mod.refl (S : Nat → Prop) (w : World) : Mod S w w := ⟨rfl, rfl, rfl, Nat.le_refl _, fun _ _ _ => rfl⟩
theorem Mod.mono {S S' : Nat → Prop} {w w' : World} (h : Mod S w w') (hs : ∀ k, k < w.heap.size → S k → S' k) : Mod S' w w' :=
  ⟨h.os, h.tape, h.output, h.size, fun k hk hn => h.block k hk (fun hS => hn (hs k hk hS))⟩
theorem Mod.trans {S : Nat → Prop} {a b c : World} (h : Mod S a b) (k : Mod (fun i => S i ∨ a.heap.size ≤ i) b c) : Mod S a c :=
  ⟨k.os.trans h.os, k.tape.trans h.tape, k.output.trans h.output, Nat.le_trans h.size k.size, fun i hi hn =>
    (k.block i (Nat.lt_of_lt_of_le hi h.size) (fun e => e.elim hn (fun e => by omega))).trans (h.block i hi hn)⟩
theorem Mod.of_keep {S : Nat → Prop} {w w' : World} (h : Keep w w') : Mod S w w' := ⟨h.os, h.tape, h.output, h.size, fun k hk _ => h.block k hk⟩
theorem Mod.keep {S : Nat → Prop} {w w' : World} (h : Mod S w w') (hs : ∀ k, k < w.heap.size → ¬ S k) : Keep w w' := ⟨h.os, h.tape, h.output, h.size, fun k hk => h.block k hk (hs k hk)⟩
theorem Mod.below {S : Nat → Prop} {w w' : World} {B : Nat} (h : Mod S w w') (hB : B ≤ w.heap.size) (hs : ∀ k, k < B → ¬ S k) : Below B w w' := ⟨h.os, h.tape, h.output, h.size, fun k hk => h.block k (by omega) (hs k hk)⟩
theorem Mod.of_below {S : Nat → Prop} {w w' : World} {B : Nat} (h : Below B w w') (hs : ∀ k, k < w.heap.size → B ≤ k → S k) : Mod S w w' :=
  ⟨h.os, h.tape, h.output, h.size, fun k hk hn => h.block k (Nat.lt_of_not_le (fun hb => hn (hs k hk hb)))⟩
theorem Mod.of_grown {S : Nat → Prop} {w w' : World} {row : Option Nat} (h : w.grownBy w' row) (hs : ∀ k, row = some k → S k) : Mod S w w' :=
  ⟨h.os, h.tape, h.output, h.size, fun k hk hn => h.block k hk (fun e => hn (hs k e.symm))⟩
theorem Mod.alloc {S : Nat → Prop} {a w : World} (h : Mod S a w) (o : Obj) : Mod S a (w.alloc o) := by
  have := h.size
  exact ⟨h.os, h.tape, h.output, by simp; omega, fun k hk hn => (Below.heap_alloc w o k (by omega)).trans (h.block k hk hn)⟩
theorem Mod.drew {S : Nat → Prop} {a w : World} (h : Mod S a w) : Mod S a w.drew := ⟨h.os, h.tape, h.output, h.size, h.block⟩
theorem Mod.drewN {S : Nat → Prop} {a w : World} (h : Mod S a w) (n : Nat) : Mod S a (w.drewN n) := ⟨h.os, h.tape, h.output, h.size, h.block⟩
theorem Mod.setCell {S : Nat → Prop} {a w : World} (h : Mod S a w) {p : Addr} (hp : S p.block ∨ a.heap.size ≤ p.block) (u : Value) : Mod S a (w.setCell p u) :=
  ⟨h.os, h.tape, h.output, by have := h.size; simp [World.setCell]; exact this, fun k hk hn =>
    (Below.heap_setCell w p u k (fun e => hp.elim (fun s => hn (e ▸ s)) (fun s => by omega))).trans (h.block k hk hn)⟩
theorem Mod.cell {S : Nat → Prop} {w w' : World} (h : Mod S w w') {a : Addr} {v : Value} (hc : w.cell? a = some v) (hn : ¬ S a.block) : w'.cell? a = some v :=
  (World.cell?_of_block (w := w) (h.block a.block (World.block_lt_of_cell? w a hc) hn)).trans hc
theorem keep_drewN (w : World) (n : Nat) : Keep w (w.drewN n) := ⟨rfl, rfl, rfl, Nat.le_refl _, fun _ _ => rfl⟩
theorem keep_alloc {w w' : World} (h : Keep w w') (o : Obj) : Keep w (w'.alloc o) := Below.alloc h h.size o
theorem keep_dr {w w' : World} (h : Keep w w') (n : Nat) : Keep w (w'.drewN n) := ⟨h.os, h.tape, h.output, h.size, h.block⟩
theorem keep_trans {a b c : World} (h : Keep a b) (k : Keep b c) : Keep a c := h.trans (k.mono h.size)
theorem below_keep {B : Nat} {a b c : World} (h : Below B a b) (hB : B ≤ b.heap.size) (k : Keep b c) : Below B a c := h.trans (k.mono hB)
theorem Mod.keep_trans {S : Nat → Prop} {a b c : World} (h : Mod S a b) (k : Keep b c) : Mod S a c := h.trans (Mod.of_keep k)

theorem drewN2 (w : World) (a b : Nat) : (w.drewN a).drewN b = w.drewN (a + b) := World.drewN_drewN w a b
theorem keep_cell {w w' : World} (h : Keep w w') {a : Addr} {v : Value} (hc : w.cell? a = some v) : w'.cell? a = some v :=
  (World.cell?_of_block (w := w) (h.block a.block (World.block_lt_of_cell? w a hc))).trans hc
theorem keep_free {w w' : World} (h : Keep w w') {a : Addr} {v : Value} (hc : w.cell? a = some v) (hf : w.frozen? a = false) : w'.frozen? a = false :=
  (World.frozen?_of_block (w := w) (h.block a.block (World.block_lt_of_cell? w a hc))).trans hf
/-- Some orders were drawn, nothing else. -/
def Drawn (w w' : World) : Prop := ∃ n, w.drewN n = w'
theorem Drawn.refl (w : World) : Drawn w w := ⟨0, rfl⟩
theorem Drawn.step {w w' : World} (h : Drawn w w') (n : Nat) : Drawn w (w'.drewN n) := by
  obtain ⟨m, rfl⟩ := h
  exact ⟨m + n, by rw [World.drewN_drewN]⟩
theorem Drawn.trans {a b c : World} (h : Drawn a b) (k : Drawn b c) : Drawn a c := by
  obtain ⟨n, rfl⟩ := k
  exact h.step n
theorem Drawn.keep {w w' : World} (h : Drawn w w') : Keep w w' := by
  obtain ⟨m, rfl⟩ := h
  exact keep_drewN w m
theorem Keep.drawn {w w' : World} (h : Drawn w w') : Keep w w' := by
  obtain ⟨n, rfl⟩ := h
  exact keep_drewN w n
theorem drawn2 (w : World) (a b : Nat) : Drawn w ((w.drewN a).drewN b) := ⟨a + b, (drewN2 w a b).symm⟩
theorem drawn3 (w : World) (a b c : Nat) : Drawn w (((w.drewN a).drewN b).drewN c) := (drawn2 w a b).step c
theorem ret_int {k : IntKind} {a b : Int} (h : a = b) : Ending.returned (.int k a) = .returned (.int k b) := by rw [h]
theorem ret_bool {a b : Bool} (h : a = b) : Ending.returned (.bool a) = .returned (.bool b) := by rw [h]
theorem int_eq {k : IntKind} {a b : Int} (h : a = b) : Value.int k a = .int k b := by rw [h]
theorem w64i {n : Int} (h : -9223372036854775808 ≤ n ∧ n ≤ 9223372036854775807) : IntKind.i64.wrap n = n := IntWalk.i64_in n h
theorem w64 {n : Int} (h : -9223372036854775808 ≤ n ∧ n ≤ 9223372036854775807) : wrap64 n = n := IntWalk.wrap64_in n h

/-! ### Which blocks a fact hangs on -/
def Agree (S : Nat → Prop) (w w' : World) : Prop := ∀ k, S k → k < w.heap.size → w'.heap[k]? = w.heap[k]?
theorem Agree.refl (S : Nat → Prop) (w : World) : Agree S w w := fun _ _ _ => rfl
theorem lt_of_some {w : World} {k : Nat} {o : Obj} (h : w.heap[k]? = some o) : k < w.heap.size := (Array.getElem?_eq_some_iff.1 h).1
theorem Agree.at {S : Nat → Prop} {w w' : World} (h : Agree S w w') {k : Nat} {o : Obj} (hk : w.heap[k]? = some o) (hS : S k) : w'.heap[k]? = some o := (h k hS (lt_of_some hk)).trans hk
theorem Agree.cell {S : Nat → Prop} {w w' : World} (h : Agree S w w') {a : Addr} {v : Value} (hc : w.cell? a = some v) (hS : S a.block) : w'.cell? a = some v :=
  (World.cell?_of_block (w := w) (h a.block hS (World.block_lt_of_cell? w a hc))).trans hc
theorem Mod.agree {S T : Nat → Prop} {w w' : World} (h : Mod S w w') (hd : ∀ k, k < w.heap.size → T k → ¬ S k) : Agree T w w' := fun k hT hk => h.block k hk (hd k hk hT)
theorem agree_keep {T : Nat → Prop} {w w' : World} (h : Keep w w') : Agree T w w' := fun k _ hk => h.block k hk
theorem agree_below {B : Nat} {T : Nat → Prop} {w w' : World} (h : Below B w w') (hT : ∀ k, T k → k < B) : Agree T w w' := fun k hk _ => h.block k (hT k hk)

/-- P holds in every world that is as w in the blocks of S. -/
def Foot (P : World → Prop) (w : World) (S : Nat → Prop) : Prop := ∀ w', Agree S w w' → P w'
theorem Foot.here {P : World → Prop} {w : World} {S : Nat → Prop} (h : Foot P w S) : P w := h w (Agree.refl S w)
theorem Foot.move {P : World → Prop} {w w1 : World} {S : Nat → Prop} (h : Foot P w S) (ha : Agree S w w1) (hs : w.heap.size ≤ w1.heap.size) : Foot P w1 S :=
  fun w' h' => h w' (fun k hS hk => (h' k hS (Nat.lt_of_lt_of_le hk hs)).trans (ha k hS hk))
theorem Foot.mod {P : World → Prop} {w w1 : World} {S T : Nat → Prop} (h : Foot P w S) (hm : Mod T w w1) (hd : ∀ k, k < w.heap.size → S k → ¬ T k) : Foot P w1 S := h.move (hm.agree hd) hm.size
theorem Foot.keep {P : World → Prop} {w w1 : World} {S : Nat → Prop} (h : Foot P w S) (hm : Keep w w1) : Foot P w1 S := h.move (agree_keep hm) hm.size
theorem Foot.mono {P : World → Prop} {w : World} {S S' : Nat → Prop} (h : Foot P w S) (hs : ∀ k, k < w.heap.size → S k → S' k) : Foot P w S' := fun w' h' => h w' (fun k hS hk => h' k (hs k hk hS) hk)
theorem Foot.lt {P : World → Prop} {w : World} {S : Nat → Prop} (h : Foot P w S) : Foot P w (fun k => S k ∧ k < w.heap.size) := h.mono (fun k hk hS => ⟨hS, hk⟩)
theorem Foot.imp {P Q : World → Prop} {w : World} {S : Nat → Prop} (h : Foot P w S) (hq : ∀ w, P w → Q w) : Foot Q w S := fun w' h' => hq _ (h w' h')
theorem Foot.and {P Q : World → Prop} {w : World} {S : Nat → Prop} (h : Foot P w S) (k : Foot Q w S) : Foot (fun w => P w ∧ Q w) w S := fun w' h' => ⟨h w' h', k w' h'⟩

/-! ### A block that is known whole -/
theorem blk_cell {w : World} {g : Nat} {cs : Array Value} {t : TypeId} (h : w.heap[g]? = some (.cells cs t (0, 0))) (i : Nat) : w.cell? ⟨g, i, none⟩ = cs[i]? := by simp [World.cell?, h]
theorem blk_free {w : World} {g : Nat} {cs : Array Value} {t : TypeId} (h : w.heap[g]? = some (.cells cs t (0, 0))) (i : Nat) : w.frozen? ⟨g, i, none⟩ = false := by simp [World.frozen?, h]
theorem blk_set {w : World} {g : Nat} {cs : Array Value} {t : TypeId} (h : w.heap[g]? = some (.cells cs t (0, 0))) (i : Nat) (u : Value) : (w.setCell ⟨g, i, none⟩ u).heap[g]? = some (.cells (cs.setIfInBounds i u) t (0, 0)) := by
  have hlt := lt_of_some h
  have h' : w.heap[g] = .cells cs t (0, 0) := by simpa [Array.getElem?_eq_getElem hlt] using h
  show (w.heap.modify g _)[g]? = _
  rw [Array.getElem?_eq_getElem (by simpa using hlt), Array.getElem_modify_self, h']
  rfl
theorem blk_set_ne {w : World} {g : Nat} {o : Obj} (h : w.heap[g]? = some o) {p : Addr} (hne : g ≠ p.block) (u : Value) : (w.setCell p u).heap[g]? = some o := (Below.heap_setCell w p u g hne).trans h
theorem blk_alloc {w : World} {g : Nat} {o : Obj} (h : w.heap[g]? = some o) (o' : Obj) : (w.alloc o').heap[g]? = some o := (Below.heap_alloc w o' g (lt_of_some h)).trans h
theorem blk_new (w : World) (o : Obj) : (w.alloc o).heap[w.heap.size]? = some o := heap_alloc_new w o
theorem blk_mod {S : Nat → Prop} {w w' : World} {g : Nat} {o : Obj} (h : w.heap[g]? = some o) (hm : Mod S w w') (hn : ¬ S g) : w'.heap[g]? = some o := (hm.block g (lt_of_some h) hn).trans h
theorem blk_keep {w w' : World} {g : Nat} {o : Obj} (h : w.heap[g]? = some o) (hm : Keep w w') : w'.heap[g]? = some o := (hm.block g (lt_of_some h)).trans h

/-! ### Kinds -/
/-- How a datum lies in cells: so many, each one a value of one cell; what they lead to stays as long as the blocks do. -/
structure Ty (α : Type) where
  sz : Nat
  pos : 0 < sz
  enc : World → α → List Value → Prop
  len : ∀ {w x cs}, enc w x cs → cs.length = sz
  one : ∀ {w x cs}, enc w x cs → ∀ u ∈ cs, u.oneCell' = true
  keep : ∀ {w w' : World} {x cs}, enc w x cs → (∀ k, k < w.heap.size → w'.heap[k]? = w.heap[k]?) → enc w' x cs

/-- A list of data, one behind the other. -/
def Flat {α : Type} (d : Ty α) (w : World) : List α → List Value → Prop
  | [], cs => cs = []
  | x :: xs, cs => ∃ c r, cs = c ++ r ∧ d.enc w x c ∧ Flat d w xs r

section flat
variable {α : Type} {d : Ty α} {w w' : World}
theorem Flat.length : ∀ {xs : List α} {cs : List Value}, Flat d w xs cs → cs.length = xs.length * d.sz
  | [], _, h => by simp [Flat] at h; simp [h]
  | x :: xs, _, ⟨c, r, e, hc, hr⟩ => by rw [e, List.length_append, d.len hc, hr.length, List.length_cons, Nat.succ_mul, Nat.add_comm]
theorem Flat.one : ∀ {xs : List α} {cs : List Value}, Flat d w xs cs → ∀ u ∈ cs, u.oneCell' = true
  | [], _, h => by simp [Flat] at h; simp [h]
  | x :: xs, _, ⟨c, r, e, hc, hr⟩ => by
    intro u hu
    rw [e] at hu
    rcases List.mem_append.1 hu with hu | hu
    · exact d.one hc u hu
    · exact hr.one u hu
theorem Flat.keep : ∀ {xs : List α} {cs : List Value}, Flat d w xs cs → (∀ k, k < w.heap.size → w'.heap[k]? = w.heap[k]?) → Flat d w' xs cs
  | [], _, h, _ => h
  | x :: xs, _, ⟨c, r, e, hc, hr⟩, hk => ⟨c, r, e, d.keep hc hk, hr.keep hk⟩
theorem Flat.append : ∀ {xs ys : List α} {cs es : List Value}, Flat d w xs cs → Flat d w ys es → Flat d w (xs ++ ys) (cs ++ es)
  | [], ys, cs, es, h, k => by simp [Flat] at h; subst h; simpa using k
  | x :: xs, ys, cs, es, ⟨c, r, e, hc, hr⟩, k => ⟨c, r ++ es, by rw [e, List.append_assoc], hc, hr.append k⟩
theorem Flat.single {x : α} {c : List Value} (h : d.enc w x c) : Flat d w [x] c := ⟨c, [], by simp, h, rfl⟩
theorem Flat.get : ∀ {xs : List α} {cs : List Value}, Flat d w xs cs → ∀ {i : Nat} {x : α}, xs[i]? = some x → ∃ c, d.enc w x c ∧ ∀ f u, c[f]? = some u → cs[i * d.sz + f]? = some u
  | [], _, _, i, x, hx => by simp at hx
  | y :: xs, _, ⟨c, r, e, hc, hr⟩, i, x, hx => by
    cases i with
    | zero =>
      simp at hx
      subst hx
      refine ⟨c, hc, fun f u hu => ?_⟩
      rw [e, Nat.zero_mul, Nat.zero_add, List.getElem?_append_left (List.getElem?_eq_some_iff.1 hu).1]
      exact hu
    | succ i =>
      obtain ⟨c', hc', hg⟩ := hr.get (i := i) (x := x) (by simpa using hx)
      refine ⟨c', hc', fun f u hu => ?_⟩
      rw [e, List.getElem?_append_right (by rw [d.len hc, Nat.succ_mul]; omega), d.len hc]
      have e2 : (i + 1) * d.sz + f - d.sz = i * d.sz + f := by rw [Nat.succ_mul]; omega
      rw [e2]
      exact hg f u hu
theorem Flat.take : ∀ {xs : List α} {cs : List Value} (n : Nat), Flat d w xs cs → Flat d w (xs.take n) (cs.take (n * d.sz))
  | [], _, n, h => by simp [Flat] at h; subst h; simp [Flat]
  | x :: xs, _, 0, ⟨c, r, e, hc, hr⟩ => by simp [Flat]
  | x :: xs, _, n + 1, ⟨c, r, e, hc, hr⟩ => by
    refine ⟨c, r.take (n * d.sz), ?_, hc, hr.take n⟩
    rw [e, List.take_append, d.len hc, List.take_of_length_le (by rw [d.len hc, Nat.succ_mul]; omega), Nat.succ_mul, Nat.add_sub_cancel]
theorem Flat.drop : ∀ {xs : List α} {cs : List Value} (n : Nat), Flat d w xs cs → Flat d w (xs.drop n) (cs.drop (n * d.sz))
  | [], _, n, h => by simp [Flat] at h; subst h; simp [Flat]
  | x :: xs, _, 0, h => by simpa using h
  | x :: xs, _, n + 1, ⟨c, r, e, hc, hr⟩ => by
    have h2 : (c ++ r).drop ((n + 1) * d.sz) = r.drop (n * d.sz) := by
      rw [List.drop_append, d.len hc, List.drop_of_length_le (l := c) (by rw [d.len hc, Nat.succ_mul]; omega), Nat.succ_mul, Nat.add_sub_cancel, List.nil_append]
    rw [e, h2, List.drop_succ_cons]
    exact hr.drop n
end flat

/-- A slice value that reads as a list. -/
def Lies {α : Type} (d : Ty α) (w : World) (v : Value) (xs : List α) : Prop :=
  ∃ A c cs, v = .slice A xs.length c ∧ xs.length ≤ c ∧ (c ≤ maxLen ∧ xs.length ≤ 281474976710656) ∧ Flat d w xs cs ∧ ∀ j u, cs[j]? = some u → ∃ b o, A = some ⟨b, o, none⟩ ∧ w.cell? ⟨b, o + j, none⟩ = some u

section rows
variable {α : Type} {d : Ty α} {w w' : World} {v : Value} {xs : List α}
theorem Lies.nil (d : Ty α) (w : World) : Lies d w (.slice none 0 0) [] := ⟨none, 0, [], rfl, Nat.le_refl _, ⟨Nat.zero_le _, by simp⟩, rfl, fun j u h => by simp at h⟩
theorem Lies.form (h : Lies d w v xs) : ∃ A c, v = .slice A xs.length c ∧ xs.length ≤ c ∧ c ≤ 9223372036854775807 := by
  obtain ⟨A, c, cs, e, h1, h2, _⟩ := h
  exact ⟨A, c, e, h1, by simpa [maxLen] using h2.1⟩
theorem Lies.keep' (h : Lies d w v xs) (hk : ∀ k, k < w.heap.size → w'.heap[k]? = w.heap[k]?) : Lies d w' v xs := by
  obtain ⟨A, c, cs, e, h1, h2, hf, hc⟩ := h
  refine ⟨A, c, cs, e, h1, h2, hf.keep hk, fun j u hu => ?_⟩
  obtain ⟨b, o, ha, hcell⟩ := hc j u hu
  exact ⟨b, o, ha, (World.cell?_of_block (w := w) (hk b (World.block_lt_of_cell? w _ hcell))).trans hcell⟩
theorem Lies.keep (h : Lies d w v xs) (hk : Keep w w') : Lies d w' v xs := h.keep' (fun k hlt => hk.block k hlt)
theorem Lies.foot (h : Lies d w v xs) : Foot (fun w => Lies d w v xs) w (fun _ => True) := fun w' ha => h.keep' (fun k hk => ha k trivial hk)
/-- An element that is read. -/
theorem Lies.at (h : Lies d w v xs) {i : Nat} {x : α} (hx : xs[i]? = some x) :
    ∃ b o c cap, v = .slice (some ⟨b, o, none⟩) xs.length cap ∧ xs.length ≤ cap ∧ cap ≤ 9223372036854775807 ∧ d.enc w x c ∧ b < w.heap.size ∧ ∀ f u, c[f]? = some u → w.cell? ⟨b, o + (i * d.sz + f), none⟩ = some u := by
  obtain ⟨A, cap, cs, e, h1, h2, hf, hc⟩ := h
  obtain ⟨c, henc, hget⟩ := hf.get hx
  have hlc := d.len henc
  have hp := d.pos
  have h3 : c[0]? = some c[0] := by simp
  obtain ⟨b, o, hA, hcell⟩ := hc _ _ (hget 0 _ h3)
  subst hA
  refine ⟨b, o, c, cap, e, h1, by simpa [maxLen] using h2.1, henc, World.block_lt_of_cell? w _ hcell, fun f u hu => ?_⟩
  obtain ⟨b', o', hA', hcell'⟩ := hc _ _ (hget f u hu)
  injection hA' with hA'
  injection hA' with hb ho
  subst hb; subst ho
  exact hcell'
/-- Not empty: where it lies, and every element there. -/
theorem Lies.open_ (h : Lies d w v xs) (h0 : 0 < xs.length) :
    ∃ b o cap, v = .slice (some ⟨b, o, none⟩) xs.length cap ∧ xs.length ≤ cap ∧ cap ≤ 9223372036854775807 ∧ b < w.heap.size ∧
      ∀ i x, xs[i]? = some x → ∃ c, d.enc w x c ∧ ∀ f u, c[f]? = some u → w.cell? ⟨b, o + (i * d.sz + f), none⟩ = some u := by
  obtain ⟨b, o, c0, cap, e, h1, h2, _, hb, _⟩ := h.at (i := 0) (x := xs[0]) (by simp)
  refine ⟨b, o, cap, e, h1, h2, hb, fun i x hx => ?_⟩
  obtain ⟨b', o', c, cap', e', _, _, henc, _, hcell⟩ := h.at hx
  rw [e] at e'
  injection e' with e1 e2 e3
  injection e1 with e1
  injection e1 with e4 e5
  subst e4; subst e5
  exact ⟨c, henc, hcell⟩
theorem Lies.mem (h : Lies d w v xs) {x : α} (hx : x ∈ xs) : ∃ c, d.enc w x c := by
  obtain ⟨i, hi⟩ := List.mem_iff_getElem?.1 hx
  obtain ⟨_, _, c, _, _, _, _, henc, _⟩ := h.at hi
  exact ⟨c, henc⟩
theorem Lies.len_le (h : Lies d w v xs) : xs.length ≤ 281474976710656 := by
  obtain ⟨A, c, cs, e, h1, h2, _⟩ := h
  exact h2.2
end rows

/-- A cut of a slice that is read. -/
theorem Lies.cut {α : Type} {d : Ty α} {w : World} {b o n c : Nat} {xs : List α} (h : Lies d w (.slice (some ⟨b, o, none⟩) n c) xs) {lo hi : Nat} (h1 : lo ≤ hi) (h2 : hi ≤ xs.length) :
    Lies d w (.slice (some ⟨b, o + lo * d.sz, none⟩) (hi - lo) (c - lo)) ((xs.take hi).drop lo) := by
  obtain ⟨A, c', cs, e, k1, ⟨k2, k3⟩, hf, hc⟩ := h
  injection e with e1 e2 e3
  subst e1 e2 e3
  have hl : ((xs.take hi).drop lo).length = hi - lo := by simp; omega
  refine ⟨some ⟨b, o + lo * d.sz, none⟩, c - lo, _, by rw [hl], by omega, ⟨by omega, by omega⟩, (hf.take hi).drop lo, fun j u hu => ⟨b, _, rfl, ?_⟩⟩
  rw [List.getElem?_drop, List.getElem?_take] at hu
  split at hu
  · obtain ⟨b', o', e', hcell⟩ := hc _ _ hu
    injection e' with e'
    injection e' with e4 e5
    subst e4; subst e5
    rw [Nat.add_assoc]
    exact hcell
  · cases hu
/-- Where it is empty nothing is asked of the address. -/
theorem Lies.empty {α : Type} (d : Ty α) (w : World) (A : Option Addr) (c : Nat) (hc : c ≤ 9223372036854775807) : Lies d w (.slice A 0 c) [] :=
  ⟨A, c, [], rfl, Nat.zero_le _, ⟨by simp [maxLen]; omega, by simp⟩, rfl, fun j u h => by simp at h⟩

/-! ### Rows of one's own -/
/-- A slice value that owns its row: it may be appended to. -/
def Own {α : Type} (d : Ty α) (e : TypeId) (w : World) (v : Value) (xs : List α) : Prop := ∃ cs, Flat d w xs cs ∧ w.ownsRow 0 e d.sz v xs.length cs ∧ xs.length ≤ 281474976710656
section own
variable {α : Type} {d : Ty α} {e : TypeId} {w w' : World} {v : Value} {xs : List α}
theorem Own.nil (d : Ty α) (e : TypeId) (w : World) : Own d e w (.slice none 0 0) [] := ⟨[], rfl, World.ownsRow_nil w 0 e d.sz, by simp⟩
theorem Own.lies (h : Own d e w v xs) : Lies d w v xs := by
  obtain ⟨cs, hf, ho, hl⟩ := h
  rcases ho.2 with ⟨rfl, h0⟩ | ⟨g, cap, cur, rfl, _, hg, hc, hm, hs, ht⟩
  · have : xs = [] := List.eq_nil_of_length_eq_zero h0
    subst this
    exact Lies.nil d w
  · refine ⟨_, cap, cs, rfl, hc, ⟨hm, hl⟩, hf, fun j u hu => ⟨g, 0, rfl, ?_⟩⟩
    have := ho.cells (g := g) rfl j u hu
    have ha : (⟨g, 0, none⟩ : Addr).add j = ⟨g, 0 + j, none⟩ := by unfold Addr.add; split <;> simp_all
    rwa [ha] at this
theorem ownsRow_move {base size n : Nat} {vs : List Value} (h : w.ownsRow base e size v n vs) (hk : ∀ k, v.ownBlock = some k → k < w.heap.size → w'.heap[k]? = w.heap[k]?) : w'.ownsRow base e size v n vs := by
  obtain ⟨h1, h2⟩ := h
  refine ⟨h1, ?_⟩
  rcases h2 with h2 | ⟨g, cap, cur, rfl, hg, hh, r⟩
  · exact .inl h2
  · exact .inr ⟨g, cap, cur, rfl, hg, (hk g (by simp [Value.ownBlock]) (lt_of_some hh)).trans hh, r⟩
theorem Own.lt (h : Own d e w v xs) {k : Nat} (hk : v.ownBlock = some k) : k < w.heap.size := by
  obtain ⟨cs, hf, ho, hl⟩ := h
  exact (ho.lt k hk).2
theorem Own.typed (h : Own d e w v xs) {k : Nat} (hk : v.ownBlock = some k) : ∃ cs, w.heap[k]? = some (.cells cs e (0, 0)) := by
  obtain ⟨cs, hf, ho, hl⟩ := h
  rcases ho.2 with ⟨rfl, h0⟩ | ⟨g, cap, cur, rfl, _, hg, _⟩
  · simp [Value.ownBlock] at hk
  · simp [Value.ownBlock] at hk
    subst hk
    exact ⟨cur, hg⟩
theorem Own.form (h : Own d e w v xs) : ∃ A c, v = .slice A xs.length c ∧ xs.length ≤ c ∧ c ≤ 9223372036854775807 := h.lies.form
/-- Kinds whose cells say all by themselves. -/
def Flatly (d : Ty α) : Prop := ∀ w w' x cs, d.enc w x cs → d.enc w' x cs
theorem Flat.any (hd : Flatly d) : ∀ {xs : List α} {cs : List Value}, Flat d w xs cs → Flat d w' xs cs
  | [], _, h => h
  | x :: xs, _, ⟨c, r, e, hc, hr⟩ => ⟨c, r, e, hd _ _ _ _ hc, Flat.any hd hr⟩
theorem Own.move (hd : Flatly d) (h : Own d e w v xs) (hk : ∀ k, v.ownBlock = some k → k < w.heap.size → w'.heap[k]? = w.heap[k]?) : Own d e w' v xs := by
  obtain ⟨cs, hf, ho, hl⟩ := h
  exact ⟨cs, hf.any hd, ownsRow_move ho hk, hl⟩
theorem Own.keep (h : Own d e w v xs) (hk : Keep w w') : Own d e w' v xs := by
  obtain ⟨cs, hf, ho, hl⟩ := h
  exact ⟨cs, hf.keep (fun k hlt => hk.block k hlt), ownsRow_move ho (fun k _ hlt => hk.block k hlt), hl⟩
end own

/-! ### Kinds of one cell -/
def tInt (k : IntKind) : Ty Int where
  sz := 1
  pos := by omega
  enc := fun _ x cs => cs = [.int k x] ∧ (Lit.int k x).wf = true
  len := by rintro w x cs ⟨rfl, _⟩; rfl
  one := by rintro w x cs ⟨rfl, _⟩ u hu; rw [List.mem_singleton.1 hu]; rfl
  keep := fun h _ => h
def tBool : Ty Bool where
  sz := 1
  pos := by omega
  enc := fun _ x cs => cs = [.bool x]
  len := by rintro w x cs rfl; rfl
  one := by rintro w x cs rfl u hu; rw [List.mem_singleton.1 hu]; rfl
  keep := fun h _ => h
def tStr : Ty ByteArray where
  sz := 1
  pos := by omega
  enc := fun _ x cs => cs = [.string x] ∧ x.size ≤ 9223372036854775807
  len := by rintro w x cs ⟨rfl, _⟩; rfl
  one := by rintro w x cs ⟨rfl, _⟩ u hu; rw [List.mem_singleton.1 hu]; rfl
  keep := fun h _ => h
def tSl {α : Type} (d : Ty α) : Ty (List α) where
  sz := 1
  pos := by omega
  enc := fun w xs cs => ∃ v, cs = [v] ∧ Lies d w v xs
  len := by rintro w x cs ⟨v, rfl, _⟩; rfl
  one := by
    rintro w x cs ⟨v, rfl, h⟩ u hu
    obtain ⟨A, c, e, _⟩ := h.form
    rw [List.mem_singleton.1 hu, e]; rfl
  keep := by rintro w w' x cs ⟨v, rfl, h⟩ hk; exact ⟨v, rfl, h.keep' hk⟩

theorem tInt_flatly (k : IntKind) : Flatly (tInt k) := fun _ _ _ _ h => h
theorem tBool_flatly : Flatly tBool := fun _ _ _ _ h => h
theorem tStr_flatly : Flatly tStr := fun _ _ _ _ h => h

/-! ### append -/
section app
variable {P : Program} {α : Type} {d : Ty α}
theorem run_app (w : World) (t ty e : TypeId) (z : Value) (bytes : Nat) (ht : P.underlying t = some (.slice e)) (hinfo : (P.info? e).map (fun i => (i.zero, i.size, i.bytes)) = some (some z, d.sz, bytes))
    (hz : z.cells.size = d.sz) (hb0 : 0 < bytes) (v src : Value) (xs ys : List α) (h : Own d e w v xs) (hs : Lies d w src ys) (hlen : (xs.length + ys.length) * bytes ≤ 140737488355328)
    (hfl : ∀ w' cs, w.grownBy w' v.ownBlock → Flat d w (xs ++ ys) cs → Flat d w' (xs ++ ys) cs) :
    ∃ v' w', (Builtin.append_ #[t, t] ty #[v, src]).run P w = .ok v' w' ∧ Own d e w' v' (xs ++ ys) ∧ w.grownBy w' v.ownBlock ∧ (v'.ownBlock = v.ownBlock ∨ v'.ownBlock = some w.heap.size) := by
  obtain ⟨i0, hi, hzz⟩ := Option.map_eq_some_iff.1 hinfo
  simp only [Prod.mk.injEq] at hzz
  obtain ⟨hz0, hz1, hz2⟩ := hzz
  obtain ⟨cs, hf, ho, hl⟩ := h
  obtain ⟨A, c, es, rfl, k1, ⟨k2, k3⟩, hf2, hc⟩ := hs
  have hsum : xs.length + ys.length ≤ 140737488355328 := Nat.le_trans (Nat.le_mul_of_pos_right _ hb0) hlen
  have hfa := hf.append hf2
  rcases A with _ | ad
  · have h0 : ys = [] := by
      rcases ys with _ | ⟨y, ys⟩
      · rfl
      · exfalso
        have hp := d.pos
        have hl2 := hf2.length
        simp only [List.length_cons, Nat.succ_mul] at hl2
        have : 0 < es.length := by omega
        obtain ⟨b, o, e', _⟩ := hc 0 _ (List.getElem?_eq_getElem this)
        cases e'
    subst h0
    refine ⟨v, w, ?_, ⟨cs, by simpa using hf, by simpa using ho, by simpa using hl⟩, ⟨rfl, rfl, rfl, Nat.le_refl _, fun _ _ _ => rfl⟩, .inl rfl⟩
    rcases ho.2 with ⟨rfl, hn⟩ | ⟨g, cap, cur, rfl, _, _, hnc, _⟩
    · simp [Builtin.append_, run_underlying ht, sizeOf, typeInfo, hi, Builtin.lenOf, Builtin.firstCells]
    · simp [Builtin.append_, run_underlying ht, sizeOf, typeInfo, hi, Builtin.lenOf, Builtin.firstCells, hnc, storeCells]
  · have hes := hf2.length
    have hcells : ∀ j u, es[j]? = some u → w.cell? (ad.add j) = some u := by
      intro j u hu
      obtain ⟨b, o, e', hcell⟩ := hc j u hu
      injection e' with e'
      subst e'
      have ha : (⟨b, o, none⟩ : Addr).add j = ⟨b, o + j, none⟩ := by unfold Addr.add; split <;> simp_all
      rw [ha]; exact hcell
    obtain ⟨v', w', hr, h2, h3, _, h5⟩ := run_append_own_at (P := P) w 0 t ty e i0 z d.sz bytes ht hi hz0 hz1 hz2 hz d.pos v xs.length cs ho ad ys.length c es hes hcells (Flat.one hf2) (by simp only [maxLen]; omega) hlen (Nat.zero_le _)
    refine ⟨v', w', hr, ⟨cs ++ es, hfl w' _ h3 hfa, by simpa using h2, by simp; omega⟩, h3, h5⟩

/-- append(v, src..): at a plain region's list. -/
theorem wpList_app {ops : Array Oper} {rest : List Oper} {o : Oper} {a : Act} {Q : Exit → Act → World → Prop} {w : World} (hgd : o.guard = none) (s x : Operand) (t e : TypeId) (z : Value) (bytes : Nat)
    (ho : o.op = .call { callee := .builtin .append, args := #[s, x], argTypes := #[t, t] })
    (ht : P.underlying t = some (.slice e)) (hinfo : (P.info? e).map (fun i => (i.zero, i.size, i.bytes)) = some (some z, d.sz, bytes))
    (hz : z.cells.size = d.sz) (hb0 : 0 < bytes) (v src : Value) (xs ys : List α) (hs : a.eval s = v) (hx : a.eval x = src) (h : Own d e w v xs) (hl : Lies d w src ys) (hlen : (xs.length + ys.length) * bytes ≤ 140737488355328)
    (hfl : ∀ w' cs, w.grownBy w' v.ownBlock → Flat d w (xs ++ ys) cs → Flat d w' (xs ++ ys) cs)
    (hK : ∀ v' w', Own d e w' v' (xs ++ ys) → w.grownBy w' v.ownBlock → (v'.ownBlock = v.ownBlock ∨ v'.ownBlock = some w.heap.size) → wpList P ops Q rest (a.put o.dst v') w') :
    wpList P ops Q (o :: rest) a w := by
  obtain ⟨v', w', hr, h1, h2, h3⟩ := run_app (P := P) w t o.type e z bytes ht hinfo hz hb0 v src xs ys h hl hlen hfl
  refine wpList_plain hgd fun K hK' => ?_
  unfold Oper.wp execOp
  simp only [ho, resolve, invoke, builtin, Sem.run_bind, Sem.run_pure, Result.andThen_ok, List.map_toArray, List.map_cons, List.map_nil, hs, hx, hr]
  exact hK' _ _ (hK v' w' h1 h2 h3)

/-- The same inside a fence. -/
theorem wpListIn_app {F : Fence} {n : Nat} {ops : Array Oper} {rest : List Oper} {o : Oper} {a : Act} {Q : Exit → Act → World → Prop} {w : World} (hgd : o.guard = none) (s x : Operand) (t e : TypeId) (z : Value) (bytes : Nat)
    (hop : o.op = .call { callee := .builtin .append, args := #[s, x], argTypes := #[t, t] })
    (ht : P.underlying t = some (.slice e)) (hinfo : (P.info? e).map (fun i => (i.zero, i.size, i.bytes)) = some (some z, d.sz, bytes))
    (hz : z.cells.size = d.sz) (hb0 : 0 < bytes) (v src : Value) (xs ys : List α) (hs : a.eval s = v) (hx : a.eval x = src) (h : Own d e w v xs) (hl : Lies d w src ys) (hlen : (xs.length + ys.length) * bytes ≤ 140737488355328)
    (hfl : ∀ w' cs, w.grownBy w' v.ownBlock → Flat d w (xs ++ ys) cs → Flat d w' (xs ++ ys) cs)
    (hK : ∀ v' w', Own d e w' v' (xs ++ ys) → w.grownBy w' v.ownBlock → (v'.ownBlock = v.ownBlock ∨ v'.ownBlock = some w.heap.size) → wpListIn F n P ops Q rest (a.put o.dst v') w') :
    wpListIn F n P ops Q (o :: rest) a w := by
  obtain ⟨v', w', hr, h1, h2, h3⟩ := run_app (P := P) w t o.type e z bytes ht hinfo hz hb0 v src xs ys h hl hlen hfl
  refine wpListIn_plain hgd fun K hK' => ?_
  unfold Oper.wpIn
  refine ⟨?_, ?_⟩
  · simp [Oper.about, hop, resolve, Target.leads, Sem.run_pure]
  · rw [Oper.semAt_plain F _ _ (by rw [hop]; intro c hc'; cases hc')]
    simp [execOp, hop, resolve, invoke, builtin, hs, hx, hr, Result.andThen]
    exact hK' _ _ (hK v' w' h1 h2 h3)

/-- The same as one step of a region that draws its order. -/
theorem step_app {ops : Array Oper} {o : Oper} {a : Act} {K : Act → World → Prop} {Q : Exit → Act → World → Prop} {E : Prop} {w : World} (hgd : o.guard = none) (s x : Operand) (t e : TypeId) (z : Value) (bytes : Nat)
    (ho : o.op = .call { callee := .builtin .append, args := #[s, x], argTypes := #[t, t] })
    (ht : P.underlying t = some (.slice e)) (hinfo : (P.info? e).map (fun i => (i.zero, i.size, i.bytes)) = some (some z, d.sz, bytes))
    (hz : z.cells.size = d.sz) (hb0 : 0 < bytes) (v src : Value) (xs ys : List α) (hs : a.eval s = v) (hx : a.eval x = src) (h : Own d e w v xs) (hl : Lies d w src ys) (hlen : (xs.length + ys.length) * bytes ≤ 140737488355328)
    (hfl : ∀ w' cs, w.grownBy w' v.ownBlock → Flat d w (xs ++ ys) cs → Flat d w' (xs ++ ys) cs)
    (hK : ∀ v' w', Own d e w' v' (xs ++ ys) → w.grownBy w' v.ownBlock → (v'.ownBlock = v.ownBlock ∨ v'.ownBlock = some w.heap.size) → K (a.put o.dst v') w') :
    if Region.wanted o (yielded ops a.tmps) = true then Oper.wp P o a w K Q else E := by
  obtain ⟨v', w', hr, h1, h2, h3⟩ := run_app (P := P) w t o.type e z bytes ht hinfo hz hb0 v src xs ys h hl hlen hfl
  have hw : Region.wanted o (yielded ops a.tmps) = true := by simp [Region.wanted, hgd]
  rw [if_pos hw]
  unfold Oper.wp execOp
  simp only [ho, resolve, invoke, builtin, Sem.run_bind, Sem.run_pure, Result.andThen_ok, List.map_toArray, List.map_cons, List.map_nil, hs, hx, hr]
  exact hK v' w' h1 h2 h3
theorem flat_any (hd : Flatly d) (w : World) (row : Option Nat) (xs : List α) : ∀ w' cs, w.grownBy w' row → Flat d w xs cs → Flat d w' xs cs := fun _ _ _ h => h.any hd
/-- A variadic's box of one. -/
theorem Lies.box {w W : World} {x : α} {c : List Value} (h : d.enc W x c) {g : Nat} {e : TypeId} (hg : W.heap[g]? = some (.cells c.toArray e (0, 0))) : Lies d W (.slice (some ⟨g, 0, none⟩) 1 1) [x] :=
  ⟨_, 1, c, rfl, Nat.le_refl _, ⟨by simp [maxLen], by simp⟩, Flat.single h, fun j u hu => ⟨g, 0, rfl, by rw [Nat.zero_add, blk_cell hg]; simpa using hu⟩⟩
end app

abbrev i32s (w : World) (v : Value) (xs : List Int) : Prop := Lies (tInt .i32) w v xs
abbrev i64s (w : World) (v : Value) (xs : List Int) : Prop := Lies (tInt .i64) w v xs

theorem wf_i64_le {n : Int} (h : (Lit.int .i64 n).wf = true) : -9223372036854775808 ≤ n ∧ n ≤ 9223372036854775807 := by
  simp [Lit.wf, IntKind.min, IntKind.max, IntKind.signed, IntKind.bits] at h; omega
theorem wf_i32_le {n : Int} (h : (Lit.int .i32 n).wf = true) : -2147483648 ≤ n ∧ n ≤ 2147483647 := by
  simp [Lit.wf, IntKind.min, IntKind.max, IntKind.signed, IntKind.bits] at h; omega
theorem wf_u8_le {n : Int} (h : (Lit.int .u8 n).wf = true) : 0 ≤ n ∧ n ≤ 255 := by
  simp [Lit.wf, IntKind.min, IntKind.max, IntKind.signed, IntKind.bits] at h; omega
theorem wf_u32_le {n : Int} (h : (Lit.int .u32 n).wf = true) : 0 ≤ n ∧ n ≤ 4294967295 := by
  simp [Lit.wf, IntKind.min, IntKind.max, IntKind.signed, IntKind.bits] at h; omega
theorem wf_u64_le {n : Int} (h : (Lit.int .u64 n).wf = true) : 0 ≤ n ∧ n ≤ 18446744073709551615 := by
  simp [Lit.wf, IntKind.min, IntKind.max, IntKind.signed, IntKind.bits] at h; omega

/-- A slice of whole numbers, not empty: its cells as the walk asks for them. -/
theorem ints_open {k : IntKind} {w : World} {v : Value} {xs : List Int} (h : Lies (tInt k) w v xs) (h0 : 0 < xs.length) :
    ∃ b o cap, v = .slice (some ⟨b, o, none⟩) xs.length cap ∧ xs.length ≤ cap ∧ cap ≤ 9223372036854775807 ∧ b < w.heap.size ∧ ∀ i, i < xs.length → w.cell? ⟨b, o + i, none⟩ = some (.int k (nth xs i)) := by
  obtain ⟨b, o, cap, e, h1, h2, hb, hat⟩ := h.open_ h0
  refine ⟨b, o, cap, e, h1, h2, hb, fun i hi => ?_⟩
  obtain ⟨c, ⟨rfl, _⟩, hcell⟩ := hat i _ (List.getElem?_eq_getElem hi)
  have := hcell 0 (.int k xs[i]) (by simp)
  simpa [tInt, nth, hi] using this
theorem ints_wf {k : IntKind} {w : World} {v : Value} {xs : List Int} (h : Lies (tInt k) w v xs) {x : Int} (hx : x ∈ xs) : (Lit.int k x).wf = true := by
  obtain ⟨c, _, hw⟩ := h.mem hx
  exact hw
theorem ints_wf_at {k : IntKind} {w : World} {v : Value} {xs : List Int} (h : Lies (tInt k) w v xs) (i : Nat) : (Lit.int k (nth xs i)).wf = true := by
  by_cases hi : i < xs.length
  · rw [nth_eq hi]
    exact ints_wf h (List.getElem_mem hi)
  · rw [nth_none (by omega)]
    cases k <;> rfl

/-- A slice of slices, an element: its value's cell. -/
theorem sl_at {α : Type} {d : Ty α} {w : World} {v : Value} {xs : List (List α)} (h : Lies (tSl d) w v xs) {i : Nat} {x : List α} (hx : xs[i]? = some x) :
    ∃ b o cap u, v = .slice (some ⟨b, o, none⟩) xs.length cap ∧ xs.length ≤ cap ∧ cap ≤ 9223372036854775807 ∧ b < w.heap.size ∧ w.cell? ⟨b, o + i, none⟩ = some u ∧ Lies d w u x := by
  obtain ⟨b, o, c, cap, e, h1, h2, ⟨u, rfl, hr⟩, hb, hcell⟩ := h.at hx
  have := hcell 0 u (by simp)
  exact ⟨b, o, cap, u, e, h1, h2, hb, by simpa [tSl] using this, hr⟩
end Go.Sb
