/- Iterators and ranges over them, where the iterator may change cells of its own: who takes ('Taker'), who gives ('Iter'), the law of the range ('range_law'). No program in sight. -/
import Derived.Test.YtoligbmcceindaaBase
import Derived.RangeFuncNested
import Derived.RangeFuncBound
import Derived.RangeFuncLeaves
import Derived.RangeFuncRecord
set_option linter.unusedVariables false
set_option linter.unusedSimpArgs false
namespace Go.Sb
open Go Go.RowKit

theorem room_of_none {F : Fence} (h : F.depth = none) (k : Nat) : F.room k := by simp [Fence.room, h]
theorem RoundIn.anyDepth {F : Fence} (hd : F.depth = none) {m m' : Nat} {P : Program} {l : Nat} {f : FuncId} {tmps : Array Value} {assign body : Code} {w : World} {R : Ending → World → Prop}
    (h : RoundIn F m P l f tmps assign body w R) : RoundIn F m' P l f tmps assign body w R := ⟨h.1, fun c cs _ => h.2 c cs (room_of_none hd _)⟩
theorem YieldAt.anyDepth {F : Fence} (hd : F.depth = none) {m : Nat} (m' : Nat) {P : Program} {l : Nat} {args : Array Value} {W : World} {R : Ending → World → Prop} (h : YieldAt F m P l args W R) : YieldAt F m' P l args W R := by
  obtain ⟨fn, tmps, assign, body, hy, hR⟩ := h
  exact ⟨fn, tmps, assign, body, hy, RoundIn.anyDepth hd hR⟩

/-- What a taker's word hangs on: nothing but its blocks. -/
def Framed (I : (Nat → Prop) → World → Prop) : Prop := ∀ S w w', I S w → Agree S w w' → w.heap.size ≤ w'.heap.size → I S w'

/-- What one taking does. -/
def TakePost {α : Type} (Rd Rs : List α → (Nat → Prop) → World → Prop) (pre : List α) (S : Nat → Prop) (W : World) (e : Ending) (W' : World) : Prop :=
  ∃ S' : Nat → Prop, (∀ k, S' k → S k ∨ W.heap.size ≤ k) ∧ Sb.Mod S W W' ∧ ((e = .returned (.bool true) ∧ Rd pre S' W') ∨ (e = .returned (.bool false) ∧ Rs pre S' W'))

/-- Takes data, one behind the other, as long as what came is Ok, each handed over by a call of yield l; may say 'no more'. -/
structure Taker (P : Program) (l : Nat) {α : Type} (enc : α → Array Value) (Ok : List α → Prop) (Rd Rs : List α → (Nat → Prop) → World → Prop) : Prop where
  frame : ∀ pre, Framed (Rd pre)
  frameS : ∀ pre, Framed (Rs pre)
  round : ∀ pre x S W m, Rd pre S W → Ok (pre ++ [x]) → YieldAt Fence.wide m P l (enc x) W (TakePost Rd Rs (pre ++ [x]) S W)

/-- Gives data, one behind the other, what came being Ok, all being Full; what it reads lies in T (as it lay in W0), of these it writes U; J: how far it is. -/
def Iter (P : Program) (gf : Nat) (lb : Array Value) {α : Type} (enc : α → Array Value) (Ok Full : List α → Prop) (T U : Nat → Prop) (W0 : World) (J : List α → World → Prop) : Prop :=
  ∀ (l : Nat) (Rd Rs : List α → (Nat → Prop) → World → Prop) (S : Nat → Prop) (w : World), Taker P l enc Ok Rd Rs → Agree T W0 w → W0.heap.size ≤ w.heap.size → (∀ k, T k → k < W0.heap.size → ¬ S k) → (∀ k, S k → k < w.heap.size) → Rd [] S w → w.os = W0.os → ∀ n,
    CallsIn Fence.wide n P gf (#[.func (.yield l) #[] #[]] ++ lb) w fun e w' => (∃ v, e = .returned v) ∧ ∃ S' : Nat → Prop, (∀ k, S' k → S k ∨ w.heap.size ≤ k) ∧ Sb.Mod (fun k => S k ∨ (U k ∧ k < W0.heap.size)) w w' ∧
      ((∃ xs, Full xs ∧ Rd xs S' w' ∧ J xs w') ∨ (∃ pre, Ok pre ∧ pre ≠ [] ∧ Rs pre S' w' ∧ J pre w'))

/-- It gives in a later world too. -/
theorem Iter.move {P : Program} {gf : Nat} {lb : Array Value} {α : Type} {enc : α → Array Value} {Ok Full : List α → Prop} {T U : Nat → Prop} {W0 W1 : World} {J : List α → World → Prop} (h : Iter P gf lb enc Ok Full T U W0 J)
    (ha : Agree T W0 W1) (hs : W0.heap.size ≤ W1.heap.size) (ho : W1.os = W0.os) : Iter P gf lb enc Ok Full T U W1 J := by
  intro l Rd Rs S w htk hag hsz hdis hS hr hos n
  refine (h l Rd Rs S w htk (fun k hT hk => (hag k hT (Nat.lt_of_lt_of_le hk hs)).trans (ha k hT hk)) (Nat.le_trans hs hsz) (fun k hT hk => hdis k hT (Nat.lt_of_lt_of_le hk hs)) hS hr (hos.trans ho) n).mono ?_
  rintro e w' ⟨hv, S', h1, h2, h3⟩
  exact ⟨hv, S', h1, h2.mono (fun k _ h => h.imp id (fun h => ⟨h.1, Nat.lt_of_lt_of_le h.2 hs⟩)), h3⟩

theorem takePost_bool {α : Type} {Rd Rs : List α → (Nat → Prop) → World → Prop} {pre : List α} {S : Nat → Prop} {W : World} {e : Ending} {W' : World} (h : TakePost Rd Rs pre S W e W') :
    ∃ bb, e = .returned (.bool bb) ∧ ∃ S' : Nat → Prop, (∀ k, S' k → S k ∨ W.heap.size ≤ k) ∧ Sb.Mod S W W' ∧ (bb = true → Rd pre S' W') ∧ (bb = false → Rs pre S' W') := by
  obtain ⟨S', h1, h2, (⟨rfl, h3⟩ | ⟨rfl, h3⟩)⟩ := h
  · exact ⟨true, rfl, S', h1, h2, fun _ => h3, fun h => by cases h⟩
  · exact ⟨false, rfl, S', h1, h2, fun h => (by cases h), fun _ => h3⟩

theorem put_mod {w : World} {S : Nat → Prop} {r : Nat} (hr : S r ∨ w.heap.size ≤ r) (o : Obj) : Sb.Mod S w (w.putObj r o) :=
  ⟨rfl, rfl, rfl, by simp, fun k hk hn => World.putObj_heap_other (fun e => hr.elim (fun h => hn (e ▸ h)) (fun h => by omega))⟩
theorem put_agree {w : World} {S : Nat → Prop} {r : Nat} (hr : ¬ S r) (o : Obj) : Agree S w (w.putObj r o) := fun k hS hk => World.putObj_heap_other (fun e => hr (e ▸ hS))

/-- What a body's walk owes at each way out. -/
def bodyOwes {α : Type} (I : List α → (Nat → Prop) → World → Prop) (Ix : Code → List α → (Nat → Prop) → World → Prop) (pre : List α) (S : Nat → Prop) (W : World) : Exit → Act → World → Prop
  | .normal, _, W' => ∃ S' : Nat → Prop, (∀ k, S' k → S k ∨ W.heap.size ≤ k) ∧ Sb.Mod S W W' ∧ I pre S' W'
  | .ret, _, W' => ∃ S' : Nat → Prop, (∀ k, S' k → S k ∨ W.heap.size ≤ k) ∧ Sb.Mod S W W' ∧ Ix .ret pre S' W'
  | .exit id, _, W' => ∃ S' : Nat → Prop, (∀ k, S' k → S k ∨ W.heap.size ≤ k) ∧ Sb.Mod S W W' ∧ Ix (.exit id) pre S' W'
  | .goto t, _, W' => ∃ S' : Nat → Prop, (∀ k, S' k → S k ∨ W.heap.size ≤ k) ∧ Sb.Mod S W W' ∧ Ix (.goto t) pre S' W'
  | .panic _, _, _ => False
  | .outgrown, _, _ => False

/-- **THE RANGE**, at an outermost loop. -/
theorem range_law {P : Program} {α : Type} {g : Operand} {ps : Array Tmp} {assign body : Code} {Q : Exit → Act → World → Prop} {a : Act} {w : World} {n : Nat}
    {gf : Nat} {lb : Array Value} (hg : a.eval g = .func (.func gf) #[] lb) (eg : ∀ args w, (callFunc gf args).run P w = .ok (.enter gf args) w)
    {enc : α → Array Value} {Ok Full : List α → Prop} {T U : Nat → Prop} {J : List α → World → Prop} (hit : Iter P gf lb enc Ok Full T U w J) (hps : ∀ x, (enc x).size = ps.size)
    (hTl : ∀ k, T k → k < w.heap.size)
    (I : List α → (Nat → Prop) → World → Prop) (Ix : Code → List α → (Nat → Prop) → World → Prop) (hI : ∀ pre, Framed (I pre)) (hIx : ∀ c pre, Framed (Ix c pre))
    (S0 : Nat → Prop) (h0 : I [] S0 w) (hS0 : ∀ k, S0 k → k < w.heap.size) (hdis : ∀ k, T k → ¬ S0 k) (Ax : α → Nat → Act → World → Prop)
    (hAx : ∀ x B a' W W', Ax x B a' W → (∀ k, B ≤ k → k < W.heap.size → W'.heap[k]? = W.heap[k]?) → W.heap.size ≤ W'.heap.size → Ax x B a' W')
    (hassign : ∀ (l : Nat) (x : α) (W : World) (m : Nat) (K : Act → World → Prop), (∀ a' W', Keep W W' → Ax x W.heap.size a' W' → K a' W') →
      assign.wpIn (Fence.wide.inRound l) m P (Exit.then K (fun _ _ _ => False)) { tmps := (ps.zip (enc x)).foldl (fun t (p, v) => t.setIfInBounds p v) a.tmps, defers := [] } W)
    (hbody : ∀ (l : Nat) (pre : List α) (x : α) (S : Nat → Prop) (W : World) (m B : Nat) (a' : Act), I pre S W → Ax x B a' W → w.heap.size ≤ B → B ≤ W.heap.size → (∀ k, S k → S0 k ∨ w.heap.size ≤ k) → Ok (pre ++ [x]) → w.heap.size ≤ l → (∃ r, W.heap[l]? = some (.loop r)) → ¬ S l →
      body.wpIn (Fence.wide.inRound l) m P (bodyOwes I Ix (pre ++ [x]) S W) a' W)
    (hdone : ∀ (D : Nat) (xs : List α) (S : Nat → Prop) (W : World), Full xs → w.heap.size ≤ D → ¬ S D → W.heap[D]? = some (.deferred (some [])) → (∀ k, S k → S0 k ∨ w.heap.size ≤ k) → Sb.Mod (fun k => S0 k ∨ U k) w W → I xs S W → J xs W →
      Q .normal { a with defers := { target := .collected D, args := #[] } :: a.defers } W)
    (hJ : ∀ pre W W', J pre W → Agree T W W' → W.heap.size ≤ W'.heap.size → J pre W')
    (hstop : ∀ (D : Nat) (c : Code) (pre : List α) (S : Nat → Prop) (W : World), w.heap.size ≤ D → ¬ S D → W.heap[D]? = some (.deferred (some [])) → (∀ k, S k → S0 k ∨ w.heap.size ≤ k) → Sb.Mod (fun k => S0 k ∨ U k) w W → Ok pre → Ix c pre S W → J pre W →
      c.wpIn Fence.wide n P Q { a with defers := { target := .collected D, args := #[] } :: a.defers } W) :
    (Code.rangeFunc g ps assign body).wpIn Fence.wide n P Q a w := by
  refine wpIn_rangeFunc ?_
  intro fn hfn
  rw [show Fence.wide.round = none from rfl]
  obtain ⟨rec, hrec⟩ : ∃ rec : LoopState → Option Code → Loop, rec = fun st pe => { state := st, pending := pe, fn, tmps := a.tmps, params := ps, assign, body, defers := w.heap.size } := ⟨_, rfl⟩
  obtain ⟨W1, hW1⟩ : ∃ W1, (w.alloc (.deferred (some []))).alloc (.loop (rec .ready none)) = W1 := ⟨_, rfl⟩
  have hsz1 : W1.heap.size = w.heap.size + 2 := by rw [← hW1]; simp
  have hL1 : W1.heap[w.heap.size + 1]? = some (.loop (rec .ready none)) := by
    rw [← hW1]; have := World.alloc_heap_new (w.alloc (.deferred (some []))) (.loop (rec .ready none)); rwa [World.size_alloc] at this
  have hK1 : W1.heap[w.heap.size]? = some (.deferred (some [])) := by
    rw [← hW1]; exact (Below.heap_alloc _ _ _ (by simp)).trans (World.alloc_heap_new w _)
  have hb1 : Keep w W1 := by
    rw [← hW1]; exact ((Below.refl _ w).alloc (Nat.le_refl _) _).alloc (by simp) _
  obtain ⟨Rd, hRd⟩ : ∃ Rd : List α → (Nat → Prop) → World → Prop, Rd = fun pre S W => ∃ S1 : Nat → Prop, I pre S1 W ∧ (∀ k, S k ↔ S1 k ∨ k = w.heap.size ∨ k = w.heap.size + 1) ∧ ¬ S1 w.heap.size ∧ ¬ S1 (w.heap.size + 1) ∧
      (∀ k, S1 k → S0 k ∨ w.heap.size ≤ k) ∧ W.heap[w.heap.size + 1]? = some (.loop (rec .ready none)) ∧ W.heap[w.heap.size]? = some (.deferred (some [])) := ⟨_, rfl⟩
  obtain ⟨Rs, hRs⟩ : ∃ Rs : List α → (Nat → Prop) → World → Prop, Rs = fun pre S W => ∃ (c : Code) (S1 : Nat → Prop), Ix c pre S1 W ∧ (∀ k, S k ↔ S1 k ∨ k = w.heap.size ∨ k = w.heap.size + 1) ∧ ¬ S1 w.heap.size ∧ ¬ S1 (w.heap.size + 1) ∧
      (∀ k, S1 k → S0 k ∨ w.heap.size ≤ k) ∧ W.heap[w.heap.size + 1]? = some (.loop (rec .done (some c))) ∧ W.heap[w.heap.size]? = some (.deferred (some [])) := ⟨_, rfl⟩
  have htk : Taker P (w.heap.size + 1) enc Ok Rd Rs := by
    refine ⟨?_, ?_, ?_⟩
    · intro pre S A B h ha hs
      rw [hRd] at h ⊢
      obtain ⟨S1, hi, hS, n1, n2, hf, hl, hk⟩ := h
      exact ⟨S1, hI _ _ _ _ hi (fun k hk' hlt => ha k ((hS k).2 (.inl hk')) hlt) hs, hS, n1, n2, hf, ha.at hl ((hS _).2 (.inr (.inr rfl))), ha.at hk ((hS _).2 (.inr (.inl rfl)))⟩
    · intro pre S A B h ha hs
      rw [hRs] at h ⊢
      obtain ⟨c, S1, hi, hS, n1, n2, hf, hl, hk⟩ := h
      exact ⟨c, S1, hIx _ _ _ _ _ hi (fun k hk' hlt => ha k ((hS k).2 (.inl hk')) hlt) hs, hS, n1, n2, hf, ha.at hl ((hS _).2 (.inr (.inr rfl))), ha.at hk ((hS _).2 (.inr (.inl rfl)))⟩
    · intro pre x S W m h hpre
      rw [hRd] at h
      obtain ⟨S1, hi, hS, n1, n2, hf, hl, hk⟩ := h
      have hlt : w.heap.size + 1 < W.heap.size := lt_of_some hl
      have hy := run_yield (P := P) (args := enc x) hl (by rw [hrec]; exact hps x)
      rw [hrec] at hy
      refine ⟨fn, _, assign, body, hy, roundIn_of_wpIn hfn (hassign _ x W m _ ?_)⟩
      clear hy
      intro a' Wa hka hax
      obtain ⟨B, hB⟩ : ∃ B, W.heap.size = B := ⟨_, rfl⟩
      rw [hB] at hax hlt
      have hmS : Sb.Mod S W Wa := Mod.of_keep hka
      replace hl := blk_keep hl hka
      replace hk := blk_keep hk hka
      replace hi := hI _ _ _ _ hi (agree_keep hka) hka.size
      have hBs : B ≤ Wa.heap.size := by rw [← hB]; exact hka.size
      clear hka
      have hlt' : w.heap.size + 1 < Wa.heap.size := lt_of_some hl
      refine ⟨_, run_beginRound hl (by rw [hrec]), ?_⟩
      obtain ⟨W2, hW2⟩ : ∃ W2, Wa.putObj (w.heap.size + 1) (.loop { rec .ready none with state := .busy }) = W2 := ⟨_, rfl⟩
      rw [hW2]
      have hl2 : W2.heap[w.heap.size + 1]? = some (.loop { rec .ready none with state := .busy }) := by rw [← hW2]; exact World.putObj_heap_same hlt'
      have hk2 : W2.heap[w.heap.size]? = some (.deferred (some [])) := by rw [← hW2]; exact (World.putObj_heap_other (by omega)).trans hk
      have hi2 : I pre S1 W2 := by rw [← hW2]; exact hI _ _ _ _ hi (put_agree n2 _) (by simp)
      have hs2 : W2.heap.size = Wa.heap.size := by rw [← hW2]; simp
      have hm2 : Sb.Mod S W W2 := by rw [← hW2]; exact hmS.trans (put_mod (.inl (.inl ((hS _).2 (.inr (.inr rfl))))) _)
      refine wpIn_mono (hbody _ pre x S1 W2 m B a' hi2 (by rw [← hW2]; exact hAx _ _ _ _ _ hax (fun k h1 h2 => World.putObj_heap_other (by omega)) (by simp)) (by omega) (by omega) hf hpre (by omega) ⟨_, hl2⟩ n2) ?_
      have fin : ∀ (jump : Option Code) (S3 : Nat → Prop) (W3 : World), (∀ k, S3 k → S1 k ∨ W2.heap.size ≤ k) → Sb.Mod S1 W2 W3 →
          (Instr.endRound (w.heap.size + 1) jump).run P W3 = .ok (.bool jump.isNone) (W3.putObj (w.heap.size + 1) (.loop (rec (if jump.isNone then .ready else .done) jump))) ∧
          (W3.putObj (w.heap.size + 1) (.loop (rec (if jump.isNone then .ready else .done) jump))).heap[w.heap.size + 1]? = some (.loop (rec (if jump.isNone then .ready else .done) jump)) ∧
          (W3.putObj (w.heap.size + 1) (.loop (rec (if jump.isNone then .ready else .done) jump))).heap[w.heap.size]? = some (.deferred (some [])) ∧
          ¬ S3 w.heap.size ∧ ¬ S3 (w.heap.size + 1) ∧ (∀ k, S3 k → S0 k ∨ w.heap.size ≤ k) ∧
          Sb.Mod S W (W3.putObj (w.heap.size + 1) (.loop (rec (if jump.isNone then .ready else .done) jump))) ∧
          (∀ k, (S3 k ∨ k = w.heap.size ∨ k = w.heap.size + 1) → S k ∨ W.heap.size ≤ k) ∧ Agree S3 W3 (W3.putObj (w.heap.size + 1) (.loop (rec (if jump.isNone then .ready else .done) jump))) := by
        intro jump S3 W3 hs3 hm3
        have hl3 := blk_mod hl2 hm3 n2
        have hk3 := blk_mod hk2 hm3 n1
        have q1 : ¬ S3 w.heap.size := fun h => (hs3 _ h).elim n1 (fun h => by omega)
        have q2 : ¬ S3 (w.heap.size + 1) := fun h => (hs3 _ h).elim n2 (fun h => by omega)
        have := run_endRound (P := P) jump hl3
        rw [hrec] at this ⊢
        refine ⟨this, World.putObj_heap_same (lt_of_some hl3), (World.putObj_heap_other (by omega)).trans hk3, q1, q2, ?_, ?_, ?_, put_agree q2 _⟩
        · intro k hk'
          rcases hs3 k hk' with h | h
          · exact hf k h
          · exact .inr (by omega)
        · have e1 : Sb.Mod S W W3 := hm2.trans (hm3.mono (fun k _ h => .inl ((hS k).2 (.inl h))))
          exact e1.trans (put_mod (.inl (.inl ((hS _).2 (.inr (.inr rfl))))) _)
        · rintro k (h | rfl | rfl)
          · rcases hs3 k h with h | h
            · exact .inl ((hS k).2 (.inl h))
            · exact .inr (by omega)
          · exact .inl ((hS _).2 (.inr (.inl rfl)))
          · exact .inl ((hS _).2 (.inr (.inr rfl)))
      rintro e a3 W3 hp
      cases e with
      | normal =>
        obtain ⟨S3, hs3, hm3, hi3⟩ := hp
        obtain ⟨hr, f1, f2, f3, f4, f5, f6, f7, f8⟩ := fin none S3 W3 hs3 hm3
        refine ⟨_, _, hr, _, f7, f6, .inl ⟨rfl, ?_⟩⟩
        rw [hRd]
        exact ⟨S3, hI _ _ _ _ hi3 f8 (by simp), fun _ => Iff.rfl, f3, f4, f5, f1, f2⟩
      | ret =>
        obtain ⟨S3, hs3, hm3, hi3⟩ := hp
        obtain ⟨hr, f1, f2, f3, f4, f5, f6, f7, f8⟩ := fin (some .ret) S3 W3 hs3 hm3
        refine ⟨_, _, hr, _, f7, f6, .inr ⟨rfl, ?_⟩⟩
        rw [hRs]
        exact ⟨_, S3, hIx _ _ _ _ _ hi3 f8 (by simp), fun _ => Iff.rfl, f3, f4, f5, f1, f2⟩
      | exit id =>
        obtain ⟨S3, hs3, hm3, hi3⟩ := hp
        obtain ⟨hr, f1, f2, f3, f4, f5, f6, f7, f8⟩ := fin (some (.exit id)) S3 W3 hs3 hm3
        refine ⟨_, _, hr, _, f7, f6, .inr ⟨rfl, ?_⟩⟩
        rw [hRs]
        exact ⟨_, S3, hIx _ _ _ _ _ hi3 f8 (by simp), fun _ => Iff.rfl, f3, f4, f5, f1, f2⟩
      | goto t =>
        obtain ⟨S3, hs3, hm3, hi3⟩ := hp
        obtain ⟨hr, f1, f2, f3, f4, f5, f6, f7, f8⟩ := fin (some (.goto t)) S3 W3 hs3 hm3
        refine ⟨_, _, hr, _, f7, f6, .inr ⟨rfl, ?_⟩⟩
        rw [hRs]
        exact ⟨_, S3, hIx _ _ _ _ _ hi3 f8 (by simp), fun _ => Iff.rfl, f3, f4, f5, f1, f2⟩
      | panic ch => exact hp.elim
      | outgrown => exact hp.elim
  have hS0n : ¬ S0 w.heap.size ∧ ¬ S0 (w.heap.size + 1) := ⟨fun h => by have := hS0 _ h; omega, fun h => by have := hS0 _ h; omega⟩
  have hr0 : Rd [] (fun k => S0 k ∨ k = w.heap.size ∨ k = w.heap.size + 1) W1 := by
    rw [hRd]
    exact ⟨S0, hI _ _ _ _ h0 (agree_keep hb1) hb1.size, fun _ => Iff.rfl, hS0n.1, hS0n.2, fun k h => .inl h, hL1, hK1⟩
  refine ⟨w.heap.size + 1, [{ target := .collected w.heap.size, args := #[] }], W1, { target := .fn (.func gf) lb, args := #[.func (.yield (w.heap.size + 1)) #[] #[]] }, W1, gf,
    #[.func (.yield (w.heap.size + 1)) #[] #[]] ++ lb, W1, ?_, ?_, ?_, ?_, fun h => (by cases h), ?_⟩
  · rw [← hW1, hrec]; exact run_enterLoop_outer _ _ _ _ _
  · simp only [resolve, hg]
    simp [go_sem]
  · intro f' hf'; exact trivial
  · simp [invoke, go_sem, eg]
  · refine (hit (w.heap.size + 1) Rd Rs _ W1 htk (agree_keep hb1) hb1.size ?_ ?_ hr0 hb1.os _).mono ?_
    · intro k hT hk h
      have := hTl k hT
      rcases h with h | h | h
      · exact hdis k hT h
      · omega
      · omega
    · rintro k (h | rfl | rfl)
      · have := hS0 _ h; omega
      · omega
      · omega
    · have hmod : ∀ W2 : World, Sb.Mod (fun k => (S0 k ∨ k = w.heap.size ∨ k = w.heap.size + 1) ∨ (U k ∧ k < w.heap.size)) W1 W2 → ∀ o, Sb.Mod (fun k => S0 k ∨ U k) w (W2.putObj (w.heap.size + 1) o) := by
        intro W2 hm o
        have e1 : Sb.Mod (fun k => S0 k ∨ U k) w W1 := Mod.of_keep hb1
        have e2 : Sb.Mod (fun k => S0 k ∨ U k) w W2 := e1.trans (hm.mono (by
          rintro k _ ((h | rfl | rfl) | h)
          · exact .inl (.inl h)
          · exact .inr (by omega)
          · exact .inr (by omega)
          · exact .inl (.inr h.1)))
        exact e2.trans (put_mod (.inl (.inr (by omega))) _)
      rintro e W2 ⟨⟨v, rfl⟩, S2, hs2, hm2, (⟨xs, hfull, hr, hj⟩ | ⟨pre, hpre, hne, hr, hj⟩)⟩
      · rw [hRd] at hr
        obtain ⟨S1, hi, hS, n1, n2, hf, hl, hk⟩ := hr
        have hag := put_agree (w := W2) n2 (.loop { rec .ready none with state := .exhausted })
        exact ⟨none, _, by have := run_endLoop (P := P) hl (by rw [hrec]; simp); rw [hrec] at this ⊢; exact this,
          hdone w.heap.size xs S1 _ hfull (Nat.le_refl _) n1 ((World.putObj_heap_other (by omega)).trans hk) hf (hmod _ hm2 _) (hI _ _ _ _ hi hag (by simp)) (hJ _ _ _ hj (put_agree (fun h => by have := hTl _ h; omega) _) (by simp))⟩
      · rw [hRs] at hr
        obtain ⟨c, S1, hi, hS, n1, n2, hf, hl, hk⟩ := hr
        have hag := put_agree (w := W2) n2 (.loop { rec .done (some c) with state := .exhausted })
        exact ⟨some c, _, by have := run_endLoop (P := P) hl (by rw [hrec]; simp); rw [hrec] at this ⊢; exact this,
          hstop w.heap.size c pre S1 _ (Nat.le_refl _) n1 ((World.putObj_heap_other (by omega)).trans hk) hf (hmod _ hm2 _) hpre (hIx _ _ _ _ _ hi hag (by simp)) (hJ _ _ _ hj (put_agree (fun h => by have := hTl _ h; omega) _) (by simp))⟩
end Go.Sb
