/- A drawn region within a round: a quiet head, whose operations may come in any order, and a tail that waits for all of it. No program in sight. -/
import Derived.Test.YtoligbmcceindaaSeq
import Derived.Sort.QuietIn
set_option linter.unusedVariables false
set_option linter.unusedSimpArgs false
namespace Go.Sb
open Go Go.RowKit

def noDefer (ops : Array Oper) : Prop := ∀ (i : Nat) (o : Oper), ops[i]? = some o → ∀ c, o.op ≠ .defer c
def noDeferB (ops : Array Oper) : Bool := ops.all (fun o => match o.op with | .defer _ => false | _ => true)
theorem noDefer_of {ops : Array Oper} (h : noDeferB ops = true) : noDefer ops := by
  intro i o ho c e
  have hm : o ∈ ops := Array.mem_of_getElem? ho
  have := (Array.all_eq_true_iff_forall_mem.1 h) o hm
  rw [e] at this
  cases this

theorem wpIn_inRound {F : Fence} (hro : F.round = none) {n : Nat} {P : Program} {o : Oper} {a : Act} {w : World} {K K' : Act → World → Prop} {Q : Exit → Act → World → Prop} (l : Nat) (hd : ∀ c, o.op ≠ .defer c) (hK : ∀ a w, K a w → K' a w)
    (h : o.wpIn F n P a w K Q) : o.wpIn (F.inRound l) n P a w K' Q := by
  have h' := Oper.wpIn_mono hK h
  unfold Oper.wpIn at h' ⊢
  refine ⟨h'.1, ?_⟩
  have h2 := h'.2
  rw [Oper.semAt_plain F _ _ hd] at h2
  rw [Oper.semAt_plain (F.inRound l) _ _ hd]
  exact h2

theorem wpAnyIn_inRound {F : Fence} (hro : F.round = none) {n : Nat} {P : Program} {md : Region.Mode} {ops : Array Oper} {Q : Exit → Act → World → Prop} (l : Nat) (hd : noDefer ops) :
    ∀ (fuel : Nat) (listed : Array Bool) (a : Act) (w : World), wpAnyIn F n P md ops Q fuel listed a w → wpAnyIn (F.inRound l) n P md ops Q fuel listed a w
  | 0, _, _, _, h => h
  | fuel + 1, listed, a, w, h => by
    refine ⟨h.1, fun i hi => ?_⟩
    have h2 := h.2 i hi
    unfold wpOpIn at h2 ⊢
    cases ho : ops[i]? with
    | none => rw [ho] at h2; exact wpAnyIn_inRound hro l hd fuel _ _ _ h2
    | some o =>
      rw [ho] at h2
      simp only at h2 ⊢
      split
      · rename_i hw
        rw [if_pos hw] at h2
        exact wpIn_inRound hro l (hd i o ho) (fun a w h => wpAnyIn_inRound hro l hd fuel _ a w h) h2
      · rename_i hw
        rw [if_neg hw] at h2
        exact ⟨h2.1, wpAnyIn_inRound hro l hd fuel _ _ _ h2.2⟩

/-- All rows of so many truth values. -/
def allB : Nat → List (List Bool)
  | 0 => [[]]
  | n + 1 => (allB n).flatMap (fun l => [false :: l, true :: l])
theorem mem_allB : ∀ (l : List Bool), l ∈ allB l.length
  | [] => by simp [allB]
  | b :: l => by
    simp only [List.length_cons, allB, List.mem_flatMap]
    exact ⟨l, mem_allB l, by cases b <;> simp⟩

/-- Whatever has come up, what it waits for has come up. -/
def goodB (md : Region.Mode) (head : List Oper) (l : List Bool) : Bool := (head.zip l).all (fun p => !p.2 || p.1.after.all (fun e => !(Region.binds md e) || l.getD e.on true))

/-- The head's operations ask for no guard; as long as one of them has not come up, what may come up of the whole is what may come up of the head; if none may, all have. -/
def headB (md : Region.Mode) (head tail : List Oper) : Bool :=
  head.all (fun o => o.guard.isNone) && goodB md head (List.replicate head.length false) &&
  (allB head.length).all (fun l => !(goodB md head l) ||
    if Region.ready md head.toArray l.toArray == [] then l.all id
    else Region.ready md (head ++ tail).toArray (l ++ List.replicate tail.length false).toArray == Region.ready md head.toArray l.toArray && (Region.ready md head.toArray l.toArray).all (fun i => decide (i < head.length) && goodB md head (l.set i true)))

theorem sim {F : Fence} (hro : F.round = none) {n : Nat} {P : Program} {md : Region.Mode} {head tail : List Oper} {C : World → Prop} {Qt : Act → Prop} {Q : Exit → Act → World → Prop} {t : Nat} (hB : headB md head tail = true)
    (hT : ∀ f a w, C w → Qt a → wpAnyIn F n P md (head ++ tail).toArray Q (f + t) (List.replicate head.length true ++ List.replicate tail.length false).toArray a w) :
    ∀ (fuel : Nat) (l : List Bool) (a : Act) (w : World), l.length = head.length → goodB md head l = true → C w → wpAnyQIn F n P md head.toArray C Qt fuel l.toArray a →
      wpAnyIn F n P md (head ++ tail).toArray Q (fuel + t) (l ++ List.replicate tail.length false).toArray a w := by
  simp only [headB, Bool.and_eq_true] at hB
  have hguard : ∀ (i : Nat) (o : Oper), head.toArray[i]? = some o → o.guard = none := by
    intro i o ho
    have hm : o ∈ head := by simpa using Array.mem_of_getElem? ho
    have := (List.all_eq_true.1 hB.1.1) o hm
    simpa using this
  have hall : ∀ l : List Bool, l.length = head.length → goodB md head l = true → (Region.ready md head.toArray l.toArray = [] → l = List.replicate head.length true) ∧
      (Region.ready md head.toArray l.toArray ≠ [] → Region.ready md (head ++ tail).toArray (l ++ List.replicate tail.length false).toArray = Region.ready md head.toArray l.toArray ∧ ∀ i ∈ Region.ready md head.toArray l.toArray, i < head.length ∧ goodB md head (l.set i true) = true) := by
    intro l hl hgl
    have := (List.all_eq_true.1 hB.2) l (hl ▸ mem_allB l)
    rw [hgl, Bool.not_true, Bool.false_or] at this
    by_cases h0 : Region.ready md head.toArray l.toArray = []
    · rw [h0] at this
      simp only [BEq.rfl, if_true] at this
      refine ⟨fun _ => ?_, fun h => absurd h0 h⟩
      rw [List.eq_replicate_iff]
      exact ⟨hl, fun b hb => by simpa using (List.all_eq_true.1 this) b hb⟩
    · rw [if_neg (by simpa using h0)] at this
      simp only [Bool.and_eq_true, beq_iff_eq] at this
      exact ⟨fun h => absurd h h0, fun _ => ⟨this.1, fun i hi => by simpa using (List.all_eq_true.1 this.2) i hi⟩⟩
  intro fuel
  induction fuel with
  | zero =>
    intro l a w hl hgl hC h
    have e := (hall l hl hgl).1 h.1
    subst e
    exact hT 0 a w hC h.2
  | succ fuel ih =>
    intro l a w hl hgl hC h
    by_cases h0 : Region.ready md head.toArray l.toArray = []
    · have e := (hall l hl hgl).1 h0
      subst e
      exact hT (fuel + 1) a w hC (h.1 h0)
    · obtain ⟨hr, hlt⟩ := (hall l hl hgl).2 h0
      rw [show fuel + 1 + t = (fuel + t) + 1 by omega]
      refine ⟨fun e => ?_, fun i hi => ?_⟩
      · rw [hr] at e; exact absurd e h0
      · rw [hr] at hi
        have hil := (hlt i hi).1
        have hset : (l ++ List.replicate tail.length false).toArray.setIfInBounds i true = (l.set i true ++ List.replicate tail.length false).toArray := by
          rw [List.setIfInBounds_toArray, List.set_append_left _ _ (by omega)]
        rw [hset]
        have hq := h.2 i hi
        have hset2 : l.toArray.setIfInBounds i true = (l.set i true).toArray := by rw [List.setIfInBounds_toArray]
        rw [hset2] at hq
        have hop : (head ++ tail).toArray[i]? = head.toArray[i]? := by simp [List.getElem?_append_left hil]
        have hq2 : qOpIn F n P (head ++ tail).toArray C i (wpAnyQIn F n P md head.toArray C Qt fuel (l.set i true).toArray) a := by
          unfold qOpIn at hq ⊢
          rw [hop]
          cases ho : head.toArray[i]? with
          | none => rw [ho] at hq; exact hq
          | some o =>
            rw [ho] at hq
            simp only at hq ⊢
            have hg := hguard i o ho
            have hw1 : ∀ ys, Region.wanted o ys = true := fun ys => by simp [Region.wanted, hg]
            rw [if_pos (hw1 _)] at hq ⊢
            exact hq
        exact wpOpIn_of_qOpIn hro hC (fun a' w' hw' h' => ih (l.set i true) a' w' (by simpa using hl) (hlt i hi).2 hw' h') hq2

/-- **THE REGION IN A ROUND**: the head is walked once, in the order of the text, over all worlds that differ from this one by draws; then the tail. -/
theorem region_round {F : Fence} (hro : F.round = none) {n : Nat} {P : Program} {id : Nat} {head tail : List Oper} {Q : Exit → Act → World → Prop} {a : Act} {w : World} {lq t : Nat} (hm : P.follows .mixedOrders = true)
    (hB : headB .any head tail = true) (hL : Region.lexB .any head.toArray = true) (hd : noDeferB (head ++ tail).toArray = true) (ht : tail.length = t) {Qt : Act → Prop}
    (hH : wpQuietIn F n P head.toArray (fun w' => ∃ q, w' = w.drewN q) Qt head a)
    (hT : ∀ f a w', (∃ q, w' = w.drewN q) → Qt a → wpAnyIn F n P .any (head ++ tail).toArray Q (f + t) (List.replicate head.length true ++ List.replicate tail.length false).toArray a w') :
    (Code.region id (head ++ tail).toArray true).wpIn (F.inRound lq) n P Q a w := by
  refine wpIn_region_any hm (wpAnyIn_inRound hro lq (noDefer_of hd) _ _ _ _ ?_)
  simp only [Region.lexB, Bool.and_eq_true] at hL
  have hx := wpAnyQIn_lex (F := F) (n := n) (P := P) (ops := head.toArray) (C := fun w' => ∃ q, w' = w.drewN q) (md := .any) (Q := Qt) hL.1 head 0 (Array.replicate head.length false) a (by simp) (by simpa using hL.2) hH
  have e1 : (Array.replicate head.length false) = (List.replicate head.length false).toArray := by simp
  rw [e1] at hx
  have hg0 : goodB .any head (List.replicate head.length false) = true := by simp only [headB, Bool.and_eq_true] at hB; exact hB.1.2
  have := sim hro hB hT head.length (List.replicate head.length false) a { w with drawn := w.drawn + 1 } (by simp) hg0 ⟨1, rfl⟩ hx
  have e2 : (head ++ tail).toArray.size = head.length + t := by simp [ht]
  have e3 : Array.replicate (head ++ tail).toArray.size false = (List.replicate head.length false ++ List.replicate tail.length false).toArray := by simp
  rw [e3, e2]
  exact this
/-- The same at operations that are written out: k of them are the head. -/
theorem region_round_at {F : Fence} (hro : F.round = none) {n : Nat} {P : Program} {id : Nat} {l : List Oper} (k t : Nat) {Q : Exit → Act → World → Prop} {a : Act} {w : World} {lq : Nat} (hm : P.follows .mixedOrders = true)
    (hk : (l.take k).length = k) (ht : (l.drop k).length = t) (hB : headB .any (l.take k) (l.drop k) = true) (hL : Region.lexB .any (l.take k).toArray = true) (hd : noDeferB l.toArray = true) {A : Act}
    (hH : wpQuietIn F n P (l.take k).toArray (fun w' => ∃ q, w' = w.drewN q) (fun a' => a' = A) (l.take k) a)
    (hT : ∀ f q, wpAnyIn F n P .any l.toArray Q (f + t) (List.replicate k true ++ List.replicate t false).toArray A (w.drewN q)) :
    (Code.region id l.toArray true).wpIn (F.inRound lq) n P Q a w := by
  have e : l.take k ++ l.drop k = l := List.take_append_drop k l
  have h := region_round (F := F) hro (id := id) (head := l.take k) (tail := l.drop k) (Q := Q) (a := a) (w := w) (lq := lq) (t := t) (Qt := fun a' => a' = A) hm hB hL (by rw [e]; exact hd) ht hH (by
    rintro f a' w' ⟨q, rfl⟩ rfl
    rw [hk, ht, e]
    exact hT f q)
  rw [e] at h
  exact h
end Go.Sb
