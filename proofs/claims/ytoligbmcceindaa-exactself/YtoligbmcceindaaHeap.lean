/- Plain laws on binary heaps held in lists, and on the first few of many: no program in sight. -/
import Derived.Test.YtoligbmcceindaaBase
set_option linter.unusedVariables false
set_option linter.unusedSimpArgs false
namespace Go.Sb

/-- A strict order in which what is not ahead of what is not ahead is not ahead. -/
structure SWO {α : Type} (lt : α → α → Bool) : Prop where
  irrefl : ∀ a, lt a a = false
  asymm : ∀ a b, lt a b = true → lt b a = false
  trans : ∀ a b c, lt a b = true → lt b c = true → lt a c = true
  ntrans : ∀ a b c, lt a b = false → lt b c = false → lt a c = false

section heap
variable {α : Type} [Inhabited α] (lt : α → α → Bool)

def HeapOrd (l : List α) : Prop := ∀ i, 0 < i → i < l.length → lt (nth l i) (nth l ((i - 1) / 2)) = false

def UpInv (l : List α) (k : Nat) : Prop :=
  (∀ i, 0 < i → i < l.length → i ≠ k → lt (nth l i) (nth l ((i - 1) / 2)) = false) ∧
  (0 < k → ∀ i, 0 < i → i < l.length → (i - 1) / 2 = k → lt (nth l i) (nth l ((k - 1) / 2)) = false)

def swap (l : List α) (i j : Nat) : List α := (l.set i (nth l j)).set j (nth l i)

variable {lt}

theorem swap_length (l : List α) (i j : Nat) : (swap l i j).length = l.length := by simp [swap]
theorem swap_left {l : List α} {i j : Nat} (hi : i < l.length) (_hj : j < l.length) (h : i ≠ j) : nth (swap l i j) i = nth l j := by
  unfold swap; rw [nth_set_ne (Ne.symm h), nth_set_self hi]
theorem swap_right {l : List α} {i j : Nat} (hj : j < l.length) : nth (swap l i j) j = nth l i := by
  unfold swap; rw [nth_set_self (by simpa using hj)]
theorem swap_other {l : List α} {i j q : Nat} (h1 : i ≠ q) (h2 : j ≠ q) : nth (swap l i j) q = nth l q := by
  unfold swap; rw [nth_set_ne h2, nth_set_ne h1]

theorem ext_nth {l m : List α} (hl : l.length = m.length) (h : ∀ i, i < l.length → nth l i = nth m i) : l = m := by
  apply List.ext_getElem hl
  intro i h1 h2
  rw [← nth_eq h1, ← nth_eq h2]
  exact h i h1

theorem swap_perm {l : List α} {i j : Nat} (hi : i < l.length) (hj : j < l.length) : (swap l i j).Perm l := by
  classical
  rw [List.perm_iff_count]
  intro a
  unfold swap
  rw [List.count_set (by simpa using hj), List.count_set hi, nth_eq hi, nth_eq hj]
  by_cases e : i = j
  · subst e
    simp only [List.getElem_set_self]
    have := List.count_pos_iff.2 (List.getElem_mem hi)
    by_cases e2 : (l[i] == a) = true
    · simp only [e2, if_true]
      have e3 : l[i] = a := by simpa using e2
      rw [e3] at this
      omega
    · simp [e2]
  · rw [List.getElem_set_ne (by omega)]
    have h1 := List.count_pos_iff.2 (List.getElem_mem hi)
    have h2 := List.count_pos_iff.2 (List.getElem_mem hj)
    by_cases e2 : (l[i] == a) = true
    · have e3 : l[i] = a := by simpa using e2
      rw [e3] at h1
      by_cases e4 : (l[j] == a) = true
      · simp only [e2, e4, if_true]; omega
      · simp only [e2, e4, if_true, Bool.false_eq_true, if_false]; omega
    · by_cases e4 : (l[j] == a) = true
      · have e5 : l[j] = a := by simpa using e4
        rw [e5] at h2
        simp only [e2, e4, if_true, Bool.false_eq_true, if_false]; omega
      · simp only [e2, e4, Bool.false_eq_true, if_false]; omega

theorem up_start (x : α) (l : List α) (h : HeapOrd lt l) : UpInv lt (l ++ [x]) l.length := by
  refine ⟨fun i h0 hi hne => ?_, fun _ i h0 hi hp => ?_⟩
  · simp at hi
    rw [nth_append_left (by omega), nth_append_left (by omega)]
    exact h i h0 (by omega)
  · simp at hi; omega

theorem up_stop {l : List α} {k : Nat} (h : UpInv lt l k) (hk : k = 0 ∨ lt (nth l k) (nth l ((k - 1) / 2)) = false) : HeapOrd lt l := by
  intro i h0 hi
  by_cases e : i = k
  · subst e
    rcases hk with hk | hk
    · omega
    · exact hk
  · exact h.1 i h0 hi e

theorem up_step (S : SWO lt) {l : List α} {k : Nat} (h : UpInv lt l k) (h0 : 0 < k) (hk : k < l.length) (ht : lt (nth l k) (nth l ((k - 1) / 2)) = true) :
    UpInv lt (swap l k ((k - 1) / 2)) ((k - 1) / 2) := by
  have hu : (k - 1) / 2 < k := by omega
  generalize hup : (k - 1) / 2 = u at *
  have hul : u < l.length := by omega
  refine ⟨fun i hi0 hi hne => ?_, fun hu0 i hi0 hi hp => ?_⟩
  · rw [swap_length] at hi
    by_cases e : i = k
    · subst e
      rw [hup, swap_left hi hul (by omega), swap_right hul]
      exact S.asymm _ _ ht
    · rw [swap_other (Ne.symm e) (Ne.symm hne)]
      by_cases e2 : (i - 1) / 2 = k
      · rw [e2, swap_left hk hul (by omega)]
        have := h.2 h0 i hi0 hi e2
        rwa [hup] at this
      · by_cases e3 : (i - 1) / 2 = u
        · rw [e3, swap_right hul]
          have := h.1 i hi0 hi e
          rw [e3] at this
          exact S.ntrans _ _ _ this (S.asymm _ _ ht)
        · rw [swap_other (Ne.symm e2) (Ne.symm e3)]
          exact h.1 i hi0 hi e
  · rw [swap_length] at hi
    have hpu : lt (nth l u) (nth l ((u - 1) / 2)) = false := h.1 u hu0 hul (by omega)
    have e4 : nth (swap l k u) ((u - 1) / 2) = nth l ((u - 1) / 2) := swap_other (by omega) (by omega)
    rw [e4]
    by_cases e : i = k
    · subst e
      rw [swap_left hi hul (by omega)]
      exact hpu
    · rw [swap_other (Ne.symm e) (by omega)]
      have := h.1 i hi0 hi e
      rw [hp] at this
      exact S.ntrans _ _ _ this hpu

variable (lt) in
def DownInv (l : List α) (k : Nat) : Prop :=
  (∀ i, 0 < i → i < l.length → (i - 1) / 2 ≠ k → lt (nth l i) (nth l ((i - 1) / 2)) = false) ∧
  (0 < k → ∀ i, 0 < i → i < l.length → (i - 1) / 2 = k → lt (nth l i) (nth l ((k - 1) / 2)) = false)

theorem down_start {l : List α} {x : α} (h : HeapOrd lt l) : DownInv lt (l.set 0 x) 0 := by
  refine ⟨fun i h0 hi hne => ?_, fun h0 => absurd h0 (by omega)⟩
  simp at hi
  rw [nth_set_ne (by omega), nth_set_ne (by omega)]
  exact h i h0 hi

theorem heap_dropLast {l : List α} (h : HeapOrd lt l) : HeapOrd lt l.dropLast := by
  intro i h0 hi
  simp at hi
  rw [nth_dropLast (by omega), nth_dropLast (by omega)]
  exact h i h0 (by omega)

/-- b is the best of k and its kids. -/
structure Best (lt : α → α → Bool) (l : List α) (k b : Nat) : Prop where
  here : b = k ∨ b = 2 * k + 1 ∨ b = 2 * k + 2
  lt_len : b < l.length
  self : lt (nth l k) (nth l b) = false
  kid1 : 2 * k + 1 < l.length → lt (nth l (2 * k + 1)) (nth l b) = false
  kid2 : 2 * k + 2 < l.length → lt (nth l (2 * k + 2)) (nth l b) = false

theorem down_stop {l : List α} {k : Nat} (h : DownInv lt l k) (hb : Best lt l k k) : HeapOrd lt l := by
  intro i h0 hi
  by_cases e : (i - 1) / 2 = k
  · rw [e]
    rcases (by omega : i = 2 * k + 1 ∨ i = 2 * k + 2) with rfl | rfl
    · exact hb.kid1 hi
    · exact hb.kid2 hi
  · exact h.1 i h0 hi e

theorem down_step (S : SWO lt) {l : List α} {k b : Nat} (h : DownInv lt l k) (hk : k < l.length) (hb : Best lt l k b) (hne : b ≠ k) (ht : lt (nth l b) (nth l k) = true) : DownInv lt (swap l k b) b := by
  have hbp : (b - 1) / 2 = k := by rcases hb.here with e | e | e <;> omega
  have hb0 : 0 < b := by rcases hb.here with e | e | e <;> omega
  have hkb : k < b := by rcases hb.here with e | e | e <;> omega
  have hbl := hb.lt_len
  refine ⟨fun i hi0 hi hp => ?_, fun _ i hi0 hi hp => ?_⟩
  · rw [swap_length] at hi
    by_cases e : (i - 1) / 2 = k
    · rw [e, swap_left hk hbl (by omega)]
      by_cases e2 : i = b
      · subst e2
        rw [swap_right hbl]
        exact hb.self
      · rw [swap_other (by omega) (Ne.symm e2)]
        rcases (by omega : i = 2 * k + 1 ∨ i = 2 * k + 2) with rfl | rfl
        · exact hb.kid1 hi
        · exact hb.kid2 hi
    · rw [swap_other (q := (i - 1) / 2) (Ne.symm e) (Ne.symm hp)]
      by_cases e2 : i = k
      · subst e2
        rw [swap_left hk hbl (by omega)]
        have := h.2 hi0 b hb0 hbl hbp
        exact this
      · by_cases e3 : i = b
        · subst e3; omega
        · rw [swap_other (Ne.symm e2) (Ne.symm e3)]
          exact h.1 i hi0 hi e
  · rw [swap_length] at hi
    rw [hbp, swap_left hk hbl (by omega), swap_other (by omega) (by omega)]
    have := h.1 i hi0 hi (by omega)
    rw [hp] at this
    exact this

/-- Nothing is ahead of the top. -/
theorem heap_top (S : SWO lt) {l : List α} (h : HeapOrd lt l) : ∀ i, i < l.length → lt (nth l i) (nth l 0) = false := by
  intro i
  induction i using Nat.strongRecOn with
  | _ i ih =>
    intro hi
    by_cases e : i = 0
    · subst e; exact S.irrefl _
    · have h1 := h i (by omega) hi
      have h2 := ih ((i - 1) / 2) (by omega) (by omega)
      exact S.ntrans _ _ _ h1 h2

theorem heap_top_mem (S : SWO lt) {l : List α} (h : HeapOrd lt l) {x : α} (hx : x ∈ l) : lt x (nth l 0) = false := by
  obtain ⟨i, hi, rfl⟩ := mem_nth hx
  exact heap_top S h i hi

theorem pop_perm {l : List α} (h : 0 < l.length) : (nth l 0 :: ((l.set 0 (nth l (l.length - 1))).dropLast)).Perm l := by
  classical
  cases l with
  | nil => simp at h
  | cons a t =>
    rcases List.eq_nil_or_concat t with rfl | ⟨t', b, rfl⟩
    · simp [nth]
    · have e1 : nth (a :: (t' ++ [b])) 0 = a := by simp [nth]
      have e2 : nth (a :: (t' ++ [b])) ((a :: (t' ++ [b])).length - 1) = b := by simp [nth]
      rw [List.concat_eq_append, e1, e2]
      simp only [List.set_cons_zero]
      rw [← List.cons_append, List.dropLast_concat]
      refine List.Perm.cons a ?_
      exact (List.perm_append_singleton b t').symm
end heap

section topk
variable {α : Type}

/-- A thing with its number: the number decides where the order doesn't. -/
def ahead (lt : α → α → Bool) (a b : α × Int) : Bool := if lt a.1 b.1 then true else if lt b.1 a.1 then false else decide (a.2 < b.2)

theorem ahead_swo {lt : α → α → Bool} (S : SWO lt) : SWO (ahead lt) := by
  refine ⟨fun a => ?_, fun a b h => ?_, fun a b c h1 h2 => ?_, fun a b c h1 h2 => ?_⟩
  · simp [ahead, S.irrefl]
  · unfold ahead at h ⊢
    by_cases e : lt a.1 b.1 = true
    · simp [e, S.asymm _ _ e]
    · by_cases e2 : lt b.1 a.1 = true
      · simp [e, e2] at h
      · simp [e, e2] at h ⊢; omega
  · unfold ahead at h1 h2 ⊢
    by_cases e1 : lt a.1 b.1 = true
    · by_cases e2 : lt b.1 c.1 = true
      · simp [S.trans _ _ _ e1 e2]
      · by_cases e3 : lt c.1 b.1 = true
        · simp [e2, e3] at h2
        · by_cases e4 : lt a.1 c.1 = true
          · simp [e4]
          · have := S.ntrans _ _ _ (by simpa using e4) (by simpa using e3)
            rw [this] at e1; cases e1
    · by_cases e5 : lt b.1 a.1 = true
      · simp [e1, e5] at h1
      · by_cases e2 : lt b.1 c.1 = true
        · by_cases e4 : lt a.1 c.1 = true
          · simp [e4]
          · have := S.ntrans _ _ _ (by simpa using e5) (by simpa using e4)
            rw [this] at e2; cases e2
        · by_cases e3 : lt c.1 b.1 = true
          · simp [e2, e3] at h2
          · have k1 := S.ntrans _ _ _ (by simpa using e1) (by simpa using e2)
            have k2 := S.ntrans _ _ _ (by simpa using e3) (by simpa using e5)
            simp [e1, e5] at h1
            simp [e2, e3] at h2
            simp [k1, k2]; omega
  · unfold ahead at h1 h2 ⊢
    by_cases e1 : lt a.1 b.1 = true
    · simp [e1] at h1
    · by_cases e2 : lt b.1 c.1 = true
      · simp [e2] at h2
      · have k1 := S.ntrans _ _ _ (by simpa using e1) (by simpa using e2)
        by_cases e3 : lt b.1 a.1 = true
        · by_cases e4 : lt c.1 a.1 = true
          · simp [k1, e4]
          · have := S.ntrans _ _ _ (by simpa using e2) (by simpa using e4)
            rw [this] at e3; cases e3
        · by_cases e5 : lt c.1 b.1 = true
          · by_cases e4 : lt c.1 a.1 = true
            · simp [k1, e4]
            · have := S.ntrans _ _ _ (by simpa using e4) (by simpa using e1)
              rw [this] at e5; cases e5
          · simp [e1, e3] at h1
            simp [e2, e5] at h2
            have k2 := S.ntrans _ _ _ (by simpa using e5) (by simpa using e3)
            simp [k1, k2]; omega

theorem ahead_tot {lt : α → α → Bool} {a b : α × Int} (h : a.2 ≠ b.2) (hn : ahead lt a b = false) : ahead lt b a = true := by
  unfold ahead at hn ⊢
  by_cases e : lt a.1 b.1 = true
  · simp [e] at hn
  · by_cases e2 : lt b.1 a.1 = true
    · simp [e2]
    · simp [e, e2] at hn ⊢; omega

theorem pairwise_all {β : Type} {R : β → β → Prop} (hsym : ∀ {x y}, R x y → R y x) (hrefl : ∀ x, R x x) : ∀ {l : List β}, l.Pairwise R → ∀ {a b}, a ∈ l → b ∈ l → R a b := by
  intro l
  induction l with
  | nil => intro _ a b h; simp at h
  | cons x l ih =>
    intro hp a b ha hb
    rw [List.pairwise_cons] at hp
    rcases List.mem_cons.1 ha with e | ha2
    · rcases List.mem_cons.1 hb with e2 | hb2
      · rw [e, e2]; exact hrefl _
      · rw [e]; exact hp.1 b hb2
    · rcases List.mem_cons.1 hb with e2 | hb2
      · rw [e2]; exact hsym (hp.1 a ha2)
      · exact ih hp.2 ha2 hb2

/-- What a selector of m keeps of what was offered. -/
structure Kept (lt : α → α → Bool) (m : Nat) (xs kept : List (α × Int)) : Prop where
  len : kept.length = min m xs.length
  split : ∃ rest, (kept ++ rest).Perm xs ∧ ∀ a ∈ kept, ∀ b ∈ rest, ahead lt a b = true

theorem Kept.start (lt : α → α → Bool) (m : Nat) : Kept lt m [] [] := ⟨by simp, [], by simp, by simp⟩

theorem Kept.perm {lt : α → α → Bool} {m : Nat} {xs kept kept' : List (α × Int)} (h : Kept lt m xs kept) (hp : kept'.Perm kept) : Kept lt m xs kept' := by
  obtain ⟨hl, rest, hr, ha⟩ := h
  exact ⟨by rw [hp.length_eq, hl], rest, (hp.append_right rest).trans hr, fun a hm => ha a (hp.mem_iff.1 hm)⟩

theorem Kept.room {lt : α → α → Bool} {m : Nat} {xs kept : List (α × Int)} (h : Kept lt m xs kept) (e : α × Int) (hroom : kept.length < m) : Kept lt m (xs ++ [e]) (kept ++ [e]) := by
  obtain ⟨hl, rest, hr, ha⟩ := h
  have hlen := hr.length_eq
  simp at hlen
  have h0 : rest = [] := List.eq_nil_of_length_eq_zero (by omega)
  subst h0
  refine ⟨by simp; omega, [], ?_, by simp⟩
  simp at hr ⊢
  exact hr.append_right [e]

theorem Kept.not {lt : α → α → Bool} (S : SWO lt) {m : Nat} {xs kept : List (α × Int)} (h : Kept lt m xs kept) (e : α × Int) (hfull : m ≤ kept.length)
    (hat : ∀ a ∈ xs, a.2 ≠ e.2) (hlast : ∀ a ∈ kept, ∃ last ∈ kept, ahead lt last a = false ∧ ahead lt e last = false) : Kept lt m (xs ++ [e]) kept := by
  obtain ⟨hl, rest, hr, ha⟩ := h
  refine ⟨by simp; omega, rest ++ [e], ?_, ?_⟩
  · rw [← List.append_assoc]; exact hr.append_right [e]
  · intro a hk b hb
    simp at hb
    rcases hb with hb | rfl
    · exact ha a hk b hb
    · obtain ⟨last, hm, h1, h2⟩ := hlast a hk
      have hx : a ∈ xs := hr.mem_iff.1 (List.mem_append_left _ hk)
      exact ahead_tot (hat a hx).symm ((ahead_swo S).ntrans _ _ _ h2 h1)

theorem Kept.swap {lt : α → α → Bool} (S : SWO lt) {m : Nat} {xs kept kept' : List (α × Int)} {last : α × Int} (h : Kept lt m xs kept) (e : α × Int) (hfull : m ≤ kept.length)
    (hat : ∀ a ∈ xs, a.2 ≠ e.2) (hnd : (xs.map (·.2)).Nodup) (hp : (last :: kept').Perm kept) (hlast : ∀ a ∈ kept, ahead lt last a = false) (he : ahead lt e last = true) : Kept lt m (xs ++ [e]) (kept' ++ [e]) := by
  obtain ⟨hl, rest, hr, ha⟩ := h
  have S2 := ahead_swo S
  have hlen := hp.length_eq
  simp at hlen
  have hpx : ((last :: kept') ++ rest).Perm xs := (hp.append_right rest).trans hr
  have hnd2 : (((last :: kept') ++ rest).map (·.2)).Nodup := (hpx.map (·.2)).nodup_iff.2 hnd
  refine ⟨by simp; omega, last :: rest, ?_, ?_⟩
  · have h1 : (kept' ++ [e] ++ last :: rest).Perm (last :: (kept' ++ [e] ++ rest)) := List.perm_middle
    have h2 : (kept' ++ [e] ++ rest).Perm (kept' ++ rest ++ [e]) := by
      rw [List.append_assoc, List.append_assoc]
      exact List.Perm.append_left kept' List.perm_append_comm
    have h3 : (last :: (kept' ++ rest ++ [e])).Perm (xs ++ [e]) := by
      have := hpx.append_right [e]
      simpa using this
    exact h1.trans ((h2.cons last).trans h3)
  · intro a hk b hb
    have hlk : last ∈ kept := hp.mem_iff.1 (List.mem_cons_self ..)
    have key : ahead lt a last = true := by
      simp at hk
      rcases hk with hk | rfl
      · have hak : a ∈ kept := hp.mem_iff.1 (List.mem_cons_of_mem _ hk)
        have hne : a.2 ≠ last.2 := by
          intro e
          simp only [List.cons_append, List.map_cons, List.nodup_cons, List.map_append] at hnd2
          exact hnd2.1 (List.mem_append_left _ (List.mem_map.2 ⟨a, hk, e⟩))
        exact ahead_tot hne.symm (hlast a hak)
      · exact he
    simp at hb
    rcases hb with rfl | hb
    · exact key
    · exact S2.trans _ _ _ key (ha last hlk b hb)

/-- Of things that the order alone tells apart: what is kept, in order, is the beginning of all in order. -/
theorem Kept.sorted {lt : α → α → Bool} (S : SWO lt) {m : Nat} {xs kept out : List (α × Int)} (h : Kept lt m xs kept) (hp : out.Perm kept)
    (hs : out.Pairwise (fun a b => ahead lt b a = false)) (hd : xs.Pairwise (fun a b => lt a.1 b.1 = true ∨ lt b.1 a.1 = true)) :
    out.map (·.1) = ((xs.map (·.1)).mergeSort (fun a b => !lt b a)).take m := by
  obtain ⟨hl, rest, hr, ha⟩ := (h.perm hp)
  have hpx : (out ++ rest).Perm xs := hr
  have hdd : (out ++ rest).Pairwise (fun a b => lt a.1 b.1 = true ∨ lt b.1 a.1 = true) := (hpx.pairwise_iff (fun h => h.symm)).2 hd
  have down : ∀ a b : α × Int, (lt a.1 b.1 = true ∨ lt b.1 a.1 = true) → ahead lt b a = false → lt b.1 a.1 = false := by
    intro a b hab hn
    unfold ahead at hn
    by_cases e : lt b.1 a.1 = true
    · simp [e] at hn
    · simpa using e
  have tr : ∀ a b c : α, (!lt b a) = true → (!lt c b) = true → (!lt c a) = true := by
    intro a b c h1 h2
    simp at h1 h2 ⊢
    exact S.ntrans _ _ _ h2 h1
  have tot : ∀ a b : α, ((!lt b a) || (!lt a b)) = true := by
    intro a b
    by_cases e : lt b a = true
    · simp [e, S.asymm _ _ e]
    · simp [e]
  have key : (out.map (·.1)) ++ (rest.map (·.1)).mergeSort (fun a b => !lt b a) = (xs.map (·.1)).mergeSort (fun a b => !lt b a) := by
    have hq : ((out.map (·.1)) ++ (rest.map (·.1)).mergeSort (fun a b => !lt b a)).Perm ((xs.map (·.1)).mergeSort (fun a b => !lt b a)) := by
      refine ((List.mergeSort_perm _ _).append_left _).trans (List.Perm.trans ?_ (List.mergeSort_perm _ _).symm)
      rw [← List.map_append]
      exact hpx.map _
    refine List.Perm.eq_of_pairwise (le := fun a b => (!lt b a) = true) ?_ ?_ (List.pairwise_mergeSort tr tot _) hq
    · intro a b h1 h2 k1 k2
      have m1 : a ∈ (out ++ rest).map (·.1) := by
        rw [List.map_append]
        rcases List.mem_append.1 h1 with h | h
        · exact List.mem_append_left _ h
        · exact List.mem_append_right _ ((List.mergeSort_perm _ _).mem_iff.1 h)
      have m2 : b ∈ (out ++ rest).map (·.1) := (hpx.map _).mem_iff.2 ((List.mergeSort_perm _ _).mem_iff.1 h2)
      obtain ⟨a', ma, rfl⟩ := List.mem_map.1 m1
      obtain ⟨b', mb, rfl⟩ := List.mem_map.1 m2
      by_cases e : a' = b'
      · rw [e]
      · have hsym : ∀ {x y : α × Int}, (lt x.1 y.1 = true ∨ lt y.1 x.1 = true) → (lt y.1 x.1 = true ∨ lt x.1 y.1 = true) := fun h => h.symm
        have := pairwise_all (R := fun a b => a = b ∨ lt a.1 b.1 = true ∨ lt b.1 a.1 = true) (fun {x y} h => h.elim (fun h => .inl h.symm) (fun h => .inr h.symm)) (fun x => .inl rfl) (hdd.imp (fun h => Or.inr h)) ma mb
        rcases this with h | h | h
        · exact absurd h e
        · simp [h] at k2
        · simp [h] at k1
    · rw [List.pairwise_append]
      refine ⟨?_, List.pairwise_mergeSort tr tot _, ?_⟩
      · have hd1 := (List.pairwise_append.1 hdd).1
        rw [List.pairwise_map]
        have := List.Pairwise.and hs hd1
        exact this.imp (fun {a b} h => by simp [down a b h.2 h.1])
      · intro a h1 b h2
        obtain ⟨a', ma, rfl⟩ := List.mem_map.1 h1
        obtain ⟨b', mb, rfl⟩ := List.mem_map.1 ((List.mergeSort_perm _ _).mem_iff.1 h2)
        have h3 := ha a' ma b' mb
        have h4 := (List.pairwise_append.1 hdd).2.2 a' ma b' mb
        simp [down a' b' h4 ((ahead_swo S).asymm _ _ h3)]
  rw [← key]
  have hlen := hpx.length_eq
  simp at hlen hl
  have h5 : (out.map (·.1)).length = min m xs.length := by simpa using hl
  by_cases hm : m ≤ xs.length
  · have h6 : (out.map (·.1)).length = m := by omega
    rw [List.take_append_of_le_length (by omega), List.take_of_length_le (by omega)]
  · have h7 : rest = [] := List.eq_nil_of_length_eq_zero (by omega)
    subst h7
    have h8 : (([] : List (α × Int)).map (·.1)).mergeSort (fun a b => !lt b a) = [] := by simp
    rw [h8, List.append_nil, List.take_of_length_le (by omega)]
end topk

end Go.Sb
