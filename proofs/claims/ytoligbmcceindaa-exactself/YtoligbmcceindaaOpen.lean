/- Input read: slices of whole numbers, slices of these. No program in sight. -/
import Derived.Test.YtoligbmcceindaaBase
import Derived.ChangeSlices
import Derived.SizedLaws
set_option linter.unusedVariables false
set_option linter.unusedSimpArgs false
namespace Go.Sb
open Go Go.RowKit Go.ChangeShapes
variable {H : Type} {enc : TypeId × Value → H} {P : Program} {w : World} {spare : Nat → Bool} {held : Bool}

theorem weightsAll_mem {e : TypeId} : ∀ {l : List (DataW H)} {d : DataW H}, d ∈ l → ∀ n ∈ d.weights P e, n ∈ DataW.weightsAll P e l
  | x :: l, d, hd, n, hn => by
    simp only [DataW.weightsAll, List.mem_append]
    rcases List.mem_cons.1 hd with rfl | hd
    · exact .inl hn
    · exact .inr (weightsAll_mem hd n hn)

theorem flat_ints {k : IntKind} (w : World) : ∀ {xs : List Int}, (∀ x ∈ xs, (Lit.int k x).wf = true) → Flat (tInt k) w xs (xs.map (Value.int k))
  | [], _ => rfl
  | x :: xs, h => ⟨[.int k x], xs.map (Value.int k), rfl, ⟨rfl, h x (List.mem_cons_self ..)⟩, flat_ints w (fun y hy => h y (List.mem_cons_of_mem _ hy))⟩

theorem spot_none {w : World} {a : Addr} {v : Value} (h : w.cell? a = some v) : a = ⟨a.block, a.off, none⟩ := by
  unfold World.cell? at h
  split at h
  · split at h
    · cases h
    · rename_i hs
      cases a with
      | mk b o s => simp at hs; subst hs; rfl
  · cases h

theorem opens_ints {t e : TypeId} {k : IntKind} {fuel : Nat} {cs : List Value} {x : DataW H × List MemPlace} (ht : P.underlying t = some (.slice e)) (he : P.underlying e = some (.int k)) (hc : P.cellsOf e = 1) (hb : 0 < P.bytesOf e)
    (h : DataW.trod enc P w 0 (fun _ => true) held fuel t cs = some x) (hw : ∀ n ∈ x.1.weights P t, n ≤ reachBytes) : ∃ v xs, cs = [v] ∧ Lies (tInt k) w v xs := by
  rcases open_ints ht he hc h with ⟨rfl, _⟩ | ⟨a, len, cap, zs, rfl, _, hl, hm, hz, rfl, hcell, hwf⟩
  · exact ⟨_, [], rfl, Lies.nil _ _⟩
  · simp only [if_true] at hz
    have hbd : zs.length ≤ 140737488355328 := by
      have h2 := hw (((lits (H := H) k (zs.take len)).length + (lits (H := H) k (zs.drop len)).length) * P.bytesOf e) (by simp [DataW.weights, ht])
      have h3 : (lits (H := H) k (zs.take len)).length + (lits (H := H) k (zs.drop len)).length = zs.length := by simp [lits]; omega
      rw [h3] at h2
      have h4 := reachBytes_lt
      have h5 := Nat.le_mul_of_pos_right zs.length hb
      have : (2 : Nat) ^ 47 = 140737488355328 := by decide
      omega
    refine ⟨_, zs.take len, rfl, ?_⟩
    have hlt : (zs.take len).length = len := by simp; omega
    refine ⟨some a, cap, (zs.take len).map (Value.int k), by rw [hlt], by omega, ⟨hm, by omega⟩, flat_ints w (fun x hx => hwf x (List.mem_of_mem_take hx)), fun j u hu => ?_⟩
    have hj : j < len := by
      have := (List.getElem?_eq_some_iff.1 hu).1
      rw [List.length_map, hlt] at this
      exact this
    have hc0 := hcell 0 (by omega)
    obtain ⟨b, o, rfl⟩ : ∃ b o, a = ⟨b, o, none⟩ := ⟨_, _, spot_none (by simpa [Addr.add] using hc0)⟩
    refine ⟨b, o, rfl, ?_⟩
    have hcj := hcell j (by omega)
    have hadd : (⟨b, o, none⟩ : Addr).add j = ⟨b, o + j, none⟩ := by
      unfold Addr.add; split <;> simp_all
    rw [hadd] at hcj
    rw [hcj]
    rw [List.getElem?_map, List.getElem?_take, if_pos hj] at hu
    rw [← hu]
    have : j < zs.length := by omega
    simp [this]

/-- Slices of slices of whole numbers. -/
theorem opens_rows {t t2 e : TypeId} {k : IntKind} {v : Value} {d : DataW H} {p : List MemPlace} (ht : P.underlying t = some (.slice t2)) (ht2 : P.underlying t2 = some (.slice e)) (he : P.underlying e = some (.int k)) (hc2 : P.cellsOf t2 = 1) (hc : P.cellsOf e = 1) (hb2 : 0 < P.bytesOf t2) (hb : 0 < P.bytesOf e)
    {fuel : Nat} {cs : List Value} {x : DataW H × List MemPlace} (h : DataW.trod enc P w 0 (fun _ => true) held fuel t cs = some x) (hw : ∀ n ∈ x.1.weights P t, n ≤ reachBytes) : ∃ v l, cs = [v] ∧ Lies (tSl (tInt k)) w v l := by
  rcases DataW.trod_slice ht h with ⟨rfl, _⟩ | ⟨a, len, cap, elems, rest, m, _, rfl, rfl, _, hl, hm, hlen, hel, hsp, hns⟩
  · exact ⟨_, [], rfl, Lies.nil _ _⟩
  · have hbd : len ≤ 140737488355328 := by
      have h2 := hw (((elems.map (·.1)).length + (rest.map (·.1)).length) * P.bytesOf t2) (by simp [DataW.weights, ht])
      have h4 := reachBytes_lt
      have h5 := Nat.le_mul_of_pos_right ((elems.map (·.1)).length + (rest.map (·.1)).length) hb2
      have : (2 : Nat) ^ 47 = 140737488355328 := by decide
      rw [List.length_map] at h5 h2
      omega
    have hw2 : ∀ y ∈ elems, ∀ n ∈ y.1.weights P t2, n ≤ reachBytes := fun y hy n hn => hw n (by
      simp only [DataW.weights, ht, List.mem_cons, List.mem_append]
      exact .inr (.inl (weightsAll_mem (List.mem_map.2 ⟨y, hy, rfl⟩) n hn)))
    have each : ∀ i, i < len → ∃ u xs, w.cell? (a.add i) = some u ∧ Lies (tInt k) w u xs := by
      intro i hi
      have h1 := hel i hi
      have hi' : i < elems.length := by omega
      rw [List.getElem?_eq_getElem hi', hc2, Nat.mul_one] at h1
      obtain ⟨cs', hcs, hx⟩ := Option.bind_eq_some_iff.1 h1
      obtain ⟨u, xs, rfl, hlies⟩ := opens_ints ht2 he hc hb hx (hw2 _ (List.getElem_mem hi'))
      refine ⟨u, xs, ?_, hlies⟩
      have := (World.cells?_some hcs).2.2 0 (by omega)
      simpa [Addr.add] using this
    obtain ⟨F, hF⟩ : ∃ F : Nat → Value × List Int, ∀ i, i < len → w.cell? (a.add i) = some (F i).1 ∧ Lies (tInt k) w (F i).1 (F i).2 := by
      classical
      refine ⟨fun i => if h : i < len then (Classical.choose (each i h), Classical.choose (Classical.choose_spec (each i h))) else (.nilFunc, []), fun i hi => ?_⟩
      simp only [dif_pos hi]
      exact Classical.choose_spec (Classical.choose_spec (each i hi))
    have hfl : ∀ is : List Nat, (∀ i ∈ is, i < len) → Flat (tSl (tInt k)) w (is.map (fun i => (F i).2)) (is.map (fun i => (F i).1)) := by
      intro is his
      induction is with
      | nil => rfl
      | cons i is ih => exact ⟨[(F i).1], _, rfl, ⟨_, rfl, (hF i (his i (List.mem_cons_self ..))).2⟩, ih (fun j hj => his j (List.mem_cons_of_mem _ hj))⟩
    refine ⟨_, (List.range len).map (fun i => (F i).2), rfl, some a, cap, (List.range len).map (fun i => (F i).1), by simp, by simpa using hl, ⟨hm, by simp; omega⟩, hfl _ (fun i hi => List.mem_range.1 hi), fun j u hu => ?_⟩
    rw [List.getElem?_map] at hu
    obtain ⟨j', hj', rfl⟩ := Option.map_eq_some_iff.1 hu
    have hjl : j < len := by
      have := (List.getElem?_eq_some_iff.1 hj').1
      simpa using this
    have e1 : j' = j := by
      rw [List.getElem?_range hjl] at hj'
      exact (Option.some.inj hj').symm
    subst e1
    have hc0 := (hF 0 (by omega)).1
    obtain ⟨b, o, rfl⟩ : ∃ b o, a = ⟨b, o, none⟩ := ⟨_, _, spot_none (by simpa [Addr.add] using hc0)⟩
    refine ⟨b, o, rfl, ?_⟩
    have hcj := (hF j' hjl).1
    have hadd : (⟨b, o, none⟩ : Addr).add j' = ⟨b, o + j', none⟩ := by
      unfold Addr.add; split <;> simp_all
    rw [hadd] at hcj
    exact hcj
end Go.Sb
