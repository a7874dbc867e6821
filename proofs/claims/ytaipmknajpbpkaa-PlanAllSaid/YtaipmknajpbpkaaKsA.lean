/- Components by two ways through a graph (first along it, then against it): plain laws. -/
import Derived.Test.YtaipmknajpbpkaaWyA
set_option linter.unusedSimpArgs false
set_option linter.unusedVariables false
namespace Go.Par

section
variable {E : Nat → Nat → Prop} {S : Nat → Prop}

/-- What an order of leaving tells. -/
structure OrdAt (E : Nat → Nat → Prop) (S : Nat → Prop) (O : List Nat) (i b : Nat) (v : Nat) : Prop where
  le : b ≤ i
  to : ∀ j x, b ≤ j → j < i → O[j]? = some x → Way E S v x
  cl : ∀ j x y, j < b → O[j]? = some x → S y → E x y → y ∈ O.take b ∨ y ∉ O.take (i + 1)
def Ord (E : Nat → Nat → Prop) (S : Nat → Prop) (O : List Nat) : Prop := O.Nodup ∧ (∀ x ∈ O, S x) ∧ ∀ i v, O[i]? = some v → ∃ b, OrdAt E S O i b v

/-- While one goes along: 'O' is left, 'K' is gone through (what was left when it was met, and how far its ways are seen). -/
structure Dfs (E : Nat → Nat → Prop) (S : Nat → Prop) (nx : Nat → Nat → Option Nat) (O : List Nat) (K : List (Nat × Nat)) (B : Nat → Nat) : Prop where
  ord : Ord E S O
  nd : (O ++ K.map Prod.fst).Nodup
  ins : ∀ p ∈ K, S p.1
  ble : ∀ k, k < K.length → B k ≤ O.length
  to : ∀ (k : Nat) (p : Nat × Nat) (j x : Nat), K[k]? = some p → B k ≤ j → O[j]? = some x → Way E S p.1 x
  cl : ∀ k j x y, k < K.length → j < B k → O[j]? = some x → S y → E x y → y ∈ O.take (B k) ∨ y ∈ (K.map Prod.fst).take k
  ch : ∀ (k k' : Nat) (p p' : Nat × Nat), k < k' → K[k]? = some p → K[k']? = some p' → Way E S p.1 p'.1
  bl : ∀ x y, x ∈ O → S y → E x y → y ∈ O ∨ y ∈ K.map Prod.fst
  at_ : ∀ p ∈ K, ∀ i y, i < p.2 → nx p.1 i = some y → S y → y ∈ O ∨ y ∈ K.map Prod.fst

variable {nx : Nat → Nat → Option Nat} {O : List Nat} {K : List (Nat × Nat)} {B : Nat → Nat}

theorem Dfs.init : Dfs E S nx [] [] B := by
  refine ⟨⟨List.nodup_nil, fun x h => by simp at h, fun i v h => by simp at h⟩, by simp, fun p h => by simp at h, fun k h => by simp at h, fun k p j x h => by simp at h, fun k j x y h => by simp at h, fun k k' p p' _ h => by simp at h, fun x y h => by simp at h, fun p h => by simp at h⟩

/-- A vertex is met: from the last one, or anew. -/
theorem Dfs.push (D : Dfs E S nx O K B) {v : Nat} (hv : S v) (hn : v ∉ O ∧ v ∉ K.map Prod.fst) (hc : ∀ p, K.getLast? = some p → E p.1 v) : Dfs E S nx O (K ++ [(v, 0)]) (fun k => if k < K.length then B k else O.length) := by
  have km : (K ++ [(v, 0)]).map Prod.fst = K.map Prod.fst ++ [v] := by simp
  refine ⟨D.ord, ?_, fun p hp => ?_, fun k hk => ?_, fun k p j x hk hb hj => ?_, fun k j x y hk hj hx hy e => ?_, fun k k' p p' hkk hk hk' => ?_, fun x y hx hy e => ?_, fun p hp i y hi hy hs => ?_⟩
  · rw [km, ← List.append_assoc, List.nodup_append]
    refine ⟨D.nd, by simp, fun a ha b hb => ?_⟩
    simp at hb; subst hb
    rintro rfl
    rcases List.mem_append.1 ha with h | h
    · exact hn.1 h
    · exact hn.2 h
  · rcases List.mem_append.1 hp with h | h
    · exact D.ins p h
    · simp at h; subst h; exact hv
  · split
    · exact D.ble k (by assumption)
    · exact Nat.le_refl _
  · by_cases q : k < K.length
    · rw [List.getElem?_append_left q] at hk
      rw [if_pos q] at hb
      exact D.to k p j x hk hb hj
    · rw [if_neg q] at hb
      have := (List.getElem?_eq_some_iff.1 hj).1
      omega
  · rw [km]
    by_cases q : k < K.length
    · rw [if_pos q] at hj ⊢
      rcases D.cl k j x y q hj hx hy e with z | z
      · exact .inl z
      · refine .inr ?_
        rw [List.take_append_of_le_length (by simp; omega)]; exact z
    · rw [if_neg q] at hj ⊢
      have ke : k = K.length := by simp at hk; omega
      subst ke
      rcases D.bl x y (List.mem_of_getElem? hx) hy e with z | z
      · left; rw [List.take_of_length_le (Nat.le_refl _)]; exact z
      · right
        rw [List.take_append_of_le_length (by simp), List.take_of_length_le (by simp)]
        exact z
  · have hk1 : k < K.length := by
      have := (List.getElem?_eq_some_iff.1 hk').1
      simp at this; omega
    rw [List.getElem?_append_left hk1] at hk
    by_cases q : k' < K.length
    · rw [List.getElem?_append_left q] at hk'
      exact D.ch k k' p p' hkk hk hk'
    · have ke : k' = K.length := by
        have := (List.getElem?_eq_some_iff.1 hk').1
        simp at this; omega
      subst ke
      simp at hk'
      subst hk'
      have hne : K ≠ [] := fun e => by rw [e] at hk1; simp at hk1
      have hl : K.getLast? = some (K.getLast hne) := List.getLast?_eq_some_getLast hne
      have el := hc _ hl
      have hli : K[K.length - 1]? = some (K.getLast hne) := by rw [← List.getLast?_eq_getElem?, hl]
      by_cases z : k = K.length - 1
      · subst z
        rw [hli] at hk; cases hk
        exact .one (D.ins _ (List.getLast_mem hne)) hv el
      · exact (D.ch k (K.length - 1) p _ (by omega) hk hli).snoc el hv
  · rw [km]
    rcases D.bl x y hx hy e with z | z
    · exact .inl z
    · exact .inr (List.mem_append_left _ z)
  · rw [km]
    rcases List.mem_append.1 hp with h | h
    · rcases D.at_ p h i y hi hy hs with z | z
      · exact .inl z
      · exact .inr (List.mem_append_left _ z)
    · simp at h; subst h; simp at hi

/-- One more way of the last one is seen. -/
theorem Dfs.see {v a : Nat} (D : Dfs E S nx O (K ++ [(v, a)]) B) (h : ∀ y, nx v a = some y → S y → y ∈ O ∨ y ∈ (K ++ [(v, a)]).map Prod.fst) : Dfs E S nx O (K ++ [(v, a + 1)]) B := by
  have km : (K ++ [(v, a + 1)]).map Prod.fst = (K ++ [(v, a)]).map Prod.fst := by simp
  have kl : (K ++ [(v, a + 1)]).length = (K ++ [(v, a)]).length := by simp
  have ge : ∀ (k : Nat) (p : Nat × Nat), (K ++ [(v, a + 1)])[k]? = some p → ∃ p', (K ++ [(v, a)])[k]? = some p' ∧ p'.1 = p.1 := by
    intro k p hk
    by_cases q : k < K.length
    · rw [List.getElem?_append_left q] at hk ⊢
      exact ⟨p, hk, rfl⟩
    · have ke : k = K.length := by
        have := (List.getElem?_eq_some_iff.1 hk).1
        simp at this; omega
      subst ke
      simp at hk ⊢; subst hk; rfl
  refine ⟨D.ord, by rw [km]; exact D.nd, fun p hp => ?_, fun k hk => D.ble k (by rw [← kl]; exact hk), fun k p j x hk hb hj => ?_, fun k j x y hk hj hx hy e => ?_, fun k k' p p' hkk hk hk' => ?_, by rw [km]; exact D.bl, fun p hp i y hi hy hs => ?_⟩
  · rcases List.mem_append.1 hp with q | q
    · exact D.ins p (List.mem_append_left _ q)
    · simp at q; subst q; exact D.ins (v, a) (by simp)
  · obtain ⟨p', h1, h2⟩ := ge k p hk
    rw [← h2]; exact D.to k p' j x h1 hb hj
  · rw [km]; exact D.cl k j x y (by rw [← kl]; exact hk) hj hx hy e
  · obtain ⟨q, h1, h2⟩ := ge k p hk
    obtain ⟨q', h3, h4⟩ := ge k' p' hk'
    rw [← h2, ← h4]; exact D.ch k k' q q' hkk h1 h3
  · rw [km]
    rcases List.mem_append.1 hp with q | q
    · exact D.at_ p (List.mem_append_left _ q) i y hi hy hs
    · simp at q; subst q
      by_cases z : i = a
      · subst z; exact h y hy hs
      · exact D.at_ (v, a) (by simp) i y (by simp at hi; simp; omega) hy hs

/-- The last one is left. -/
theorem Dfs.leave {v a : Nat} (D : Dfs E S nx O (K ++ [(v, a)]) B) (h : ∀ y, S y → E v y → ∃ i, i < a ∧ nx v i = some y) : Dfs E S nx (O ++ [v]) K B := by
  have km : (K ++ [(v, a)]).map Prod.fst = K.map Prod.fst ++ [v] := by simp
  have nd := D.nd
  rw [km, ← List.append_assoc] at nd
  have hvn : v ∉ O ++ K.map Prod.fst := fun q => (List.nodup_append.1 nd).2.2 v q v (by simp) rfl
  have kt : (K ++ [(v, a)])[K.length]? = some (v, a) := by simp
  have bv := D.ble K.length (by simp)
  have nd2 : (O ++ [v] ++ K.map Prod.fst).Nodup := by
    have p : (O ++ [v] ++ K.map Prod.fst).Perm (O ++ K.map Prod.fst ++ [v]) := by
      rw [List.append_assoc, List.append_assoc]
      exact List.Perm.append_left _ List.perm_append_comm
    exact p.nodup_iff.2 nd
  have hv : S v := D.ins (v, a) (by simp)
  have tk : ∀ b, b ≤ O.length → (O ++ [v]).take b = O.take b := fun b hb => List.take_append_of_le_length hb
  refine ⟨⟨(List.nodup_append.1 nd2).1, fun x hx => ?_, fun i w hi => ?_⟩, nd2, fun p hp => D.ins p (List.mem_append_left _ hp), fun k hk => ?_, fun k p j x hk hb hj => ?_, fun k j x y hk hj hx hy e => ?_, fun k k' p p' hkk hk hk' => ?_, fun x y hx hy e => ?_, fun p hp i y hi hy hs => ?_⟩
  · rcases List.mem_append.1 hx with q | q
    · exact D.ord.2.1 x q
    · simp at q; subst q; exact hv
  · by_cases q : i < O.length
    · rw [List.getElem?_append_left q] at hi
      obtain ⟨b, o⟩ := D.ord.2.2 i w hi
      refine ⟨b, o.le, fun j x h1 h2 h3 => ?_, fun j x y h1 h2 h3 h4 => ?_⟩
      · rw [List.getElem?_append_left (by omega)] at h3
        exact o.to j x h1 h2 h3
      · have := o.le
        rw [List.getElem?_append_left (by omega)] at h2
        rw [tk _ (by omega), tk _ (by omega)]
        exact o.cl j x y h1 h2 h3 h4
    · have ie : i = O.length := by
        have := (List.getElem?_eq_some_iff.1 hi).1
        simp at this; omega
      subst ie
      simp at hi; subst hi
      refine ⟨B K.length, bv, fun j x h1 h2 h3 => ?_, fun j x y h1 h2 h3 h4 => ?_⟩
      · rw [List.getElem?_append_left h2] at h3
        exact D.to K.length (v, a) j x kt h1 h3
      · rw [List.getElem?_append_left (by omega)] at h2
        rw [tk _ bv]
        rcases D.cl K.length j x y (by simp) h1 h2 h3 h4 with z | z
        · exact .inl z
        · right
          rw [km, List.take_append_of_le_length (by simp), List.take_of_length_le (by simp)] at z
          intro q
          exact (List.nodup_append.1 nd2).2.2 y (List.mem_of_mem_take q) y z rfl
  · have := D.ble k (by simp; omega)
    simp; omega
  · have hk' : (K ++ [(v, a)])[k]? = some p := by
      rw [List.getElem?_append_left (List.getElem?_eq_some_iff.1 hk).1]; exact hk
    by_cases q : j < O.length
    · rw [List.getElem?_append_left q] at hj
      exact D.to k p j x hk' hb hj
    · have je : j = O.length := by
        have := (List.getElem?_eq_some_iff.1 hj).1
        simp at this; omega
      subst je
      simp at hj; subst hj
      exact D.ch k K.length p (v, a) (List.getElem?_eq_some_iff.1 hk).1 hk' kt
  · have bk := D.ble k (by simp; omega)
    rw [List.getElem?_append_left (by omega)] at hx
    rw [tk _ bk]
    rcases D.cl k j x y (by simp; omega) hj hx hy e with z | z
    · exact .inl z
    · right
      rw [km, List.take_append_of_le_length (by simp; omega)] at z
      exact z
  · refine D.ch k k' p p' hkk ?_ ?_
    · rw [List.getElem?_append_left (List.getElem?_eq_some_iff.1 hk).1]; exact hk
    · rw [List.getElem?_append_left (List.getElem?_eq_some_iff.1 hk').1]; exact hk'
  · have key : ∀ y, (y ∈ O ∨ y ∈ (K ++ [(v, a)]).map Prod.fst) → y ∈ O ++ [v] ∨ y ∈ K.map Prod.fst := by
      intro y q
      rcases q with q | q
      · exact .inl (List.mem_append_left _ q)
      · rw [km] at q
        rcases List.mem_append.1 q with q | q
        · exact .inr q
        · exact .inl (List.mem_append_right _ q)
    rcases List.mem_append.1 hx with q | q
    · exact key y (D.bl x y q hy e)
    · simp at q; subst q
      obtain ⟨i, h1, h2⟩ := h y hy e
      exact key y (D.at_ (x, a) (by simp) i y h1 h2 hy)
  · have key : ∀ y, (y ∈ O ∨ y ∈ (K ++ [(v, a)]).map Prod.fst) → y ∈ O ++ [v] ∨ y ∈ K.map Prod.fst := by
      intro y q
      rcases q with q | q
      · exact .inl (List.mem_append_left _ q)
      · rw [km] at q
        rcases List.mem_append.1 q with q | q
        · exact .inr q
        · exact .inl (List.mem_append_right _ q)
    exact key y (D.at_ p (List.mem_append_left _ hp) i y hi hy hs)

/-- Who comes to a vertex without meeting one that was left later, is come to from it. -/
theorem Ord.back (h : Ord E S O) {i v w : Nat} (hi : O[i]? = some v) {U : Nat → Prop} (hU : ∀ x, U x → x ∈ O.take (i + 1)) (hS : ∀ x, U x → S x) (hw : Way E U w v) : w = v ∨ Way E S v w := by
  obtain ⟨nd, _, oa⟩ := h
  obtain ⟨b, o⟩ := oa i v hi
  have hil := (List.getElem?_eq_some_iff.1 hi).1
  have wi := hU w hw.fst
  obtain ⟨j, hj⟩ := List.mem_iff_getElem?.1 wi
  have hji : j < i + 1 := by
    have := (List.getElem?_eq_some_iff.1 hj).1
    simp at this; omega
  rw [List.getElem?_take_of_lt hji] at hj
  by_cases e : j = i
  · subst e; rw [hi] at hj; cases hj; exact .inl rfl
  have hjlt : j < i := by omega
  by_cases q : b ≤ j
  · exact .inr (o.to j w q hjlt hj)
  exfalso
  have ol := o.le
  have inb : ∀ x, x ∈ O.take b → ∃ j, j < b ∧ O[j]? = some x := fun x hx => by
    obtain ⟨j, hj⟩ := List.mem_iff_getElem?.1 hx
    have hjb : j < b := by
      have := (List.getElem?_eq_some_iff.1 hj).1
      simp at this; omega
    rw [List.getElem?_take_of_lt hjb] at hj
    exact ⟨j, hjb, hj⟩
  have closed := hw.closed (T := fun x => x ∈ O.take b) (fun x y hx hy hb e => by
    obtain ⟨j, h1, h2⟩ := inb x hb
    rcases o.cl j x y h1 h2 (hS y hy) e with z | z
    · exact z
    · exact absurd (hU y hy) z)
  have vb := closed (List.mem_iff_getElem?.2 ⟨j, by rw [List.getElem?_take_of_lt (by omega)]; exact hj⟩)
  obtain ⟨k, h1, h2⟩ := inb v vb
  have ek := (List.getElem?_inj (by omega) nd).1 (h2.trans hi.symm)
  omega
end
end Go.Par
