/- A map of states that were seen, and a way that comes round: plain laws. -/
import Derived.Test.YtaipmknajpbpkaaWyA
import Derived.Test.YtaipmknajpbpkaaMgC
set_option linter.unusedSimpArgs false
set_option linter.unusedVariables false
namespace Go.Par

/-! ### The states that were seen -/
def seenK (K : List (List Int)) : List AV := (List.range K.length).map fun j => .tup [.agg ((K.getD j []).map (AV.int .i64)), .int .i64 ((j : Int) + 1)]
theorem intsA_map : ∀ l : List Int, intsA (l.map (AV.int .i64)) = some l
  | [] => rfl
  | a :: l => by simp [intsA, intsA_map l]
theorem seen_ent (K : List (List Int)) : (seenK K).map entK = K.map some := by
  apply List.ext_getElem (by simp [seenK])
  intro i h1 h2
  have hi : i < K.length := by simpa using h2
  simp [seenK, entK, keyI, intsA_map, hi]
theorem seen_look_no {K : List (List Int)} {key : List Int} (h : key ∉ K) : lookM (some key) (seenK K) = none :=
  lookM_none fun u hu e => by
    have : entK u ∈ (seenK K).map entK := List.mem_map.2 ⟨u, hu, rfl⟩
    rw [seen_ent, e] at this
    obtain ⟨k, hk, e2⟩ := List.mem_map.1 this
    cases e2
    exact h hk
theorem seen_nd {K : List (List Int)} (nd : K.Nodup) : ((seenK K).map entK).Nodup := by
  rw [seen_ent, List.nodup_iff_pairwise_ne, List.pairwise_map]
  rw [List.nodup_iff_pairwise_ne] at nd
  exact nd.imp fun h e => h (by simpa using e)
theorem seen_get {K : List (List Int)} {j : Nat} {key : List Int} (h : K[j]? = some key) : (seenK K)[j]? = some (.tup [.agg (key.map (AV.int .i64)), .int .i64 ((j : Int) + 1)]) := by
  obtain ⟨hj, he⟩ := List.getElem?_eq_some_iff.1 h
  simp [seenK, hj, he]
theorem seen_look {K : List (List Int)} {j : Nat} {key : List Int} (nd : K.Nodup) (h : K[j]? = some key) : lookM (some key) (seenK K) = some (.int .i64 ((j : Int) + 1)) :=
  lookM_at (seen_nd nd) (seen_get h) (by simp [keyI, intsA_map])
theorem seen_put {K : List (List Int)} {key : List Int} (h : key ∉ K) : putM (.agg (key.map (AV.int .i64))) (.int .i64 ((K.length : Int) + 1)) (seenK K) = seenK (K ++ [key]) := by
  rw [putM_none fun u hu e => by
    have : entK u ∈ (seenK K).map entK := List.mem_map.2 ⟨u, hu, rfl⟩
    rw [seen_ent, e] at this
    simp only [keyI, intsA_map] at this
    obtain ⟨k, hk, e2⟩ := List.mem_map.1 this
    cases e2
    exact h hk]
  apply List.ext_getElem (by simp [seenK])
  intro i h1 h2
  have hi : i < K.length + 1 := by simpa [seenK] using h2
  by_cases e : i = K.length
  · subst e; simp [seenK]
  · have hi' : i < K.length := by omega
    rw [List.getElem_append_left (by simpa [seenK] using hi')]
    simp [seenK, hi', List.getElem?_append_left]
theorem seen_keys {Q : Program} {kt : TypeId} {K : List (List Int)} (nd : K.Nodup) (hk : ∀ key ∈ K, KeyA Q kt (.agg (key.map (AV.int .i64)))) : KeysA Q kt (seenK K) := by
  refine ⟨fun u hu => ?_, seen_nd nd⟩
  obtain ⟨j, hj, rfl⟩ := List.mem_map.1 hu
  have hj' : j < K.length := by simpa using hj
  refine ⟨_, _, rfl, hk _ ?_⟩
  simp [hj']
theorem codes_len {K : List (List Int)} (nd : K.Nodup) (code : List Int → Nat) {B : Nat} (hi : ∀ a ∈ K, ∀ b ∈ K, code a = code b → a = b) (hB : ∀ a ∈ K, code a < B) : K.length ≤ B := by
  have h1 : (K.map code).Nodup := by
    rw [List.nodup_iff_pairwise_ne, List.pairwise_map]
    rw [List.nodup_iff_pairwise_ne] at nd
    exact nd.imp_of_mem fun ha hb h e => h (hi _ ha _ hb e)
  have := nodup_lt (n := B) h1 fun x hx => by
    obtain ⟨a, ha, rfl⟩ := List.mem_map.1 hx
    exact hB a ha
  simpa using this

/-! ### A way that comes round -/
def Steps (R : Nat → Nat → Prop) (l : List Nat) : Prop := ∀ j a b, l[j]? = some a → l[j + 1]? = some b → R a b
theorem Steps.one {R : Nat → Nat → Prop} (v : Nat) : Steps R [v] := fun j a b _ h => by simp at h
theorem Steps.snoc {R : Nat → Nat → Prop} {way : List Nat} {v w : Nat} (h : Steps R (way ++ [v])) (e : R v w) : Steps R ((way ++ [v]) ++ [w]) := by
  intro j a b h1 h2
  have hj := (List.getElem?_eq_some_iff.1 h2).1
  simp only [List.length_append, List.length_cons, List.length_nil] at hj
  by_cases q : j + 1 = way.length + 1
  · have q' : j = way.length := by omega
    subst q'
    rw [List.getElem?_append_left (by simp), List.getElem?_append_right (Nat.le_refl _)] at h1
    rw [List.getElem?_append_right (by simp)] at h2
    simp at h1 h2
    subst h1 h2
    exact e
  · rw [List.getElem?_append_left (by simp; omega)] at h1 h2
    exact h j a b h1 h2
theorem Steps.way {R : Nat → Nat → Prop} {S : Nat → Prop} {l : List Nat} (h : Steps R l) (i : Nat) : ∀ d, i + d + 1 < l.length → (∀ x u, i ≤ x → l[x]? = some u → S u) → ∀ a b, l[i]? = some a → l[i + d + 1]? = some b → Way R S a b
  | 0, hl, hS, a, b, ha, hb => .one (hS i a (Nat.le_refl _) ha) (hS (i + 1) b (by omega) hb) (h i a b ha hb)
  | d + 1, hl, hS, a, b, ha, hb => by
    have hc : i + d + 1 < l.length := by omega
    have hc' := List.getElem?_eq_getElem hc
    exact (Steps.way h i d (by omega) hS a _ ha hc').snoc (h (i + d + 1) _ b hc' hb) (hS _ b (by omega) hb)
/-- Each vertex from where one was before lies on a circle of such. -/
theorem Steps.round {R : Nat → Nat → Prop} {way : List Nat} {v j : Nat} (h : Steps R (way ++ [v])) (hj : way[j]? = some v) {m : Nat} (hm : m ∈ way.drop j) : Way R (fun u => u ∈ way.drop j) m m := by
  obtain ⟨k, hk⟩ := List.mem_iff_getElem?.1 hm
  rw [List.getElem?_drop] at hk
  have hkl := (List.getElem?_eq_some_iff.1 hk).1
  have hjl := (List.getElem?_eq_some_iff.1 hj).1
  have hS : ∀ i, j ≤ i → ∀ x u, i ≤ x → (way ++ [v])[x]? = some u → u ∈ way.drop j := fun i hi x u hx hu => by
    by_cases e : x < way.length
    · rw [List.getElem?_append_left e] at hu
      exact List.mem_iff_getElem?.2 ⟨x - j, by rw [List.getElem?_drop, show j + (x - j) = x by omega]; exact hu⟩
    · have e' : x = way.length := by have := (List.getElem?_eq_some_iff.1 hu).1; simp at this; omega
      subst e'
      simp at hu
      subst hu
      exact List.mem_iff_getElem?.2 ⟨0, by rw [List.getElem?_drop]; exact hj⟩
  have hk' : (way ++ [v])[j + k]? = some m := by rw [List.getElem?_append_left hkl]; exact hk
  have hj' : (way ++ [v])[j]? = some v := by rw [List.getElem?_append_left hjl]; exact hj
  have w1 : Way R (fun u => u ∈ way.drop j) m v := by
    obtain ⟨d, hd⟩ : ∃ d, way.length = (j + k) + d + 1 := ⟨way.length - (j + k) - 1, by omega⟩
    refine Steps.way h (j + k) d (by simp; omega) (hS _ (by omega)) m v hk' ?_
    rw [← hd]; simp
  cases k with
  | zero =>
    rw [Nat.add_zero, hj'] at hk'
    cases hk'
    exact w1
  | succ k =>
    exact w1.trans (Steps.way h j k (by simp; omega) (hS _ (Nat.le_refl _)) v m hj' (by rw [show j + k + 1 = j + (k + 1) by omega]; exact hk'))

/-! ### The greatest on it -/
def mxS (pr : Nat → Int) (l : List Nat) (y : Nat) : Int := (l.take y).foldl (fun m v => if m < pr v then pr v else m) 0
theorem mxS_zero (pr : Nat → Int) (l : List Nat) : mxS pr l 0 = 0 := rfl
theorem mxS_step (pr : Nat → Int) (l : List Nat) {y : Nat} (hy : y < l.length) : mxS pr l (y + 1) = if mxS pr l y < pr l[y] then pr l[y] else mxS pr l y := by
  unfold mxS; rw [List.take_succ_eq_append_getElem hy, List.foldl_append]; rfl
theorem foldS_ge (pr : Nat → Int) : ∀ (l : List Nat) (m : Int), m ≤ l.foldl (fun m v => if m < pr v then pr v else m) m ∧ (∀ u ∈ l, pr u ≤ l.foldl (fun m v => if m < pr v then pr v else m) m) ∧ (l.foldl (fun m v => if m < pr v then pr v else m) m = m ∨ ∃ w ∈ l, pr w = l.foldl (fun m v => if m < pr v then pr v else m) m)
  | [], m => ⟨Int.le_refl _, fun u hu => (by cases hu), .inl rfl⟩
  | v :: l, m => by
    obtain ⟨h1, h2, h3⟩ := foldS_ge pr l (if m < pr v then pr v else m)
    have hm : m ≤ (if m < pr v then pr v else m) ∧ pr v ≤ (if m < pr v then pr v else m) := by split <;> omega
    simp only [List.foldl_cons]
    refine ⟨Int.le_trans hm.1 h1, fun u hu => ?_, ?_⟩
    · rcases List.mem_cons.1 hu with e | q
      · rw [e]; exact Int.le_trans hm.2 h1
      · exact h2 u q
    · rcases h3 with e | ⟨w, hw, e⟩
      · by_cases q : m < pr v
        · rw [if_pos q] at e ⊢
          exact .inr ⟨v, by simp, e.symm⟩
        · rw [if_neg q] at e ⊢
          exact .inl e
      · exact .inr ⟨w, by simp [hw], e⟩
theorem mxS_all (pr : Nat → Int) (l : List Nat) (h0 : ∀ u, 0 ≤ pr u) (hl : l ≠ []) : (∀ u ∈ l, pr u ≤ mxS pr l l.length) ∧ ∃ w ∈ l, pr w = mxS pr l l.length := by
  unfold mxS
  rw [List.take_length]
  obtain ⟨h1, h2, h3⟩ := foldS_ge pr l 0
  refine ⟨h2, ?_⟩
  rcases h3 with e | h
  · obtain ⟨u, hu⟩ := List.exists_mem_of_ne_nil _ hl
    have := h2 u hu
    have := h0 u
    exact ⟨u, hu, by omega⟩
  · exact h
end Go.Par
