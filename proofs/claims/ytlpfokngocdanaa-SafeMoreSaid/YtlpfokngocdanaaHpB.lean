/- A heap of pairs: plain laws. -/
import Derived.Test.YtlpfokngocdanaaHpA
set_option linter.unusedSimpArgs false
set_option linter.unusedVariables false
namespace Go.Par

theorem less_iff {a b : Pr} : lessP a b = true ↔ a.2 < b.2 ∨ a.2 = b.2 ∧ a.1 < b.1 := by
  unfold lessP; split
  · rename_i h; simp [h]
  · rename_i h; simp [h]
theorem nless_iff {a b : Pr} : lessP a b = false ↔ b.2 < a.2 ∨ a.2 = b.2 ∧ b.1 ≤ a.1 := by
  rw [← Bool.not_eq_true, less_iff]; omega
theorem swap_perm {T : List Pr} {i j : Nat} (hi : i < T.length) (hj : j < T.length) : (swapL T i j).Perm T := by
  unfold swapL
  rw [pat_lt hi, pat_lt hj]
  exact List.set_set_perm hi hj

def heapN (T : List Pr) (n : Nat) : Prop := ∀ j, 0 < j → j < n → lessP (pat T j) (pat T ((j - 1) / 2)) = false

theorem up_heap : ∀ (j : Nat) (T : List Pr), j < T.length → (∀ i, 0 < i → i < T.length → i ≠ j → lessP (pat T i) (pat T ((i - 1) / 2)) = false) →
    (∀ i, 0 < i → i < T.length → (i - 1) / 2 = j → 0 < j → lessP (pat T i) (pat T ((j - 1) / 2)) = false) → heapN (upL T j) T.length ∧ (upL T j).Perm T := by
  intro j
  induction j using Nat.strongRecOn with
  | ind j ih =>
    intro T hj h1 h2
    rw [upL]
    split
    · rename_i e
      subst e
      exact ⟨fun i h0 hl => h1 i h0 hl (by omega), List.Perm.refl _⟩
    · rename_i e
      obtain ⟨q, hq⟩ : ∃ q, q = (j - 1) / 2 := ⟨_, rfl⟩
      rw [← hq]
      split
      · rename_i hl
        have hqj : q < j := by omega
        have hql : q < T.length := by omega
        have sw : ∀ k, k < T.length → pat (swapL T q j) k = if k = j then pat T q else if k = q then pat T j else pat T k := fun k hk => pat_swap hql hj hk
        obtain ⟨g1, g2⟩ := ih q hqj (swapL T q j) (by rw [swap_len]; exact hql) (by
          intro i h0 hil hiq
          rw [swap_len] at hil
          rw [sw i hil, sw _ (by omega)]
          by_cases e1 : i = j
          · subst e1
            rw [if_pos rfl, ← hq, if_neg (by omega), if_pos rfl]
            rw [less_iff] at hl; rw [nless_iff]; omega
          · rw [if_neg e1, if_neg hiq]
            by_cases e2 : (i - 1) / 2 = j
            · rw [if_pos e2]
              have := h2 i h0 hil e2 (by omega)
              rwa [← hq] at this
            · rw [if_neg e2]
              have h3 := h1 i h0 hil e1
              by_cases e3 : (i - 1) / 2 = q
              · rw [if_pos e3]
                rw [e3] at h3
                rw [less_iff] at hl; rw [nless_iff] at h3 ⊢; omega
              · rw [if_neg e3]; exact h3) (by
          intro i h0 hil hiq h0q
          rw [swap_len] at hil
          rw [sw i hil, sw _ (by omega), if_neg (show ¬ (q - 1) / 2 = j by omega), if_neg (show ¬ (q - 1) / 2 = q by omega)]
          have h4 := h1 q h0q hql (by omega)
          by_cases e1 : i = j
          · subst e1; rw [if_pos rfl]; exact h4
          · rw [if_neg e1, if_neg (by omega)]
            have h3 := h1 i h0 hil e1
            rw [hiq] at h3
            rw [nless_iff] at h3 h4 ⊢; omega)
        rw [swap_len] at g1
        exact ⟨g1, g2.trans (swap_perm hql hj)⟩
      · rename_i hl
        refine ⟨fun i h0 hil => ?_, List.Perm.refl _⟩
        by_cases e1 : i = j
        · subst e1; rw [← hq]; simpa using hl
        · exact h1 i h0 hil e1

theorem down_heap (n : Nat) : ∀ (m i : Nat) (T : List Pr), n - i = m → i < T.length → n ≤ T.length → (∀ k, 0 < k → k < n → (k - 1) / 2 ≠ i → lessP (pat T k) (pat T ((k - 1) / 2)) = false) →
    (∀ k, 0 < k → k < n → (k - 1) / 2 = i → 0 < i → lessP (pat T k) (pat T ((i - 1) / 2)) = false) → heapN (downL T i n) n ∧ (downL T i n).Perm T ∧ ∀ k, n ≤ k → k < T.length → i < n ∨ i ≠ k → pat (downL T i n) k = pat T k := by
  intro m
  induction m using Nat.strongRecOn with
  | ind m ih =>
    intro i T hm hi hn h1 h2
    rw [downL]
    split
    · rename_i hc
      obtain ⟨c, hcd⟩ : ∃ c, c = kidL T i n := ⟨_, rfl⟩
      have hkd : c = if 2 * i + 2 < n ∧ lessP (pat T (2 * i + 2)) (pat T (2 * i + 1)) = true then 2 * i + 2 else 2 * i + 1 := hcd
      rw [← hcd]
      have hmin : ∀ k, 0 < k → k < n → (k - 1) / 2 = i → lessP (pat T k) (pat T c) = false := by
        intro k h0 hk e
        have hk2 : k = 2 * i + 1 ∨ k = 2 * i + 2 := by omega
        rw [hkd]
        split
        · rename_i q
          obtain ⟨q1, q2⟩ := q
          rw [less_iff] at q2
          rcases hk2 with rfl | rfl
          · rw [nless_iff]; omega
          · rw [nless_iff]; omega
        · rename_i q
          rcases hk2 with rfl | rfl
          · rw [nless_iff]; omega
          · have : ¬ lessP (pat T (2 * i + 2)) (pat T (2 * i + 1)) = true := fun e => q ⟨hk, e⟩
            simpa using this
      have hcn : c < n := by rw [hkd]; split <;> omega
      have hci : (c - 1) / 2 = i ∧ 0 < c := by rw [hkd]; split <;> omega
      split
      · rename_i hl
        have hcT : c < T.length := by omega
        have sw : ∀ k, k < T.length → pat (swapL T i c) k = if k = c then pat T i else if k = i then pat T c else pat T k := fun k hk => pat_swap hi hcT hk
        obtain ⟨g1, g2, g3⟩ := ih (n - c) (by omega) c (swapL T i c) rfl (by rw [swap_len]; exact hcT) (by rw [swap_len]; exact hn) (by
          intro k h0 hk hkc
          rw [sw k (by omega), sw _ (by omega), if_neg hkc]
          by_cases e1 : k = c
          · subst e1
            rw [if_pos rfl, hci.1, if_pos rfl]
            rw [less_iff] at hl; rw [nless_iff]; omega
          · rw [if_neg e1]
            by_cases e2 : (k - 1) / 2 = i
            · rw [if_pos e2, if_neg (by omega)]
              exact hmin k h0 hk e2
            · rw [if_neg e2]
              by_cases e3 : k = i
              · subst e3
                rw [if_pos rfl]
                exact h2 c hci.2 hcn hci.1 h0
              · rw [if_neg e3]; exact h1 k h0 hk e2) (by
          intro k h0 hk hkc h0c
          rw [sw k (by omega), sw _ (by omega), if_neg (show ¬ k = c by omega), if_neg (show ¬ k = i by omega), hci.1, if_neg (show ¬ i = c by omega), if_pos rfl]
          have := h1 k h0 hk (by omega)
          rwa [hkc] at this)
        refine ⟨g1, g2.trans (swap_perm hi hcT), fun k hk hkT hik => ?_⟩
        rw [g3 k hk (by rw [swap_len]; exact hkT) (.inl hcn), sw k hkT, if_neg (by omega), if_neg (by omega)]
      · rename_i hl
        refine ⟨fun k h0 hk => ?_, List.Perm.refl _, fun k _ _ _ => rfl⟩
        by_cases e : (k - 1) / 2 = i
        · have := hmin k h0 hk e
          rw [e]
          rw [Bool.not_eq_true, nless_iff] at hl
          rw [nless_iff] at this ⊢; omega
        · exact h1 k h0 hk e
    · rename_i hc
      exact ⟨fun k h0 hk => h1 k h0 hk (by omega), List.Perm.refl _, fun k _ _ _ => rfl⟩

def heapL (T : List Pr) : Prop := heapN T T.length
theorem heap_min {T : List Pr} (h : heapL T) : ∀ j, j < T.length → lessP (pat T j) (pat T 0) = false := by
  intro j
  induction j using Nat.strongRecOn with
  | ind j ih =>
    intro hj
    by_cases e : j = 0
    · subst e; rw [nless_iff]; omega
    · have h1 := ih ((j - 1) / 2) (by omega) (by omega)
      have h2 := h j (by omega) hj
      rw [nless_iff] at h1 h2 ⊢; omega

theorem heap_nil : heapL [] := fun j _ h => by simp at h
theorem heap_push {T : List Pr} (h : heapL T) (p : Pr) : heapL (pushL T p) ∧ (pushL T p).Perm (p :: T) := by
  have hp : ∀ k, k < T.length → pat (T ++ [p]) k = pat T k := fun k hk => by
    rw [pat_lt (by simp; omega), pat_lt hk, List.getElem_append_left hk]
  obtain ⟨h1, h2⟩ := up_heap T.length (T ++ [p]) (by simp) (by
    intro i h0 hi hne
    simp at hi
    rw [hp i (by omega), hp _ (by omega)]
    exact h i h0 (by omega)) (by
    intro i h0 hi e h0'
    simp at hi; omega)
  have hl : (upL (T ++ [p]) T.length).length = (T ++ [p]).length := upL_len _ _
  refine ⟨?_, h2.trans (List.perm_append_singleton p T)⟩
  unfold heapL pushL
  rw [hl]; exact h1

theorem heap_pop {T : List Pr} (h : heapL T) (hT : 0 < T.length) : heapL (popL T) ∧ T.Perm (popV T :: popL T) ∧ ∀ q ∈ T, lessP q (popV T) = false := by
  obtain ⟨n, hn⟩ : ∃ n, T.length = n + 1 := ⟨T.length - 1, by omega⟩
  have e1 : popV T = pat (downL (swapL T 0 n) 0 n) n := by rw [popV, hn]; rfl
  have e2 : popL T = (downL (swapL T 0 n) 0 n).take n := by rw [popL, hn]; rfl
  have sw : ∀ k, k < T.length → pat (swapL T 0 n) k = if k = n then pat T 0 else if k = 0 then pat T n else pat T k := fun k hk => pat_swap (by omega) (by omega) hk
  obtain ⟨g1, g2, g3⟩ := down_heap n (n - 0) 0 (swapL T 0 n) rfl (by rw [swap_len]; omega) (by rw [swap_len]; omega) (by
    intro k h0 hk hne
    rw [sw k (by omega), sw _ (by omega), if_neg (by omega), if_neg (by omega), if_neg (by omega), if_neg hne]
    exact h k h0 (by omega)) (by intro k _ _ _ h0; omega)
  have hv : popV T = pat T 0 := by
    rw [e1]
    by_cases e : n = 0
    · subst e
      have : downL (swapL T 0 0) 0 0 = swapL T 0 0 := by rw [downL]; simp
      rw [this, sw 0 (by omega), if_pos rfl]
    · rw [g3 n (Nat.le_refl _) (by rw [swap_len]; omega) (.inl (by omega)), sw n (by omega), if_pos rfl]
  have hdl : (downL (swapL T 0 n) 0 n).length = n + 1 := by rw [downL_len n _ _ _ rfl, swap_len, hn]
  generalize downL (swapL T 0 n) 0 n = D at *
  have hD : D = D.take n ++ [pat D n] := by
    apply List.ext_getElem (by simp; omega)
    intro i h1 h2
    by_cases hi : i < n
    · rw [List.getElem_append_left (by simp; omega)]; simp
    · have : i = n := by omega
      subst this
      have q : D[i] = pat D i := (pat_lt _).symm
      rw [q]
      simp [List.getElem_append, hdl]
  refine ⟨?_, ?_, ?_⟩
  · rw [e2]
    intro j h0 hj
    simp at hj
    have ht : ∀ k, k < n → pat (D.take n) k = pat D k := fun k hk => by rw [pat_lt (by simp; omega), pat_lt (by omega)]; simp
    rw [ht j (by omega), ht _ (by omega)]
    exact g1 j h0 (by omega)
  · rw [e2, e1]
    have p1 : D.Perm T := g2.trans (swap_perm (by omega) (by omega))
    refine p1.symm.trans ?_
    rw [hD]
    have : pat (D.take n ++ [pat D n]) n = pat D n := by rw [← hD]
    rw [this, ← hD]
    conv => lhs; rw [hD]
    exact List.perm_append_singleton _ _
  · intro q hq
    obtain ⟨i, hi, rfl⟩ := List.getElem_of_mem hq
    rw [hv, ← pat_lt hi]
    exact heap_min h i hi
end Go.Par
