/- Texts HpA HpB AtA AtB AtC AtP AtQ AtD, one behind another. -/
import Derived.Test.YtaipmknajpbpkaaMgC
import Derived.Test.YtaipmknajpbpkaaFgA
import Derived.Test.YtaipmknajpbpkaaFgB
set_option linter.unusedSimpArgs false
set_option linter.unusedVariables false
namespace Go.Par

abbrev Pr := Nat × Nat
def prV (p : Pr) : AV := .agg [.int .i64 p.1, .int .i64 p.2]
def prF : List Pr → List AV
  | [] => []
  | p :: T => .int .i64 p.1 :: .int .i64 p.2 :: prF T
def lessP (a b : Pr) : Bool := if a.2 = b.2 then decide (a.1 < b.1) else decide (a.2 < b.2)
def pat (T : List Pr) (i : Nat) : Pr := T.getD i (0, 0)
def swapL (T : List Pr) (i j : Nat) : List Pr := (T.set i (pat T j)).set j (pat T i)

theorem prF_len : ∀ T : List Pr, (prF T).length = 2 * T.length
  | [] => rfl
  | p :: T => by simp only [prF, List.length_cons, prF_len T]; omega
theorem prF_drop : ∀ (T : List Pr) (i : Nat), i < T.length → (prF T).drop (i * 2) = .int .i64 (pat T i).1 :: .int .i64 (pat T i).2 :: prF (T.drop (i + 1))
  | [], i, h => by simp at h
  | p :: T, 0, _ => by simp [prF, pat]
  | p :: T, i + 1, h => by
    have := prF_drop T i (by simpa using h)
    rw [show (i + 1) * 2 = i * 2 + 1 + 1 by omega]
    simp only [prF, List.drop_succ_cons, this, pat, List.getD_cons_succ]
theorem prF_drop1 (T : List Pr) (i : Nat) (h : i < T.length) : (prF T).drop (i * 2 + 1) = .int .i64 (pat T i).2 :: prF (T.drop (i + 1)) := by
  rw [← List.drop_drop, prF_drop T i h]; rfl
theorem prF_set : ∀ (T : List Pr) (i : Nat) (p : Pr), i < T.length → ((prF T).set (i * 2) (.int .i64 p.1)).set (i * 2 + 1) (.int .i64 p.2) = prF (T.set i p)
  | [], i, p, h => by simp at h
  | q :: T, 0, p, _ => by simp [prF]
  | q :: T, i + 1, p, h => by
    have := prF_set T i p (by simpa using h)
    rw [show (i + 1) * 2 = i * 2 + 1 + 1 by omega]
    simp only [prF, List.set_cons_succ, this]
theorem prF_append : ∀ (T : List Pr) (p : Pr), prF T ++ [.int .i64 p.1, .int .i64 p.2] = prF (T ++ [p])
  | [], p => rfl
  | q :: T, p => by simp only [prF, List.cons_append, prF_append T p]
theorem prF_take : ∀ (T : List Pr) (n : Nat), (prF T).take (n * 2) = prF (T.take n)
  | [], n => by simp [prF]
  | p :: T, 0 => by simp [prF]
  | p :: T, n + 1 => by
    rw [show (n + 1) * 2 = n * 2 + 1 + 1 by omega]
    simp only [prF, List.take_succ_cons, prF_take T n]
theorem prF_inj : ∀ {T T' : List Pr}, T = T' → prF T = prF T' := fun h => by rw [h]

theorem swap_len (T : List Pr) (i j : Nat) : (swapL T i j).length = T.length := by simp [swapL]
theorem pat_lt {T : List Pr} {i : Nat} (h : i < T.length) : pat T i = T[i] := by simp [pat, h]
theorem pat_set {T : List Pr} {i j : Nat} {p : Pr} (h : j < T.length) : pat (T.set i p) j = if i = j then p else pat T j := by
  rw [pat_lt (by simpa using h), List.getElem_set]
  split
  · rfl
  · rw [pat_lt h]
theorem pat_swap {T : List Pr} {i j k : Nat} (hi : i < T.length) (hj : j < T.length) (hk : k < T.length) : pat (swapL T i j) k = if k = j then pat T i else if k = i then pat T j else pat T k := by
  unfold swapL
  rw [pat_set (by simpa using hk), pat_set hk]
  by_cases e : j = k
  · subst e; simp
  · by_cases e2 : i = k
    · subst e2; simp [e, Ne.symm e]
    · simp [e, e2, Ne.symm e, Ne.symm e2]

def upL (T : List Pr) (j : Nat) : List Pr :=
  if j = 0 then T else if lessP (pat T j) (pat T ((j - 1) / 2)) = true then upL (swapL T ((j - 1) / 2) j) ((j - 1) / 2) else T
termination_by j
decreasing_by omega

def kidL (T : List Pr) (i n : Nat) : Nat := if 2 * i + 2 < n ∧ lessP (pat T (2 * i + 2)) (pat T (2 * i + 1)) = true then 2 * i + 2 else 2 * i + 1
theorem kid_bounds (T : List Pr) (i n : Nat) : 2 * i + 1 ≤ kidL T i n ∧ (2 * i + 1 < n → kidL T i n < n) := by
  unfold kidL; split <;> omega
def downL (T : List Pr) (i n : Nat) : List Pr :=
  if 2 * i + 1 < n then if lessP (pat T (kidL T i n)) (pat T i) = true then downL (swapL T i (kidL T i n)) (kidL T i n) n else T else T
termination_by n - i
decreasing_by have := kid_bounds T i n; omega

theorem upL_len : ∀ (j : Nat) (T : List Pr), (upL T j).length = T.length := by
  intro j
  induction j using Nat.strongRecOn with
  | ind j ih =>
    intro T
    rw [upL]
    split
    · rfl
    · split
      · rw [ih _ (by omega), swap_len]
      · rfl
theorem downL_len (n : Nat) : ∀ (m i : Nat) (T : List Pr), n - i = m → (downL T i n).length = T.length := by
  intro m
  induction m using Nat.strongRecOn with
  | ind m ih =>
    intro i T h
    rw [downL]
    split
    · split
      · have := kid_bounds T i n
        rw [ih (n - kidL T i n) (by omega) _ _ rfl, swap_len]
      · rfl
    · rfl

def pushL (T : List Pr) (p : Pr) : List Pr := upL (T ++ [p]) T.length
/-- What is left, and what was taken. -/
def popL (T : List Pr) : List Pr := (downL (swapL T 0 (T.length - 1)) 0 (T.length - 1)).take (T.length - 1)
def popV (T : List Pr) : Pr := pat (downL (swapL T 0 (T.length - 1)) 0 (T.length - 1)) (T.length - 1)
end Go.Par

set_option linter.unusedSimpArgs false
set_option linter.unusedVariables false
namespace Go.Par

theorem less_iff {a b : Pr} : lessP a b = true ↔ a.2 < b.2 ∨ a.2 = b.2 ∧ a.1 < b.1 := by
  unfold lessP; split
  · rename_i h; simp [h]
  · rename_i h; simp [h]
theorem nless_iff {a b : Pr} : lessP a b = false ↔ b.2 < a.2 ∨ a.2 = b.2 ∧ b.1 ≤ a.1 := by
  rw [← Bool.not_eq_true, less_iff]; omega
theorem swap_perm {T : List Pr} {i j : Nat} (hi : i < T.length) (hj : j < T.length) : (swapL T i j).Perm T := by
  unfold swapL
  rw [pat_lt hi, pat_lt hj]
  exact List.set_set_perm hi hj

def heapN (T : List Pr) (n : Nat) : Prop := ∀ j, 0 < j → j < n → lessP (pat T j) (pat T ((j - 1) / 2)) = false

theorem up_heap : ∀ (j : Nat) (T : List Pr), j < T.length → (∀ i, 0 < i → i < T.length → i ≠ j → lessP (pat T i) (pat T ((i - 1) / 2)) = false) →
    (∀ i, 0 < i → i < T.length → (i - 1) / 2 = j → 0 < j → lessP (pat T i) (pat T ((j - 1) / 2)) = false) → heapN (upL T j) T.length ∧ (upL T j).Perm T := by
  intro j
  induction j using Nat.strongRecOn with
  | ind j ih =>
    intro T hj h1 h2
    rw [upL]
    split
    · rename_i e
      subst e
      exact ⟨fun i h0 hl => h1 i h0 hl (by omega), List.Perm.refl _⟩
    · rename_i e
      obtain ⟨q, hq⟩ : ∃ q, q = (j - 1) / 2 := ⟨_, rfl⟩
      rw [← hq]
      split
      · rename_i hl
        have hqj : q < j := by omega
        have hql : q < T.length := by omega
        have sw : ∀ k, k < T.length → pat (swapL T q j) k = if k = j then pat T q else if k = q then pat T j else pat T k := fun k hk => pat_swap hql hj hk
        obtain ⟨g1, g2⟩ := ih q hqj (swapL T q j) (by rw [swap_len]; exact hql) (by
          intro i h0 hil hiq
          rw [swap_len] at hil
          rw [sw i hil, sw _ (by omega)]
          by_cases e1 : i = j
          · subst e1
            rw [if_pos rfl, ← hq, if_neg (by omega), if_pos rfl]
            rw [less_iff] at hl; rw [nless_iff]; omega
          · rw [if_neg e1, if_neg hiq]
            by_cases e2 : (i - 1) / 2 = j
            · rw [if_pos e2]
              have := h2 i h0 hil e2 (by omega)
              rwa [← hq] at this
            · rw [if_neg e2]
              have h3 := h1 i h0 hil e1
              by_cases e3 : (i - 1) / 2 = q
              · rw [if_pos e3]
                rw [e3] at h3
                rw [less_iff] at hl; rw [nless_iff] at h3 ⊢; omega
              · rw [if_neg e3]; exact h3) (by
          intro i h0 hil hiq h0q
          rw [swap_len] at hil
          rw [sw i hil, sw _ (by omega), if_neg (show ¬ (q - 1) / 2 = j by omega), if_neg (show ¬ (q - 1) / 2 = q by omega)]
          have h4 := h1 q h0q hql (by omega)
          by_cases e1 : i = j
          · subst e1; rw [if_pos rfl]; exact h4
          · rw [if_neg e1, if_neg (by omega)]
            have h3 := h1 i h0 hil e1
            rw [hiq] at h3
            rw [nless_iff] at h3 h4 ⊢; omega)
        rw [swap_len] at g1
        exact ⟨g1, g2.trans (swap_perm hql hj)⟩
      · rename_i hl
        refine ⟨fun i h0 hil => ?_, List.Perm.refl _⟩
        by_cases e1 : i = j
        · subst e1; rw [← hq]; simpa using hl
        · exact h1 i h0 hil e1

theorem down_heap (n : Nat) : ∀ (m i : Nat) (T : List Pr), n - i = m → i < T.length → n ≤ T.length → (∀ k, 0 < k → k < n → (k - 1) / 2 ≠ i → lessP (pat T k) (pat T ((k - 1) / 2)) = false) →
    (∀ k, 0 < k → k < n → (k - 1) / 2 = i → 0 < i → lessP (pat T k) (pat T ((i - 1) / 2)) = false) → heapN (downL T i n) n ∧ (downL T i n).Perm T ∧ ∀ k, n ≤ k → k < T.length → i < n ∨ i ≠ k → pat (downL T i n) k = pat T k := by
  intro m
  induction m using Nat.strongRecOn with
  | ind m ih =>
    intro i T hm hi hn h1 h2
    rw [downL]
    split
    · rename_i hc
      obtain ⟨c, hcd⟩ : ∃ c, c = kidL T i n := ⟨_, rfl⟩
      have hkd : c = if 2 * i + 2 < n ∧ lessP (pat T (2 * i + 2)) (pat T (2 * i + 1)) = true then 2 * i + 2 else 2 * i + 1 := hcd
      rw [← hcd]
      have hmin : ∀ k, 0 < k → k < n → (k - 1) / 2 = i → lessP (pat T k) (pat T c) = false := by
        intro k h0 hk e
        have hk2 : k = 2 * i + 1 ∨ k = 2 * i + 2 := by omega
        rw [hkd]
        split
        · rename_i q
          obtain ⟨q1, q2⟩ := q
          rw [less_iff] at q2
          rcases hk2 with rfl | rfl
          · rw [nless_iff]; omega
          · rw [nless_iff]; omega
        · rename_i q
          rcases hk2 with rfl | rfl
          · rw [nless_iff]; omega
          · have : ¬ lessP (pat T (2 * i + 2)) (pat T (2 * i + 1)) = true := fun e => q ⟨hk, e⟩
            simpa using this
      have hcn : c < n := by rw [hkd]; split <;> omega
      have hci : (c - 1) / 2 = i ∧ 0 < c := by rw [hkd]; split <;> omega
      split
      · rename_i hl
        have hcT : c < T.length := by omega
        have sw : ∀ k, k < T.length → pat (swapL T i c) k = if k = c then pat T i else if k = i then pat T c else pat T k := fun k hk => pat_swap hi hcT hk
        obtain ⟨g1, g2, g3⟩ := ih (n - c) (by omega) c (swapL T i c) rfl (by rw [swap_len]; exact hcT) (by rw [swap_len]; exact hn) (by
          intro k h0 hk hkc
          rw [sw k (by omega), sw _ (by omega), if_neg hkc]
          by_cases e1 : k = c
          · subst e1
            rw [if_pos rfl, hci.1, if_pos rfl]
            rw [less_iff] at hl; rw [nless_iff]; omega
          · rw [if_neg e1]
            by_cases e2 : (k - 1) / 2 = i
            · rw [if_pos e2, if_neg (by omega)]
              exact hmin k h0 hk e2
            · rw [if_neg e2]
              by_cases e3 : k = i
              · subst e3
                rw [if_pos rfl]
                exact h2 c hci.2 hcn hci.1 h0
              · rw [if_neg e3]; exact h1 k h0 hk e2) (by
          intro k h0 hk hkc h0c
          rw [sw k (by omega), sw _ (by omega), if_neg (show ¬ k = c by omega), if_neg (show ¬ k = i by omega), hci.1, if_neg (show ¬ i = c by omega), if_pos rfl]
          have := h1 k h0 hk (by omega)
          rwa [hkc] at this)
        refine ⟨g1, g2.trans (swap_perm hi hcT), fun k hk hkT hik => ?_⟩
        rw [g3 k hk (by rw [swap_len]; exact hkT) (.inl hcn), sw k hkT, if_neg (by omega), if_neg (by omega)]
      · rename_i hl
        refine ⟨fun k h0 hk => ?_, List.Perm.refl _, fun k _ _ _ => rfl⟩
        by_cases e : (k - 1) / 2 = i
        · have := hmin k h0 hk e
          rw [e]
          rw [Bool.not_eq_true, nless_iff] at hl
          rw [nless_iff] at this ⊢; omega
        · exact h1 k h0 hk e
    · rename_i hc
      exact ⟨fun k h0 hk => h1 k h0 hk (by omega), List.Perm.refl _, fun k _ _ _ => rfl⟩

def heapL (T : List Pr) : Prop := heapN T T.length
theorem heap_min {T : List Pr} (h : heapL T) : ∀ j, j < T.length → lessP (pat T j) (pat T 0) = false := by
  intro j
  induction j using Nat.strongRecOn with
  | ind j ih =>
    intro hj
    by_cases e : j = 0
    · subst e; rw [nless_iff]; omega
    · have h1 := ih ((j - 1) / 2) (by omega) (by omega)
      have h2 := h j (by omega) hj
      rw [nless_iff] at h1 h2 ⊢; omega

theorem heap_nil : heapL [] := fun j _ h => by simp at h
theorem heap_push {T : List Pr} (h : heapL T) (p : Pr) : heapL (pushL T p) ∧ (pushL T p).Perm (p :: T) := by
  have hp : ∀ k, k < T.length → pat (T ++ [p]) k = pat T k := fun k hk => by
    rw [pat_lt (by simp; omega), pat_lt hk, List.getElem_append_left hk]
  obtain ⟨h1, h2⟩ := up_heap T.length (T ++ [p]) (by simp) (by
    intro i h0 hi hne
    simp at hi
    rw [hp i (by omega), hp _ (by omega)]
    exact h i h0 (by omega)) (by
    intro i h0 hi e h0'
    simp at hi; omega)
  have hl : (upL (T ++ [p]) T.length).length = (T ++ [p]).length := upL_len _ _
  refine ⟨?_, h2.trans (List.perm_append_singleton p T)⟩
  unfold heapL pushL
  rw [hl]; exact h1

theorem heap_pop {T : List Pr} (h : heapL T) (hT : 0 < T.length) : heapL (popL T) ∧ T.Perm (popV T :: popL T) ∧ ∀ q ∈ T, lessP q (popV T) = false := by
  obtain ⟨n, hn⟩ : ∃ n, T.length = n + 1 := ⟨T.length - 1, by omega⟩
  have e1 : popV T = pat (downL (swapL T 0 n) 0 n) n := by rw [popV, hn]; rfl
  have e2 : popL T = (downL (swapL T 0 n) 0 n).take n := by rw [popL, hn]; rfl
  have sw : ∀ k, k < T.length → pat (swapL T 0 n) k = if k = n then pat T 0 else if k = 0 then pat T n else pat T k := fun k hk => pat_swap (by omega) (by omega) hk
  obtain ⟨g1, g2, g3⟩ := down_heap n (n - 0) 0 (swapL T 0 n) rfl (by rw [swap_len]; omega) (by rw [swap_len]; omega) (by
    intro k h0 hk hne
    rw [sw k (by omega), sw _ (by omega), if_neg (by omega), if_neg (by omega), if_neg (by omega), if_neg hne]
    exact h k h0 (by omega)) (by intro k _ _ _ h0; omega)
  have hv : popV T = pat T 0 := by
    rw [e1]
    by_cases e : n = 0
    · subst e
      have : downL (swapL T 0 0) 0 0 = swapL T 0 0 := by rw [downL]; simp
      rw [this, sw 0 (by omega), if_pos rfl]
    · rw [g3 n (Nat.le_refl _) (by rw [swap_len]; omega) (.inl (by omega)), sw n (by omega), if_pos rfl]
  have hdl : (downL (swapL T 0 n) 0 n).length = n + 1 := by rw [downL_len n _ _ _ rfl, swap_len, hn]
  generalize downL (swapL T 0 n) 0 n = D at *
  have hD : D = D.take n ++ [pat D n] := by
    apply List.ext_getElem (by simp; omega)
    intro i h1 h2
    by_cases hi : i < n
    · rw [List.getElem_append_left (by simp; omega)]; simp
    · have : i = n := by omega
      subst this
      have q : D[i] = pat D i := (pat_lt _).symm
      rw [q]
      simp [List.getElem_append, hdl]
  refine ⟨?_, ?_, ?_⟩
  · rw [e2]
    intro j h0 hj
    simp at hj
    have ht : ∀ k, k < n → pat (D.take n) k = pat D k := fun k hk => by rw [pat_lt (by simp; omega), pat_lt (by omega)]; simp
    rw [ht j (by omega), ht _ (by omega)]
    exact g1 j h0 (by omega)
  · rw [e2, e1]
    have p1 : D.Perm T := g2.trans (swap_perm (by omega) (by omega))
    refine p1.symm.trans ?_
    rw [hD]
    have : pat (D.take n ++ [pat D n]) n = pat D n := by rw [← hD]
    rw [this, ← hD]
    conv => lhs; rw [hD]
    exact List.perm_append_singleton _ _
  · intro q hq
    obtain ⟨i, hi, rfl⟩ := List.getElem_of_mem hq
    rw [hv, ← pat_lt hi]
    exact heap_min h i hi
end Go.Par

set_option linter.unusedSimpArgs false
set_option linter.unusedVariables false
set_option maxRecDepth 8000
namespace Go.Par
open Go.Proofs

theorem meth_Push : Meth Try.prog 125 "Push" 147 none := fun a w => by kernel_rfl
theorem meth_Pop : Meth Try.prog 125 "Pop" 146 none := fun a w => by kernel_rfl
theorem Meth.load {P : Program} {t e : TypeId} {name : String} {f : FuncId} (i : TypeInfo) (m : Method) (hi : P.info? t = some i) (hm : i.methods.find? (·.name == name) = some m) (hp : m.path = #[]) (hf : m.func = some (f, false)) (hu : P.underlying t = some (.pointer e)) (hk : ∃ k, P.types.size + Made.depth = k + 1) : Meth P t name f (some e) := by
  obtain ⟨k, hk⟩ := hk
  intro a w
  rw [hk]
  unfold method
  have hw : ∀ (x y : String), (Builtin.ssaWrapNilChk_ #[t] t #[.pointer (some a), strVal x, strVal y]).run P w = .ok (.pointer (some a)) w := fun x y => rfl
  simp [typeInfo, hi, hm, hp, hf, follow, receiverAt, run_underlying hu, Place.get, hw, asAddr]
theorem meth_Len : Meth Try.prog 125 "Len" 143 (some 116) := Meth.load _ _ rfl rfl rfl rfl rfl ⟨_, rfl⟩
theorem meth_Less : Meth Try.prog 125 "Less" 144 (some 116) := Meth.load _ _ rfl rfl rfl rfl rfl ⟨_, rfl⟩
theorem meth_Swap : Meth Try.prog 125 "Swap" 145 (some 116) := Meth.load _ _ rfl rfl rfl rfl rfl ⟨_, rfl⟩
@[simp] theorem conc_row : Try.prog.concrete 125 = true := by kernel_rfl
@[simp] theorem conc_ranked : Try.prog.concrete 122 = true := by kernel_rfl

def obT (T : List Pr) (nn : Bool) : Ob := ⟨prF T, 122, 2, nn⟩
@[simp] theorem obT_cells (T : List Pr) (nn : Bool) : (obT T nn).cells = prF T := rfl
@[simp] theorem obT_ty (T : List Pr) (nn : Bool) : (obT T nn).ty = 122 := rfl
@[simp] theorem obT_sz (T : List Pr) (nn : Bool) : (obT T nn).sz = 2 := rfl
@[simp] theorem obT_nn (T : List Pr) (nn : Bool) : (obT T nn).nn = nn := rfl
attribute [local simp] prF_len

theorem row_Len (o : Nat) (n : Nat) (h : Heap) : AC Try.prog 143 [.mu o n] h fun r h' => r = .int .i64 n ∧ h' = h := by
  refine AC.body Θ_ok Try.func143 rfl rfl (Nat.le_of_ble_eq_true rfl) ?_
  refine AW.seq fun _ k1 => AW.region [] Θ_ok ?_
  simp
  refine k1 _ ?_
  refine AW.seq fun _ kr => AW.region [] Θ_ok ?_
  simp
  refine kr _ (AW.ret ?_)
  simp [Try.f143]
  exact Fin.refl ⟨rfl, rfl⟩

theorem row_Less {T : List Pr} {nn : Bool} {o n i j : Nat} {h : Heap} (ho : h o = some (obT T nn)) (hn : n = T.length) (hi : i < n) (hj : j < n) :
    AC Try.prog 144 [.mu o n, .int .i64 i, .int .i64 j] h fun r h' => r = .bool (lessP (pat T i) (pat T j)) ∧ h' = h := by
  subst hn
  have d1 := prF_drop T i hi
  have d2 := prF_drop T j hj
  have d3 := prF_drop1 T i hi
  have d4 := prF_drop1 T j hj
  have hl : lessP (pat T i) (pat T j) = if (pat T i).2 = (pat T j).2 then decide ((pat T i).1 < (pat T j).1) else decide ((pat T i).2 < (pat T j).2) := rfl
  generalize pat T i = p at *
  generalize pat T j = q at *
  refine AC.body Θ_ok Try.func144 rfl rfl (Nat.le_of_ble_eq_true rfl) ?_
  refine AW.seq fun _ k1 => AW.region [] Θ_ok ?_
  simp
  refine k1 _ ?_
  refine AW.seq fun _ k1 => ?_
  refine AW.seq fun _ k2 => AW.draw [] 11 [] Θ_ok mixed (by kernel_rfl) (by kernel_rfl) ?_
  simp [vcDraw, vcPre, vcTail, callA, isAlloc, isLoad, effOp, obl, obA, mkOK, valA, ho, hi, hj, d1, d2, d3, d4]
  refine k2 _ ?_
  by_cases e : p.2 = q.2
  · rw [if_pos e] at hl
    refine AW.cond false (by simp [Int.natCast_inj, e]) (fun h => by cases h) (fun _ => ?_)
    refine AW.skip ?_
    simp
    refine k1 _ ?_
    refine AW.seq fun _ kr => ?_
    refine AW.draw [] 12 [] Θ_ok mixed (by kernel_rfl) (by kernel_rfl) ?_
    simp [vcDraw, vcPre, vcTail, callA, isAlloc, isLoad, effOp, obl, obA, mkOK, valA, ho, hi, hj, d1, d2, d3, d4]
    refine kr _ (AW.ret ?_)
    simp [Try.f144]
    exact Fin.refl ⟨by rw [hl], rfl⟩
  · rw [if_neg e] at hl
    refine AW.cond true (by simp [Int.natCast_inj, e]) (fun _ => ?_) (fun h => by cases h)
    refine AW.seq fun _ kr => ?_
    refine AW.draw [] 12 [] Θ_ok mixed (by kernel_rfl) (by kernel_rfl) ?_
    simp [vcDraw, vcPre, vcTail, callA, isAlloc, isLoad, effOp, obl, obA, mkOK, valA, ho, hi, hj, d1, d2, d3, d4]
    refine kr _ (AW.ret ?_)
    simp [Try.f144]
    exact Fin.refl ⟨by rw [hl], rfl⟩

theorem row_Swap {T : List Pr} {nn : Bool} {o n i j : Nat} {h : Heap} (ho : h o = some (obT T nn)) (hn : n = T.length) (hi : i < n) (hj : j < n) :
    AC Try.prog 145 [.mu o n, .int .i64 i, .int .i64 j] h fun r h' => h' = upd h o (some (obT (swapL T i j) nn)) := by
  subst hn
  have d1 := prF_drop T i hi
  have d2 := prF_drop T j hj
  have d5 := prF_set T i (pat T j) hi
  have d6 := prF_set (T.set i (pat T j)) j (pat T i) (by simpa using hj)
  refine AC.body Θ_ok Try.func145 rfl rfl (Nat.le_of_ble_eq_true rfl) ?_
  refine AW.draw [] 13 [] Θ_ok mixed (by kernel_rfl) (by kernel_rfl) ?_
  simp [vcDraw, vcPre, vcTail, callA, isAlloc, isLoad, effOp, obl, obA, mkOK, valA, ho, hi, hj, d1, d2, d5]
  refine ⟨by omega, by omega, Fin.refl ?_⟩
  rw [d6]; rfl
end Go.Par

set_option linter.unusedSimpArgs false
set_option linter.unusedVariables false
set_option maxRecDepth 8000
namespace Go.Par
open Go.Proofs

/-- The names of a search: the search, what is left, ranks, what is to do. -/
structure SN where
  s : Nat
  l : Nat
  r : Nat
  o : Nat
  nn : Bool

def obS (g : G) (who : Int) (k : SN) (n : Nat) : Ob := ⟨[.ro false (ints g.owner), .ro false (rows g.next), .int .i64 who, .mu k.l g.owner.length, .mu k.r g.owner.length, .mu k.o n], 118, 6, true⟩
@[simp] theorem obS_cells (g : G) (who : Int) (k : SN) (n : Nat) : (obS g who k n).cells = [.ro false (ints g.owner), .ro false (rows g.next), .int .i64 who, .mu k.l g.owner.length, .mu k.r g.owner.length, .mu k.o n] := rfl
@[simp] theorem obS_ty (g : G) (who : Int) (k : SN) (n : Nat) : (obS g who k n).ty = 118 := rfl
@[simp] theorem obS_sz (g : G) (who : Int) (k : SN) (n : Nat) : (obS g who k n).sz = 6 := rfl
@[simp] theorem obS_nn (g : G) (who : Int) (k : SN) (n : Nat) : (obS g who k n).nn = true := rfl
def obI (L : List Int) : Ob := ⟨L.map (.int .i64), 3, 1, true⟩
@[simp] theorem obI_cells (L : List Int) : (obI L).cells = L.map (.int .i64) := rfl
@[simp] theorem obI_ty (L : List Int) : (obI L).ty = 3 := rfl
@[simp] theorem obI_sz (L : List Int) : (obI L).sz = 1 := rfl
@[simp] theorem obI_nn (L : List Int) : (obI L).nn = true := rfl

def SHl (k : SN) (g : G) (who : Int) (L R : List Int) (T : List Pr) : List (Nat × Ob) := [(k.s, obS g who k T.length), (k.l, obI L), (k.r, obI R), (k.o, obT T k.nn)]
def SH (h0 : Heap) (k : SN) (g : G) (who : Int) (L R : List Int) (T : List Pr) : Heap := HL h0 (SHl k g who L R T)
abbrev SNok (h0 : Heap) (k : SN) : Prop := HN h0 [k.s, k.l, k.r, k.o]

section
variable {h0 : Heap} {k : SN} (N : SNok h0 k) (g : G) (who : Int) (L R : List Int) (T : List Pr)
include N
theorem SH.s : SH h0 k g who L R T k.s = some (obS g who k T.length) := HL.at (k := 0) N.nd rfl
theorem SH.l : SH h0 k g who L R T k.l = some (obI L) := HL.at (k := 1) N.nd rfl
theorem SH.r : SH h0 k g who L R T k.r = some (obI R) := HL.at (k := 2) N.nd rfl
theorem SH.o : SH h0 k g who L R T k.o = some (obT T k.nn) := HL.at (k := 3) N.nd rfl
theorem SH.putL (L' : List Int) : upd (SH h0 k g who L R T) k.l (some (obI L')) = SH h0 k g who L' R T := HL.put (k := 1) N.nd rfl
theorem SH.putR (R' : List Int) : upd (SH h0 k g who L R T) k.r (some (obI R')) = SH h0 k g who L R' T := HL.put (k := 2) N.nd rfl
theorem SH.putT (T' : List Pr) (h : T'.length = T.length) : upd (SH h0 k g who L R T) k.o (some (obT T' k.nn)) = SH h0 k g who L R T' := by
  have := HL.put (h0 := h0) (A' := obT T' k.nn) (l := SHl k g who L R T) (k := 3) N.nd rfl
  rw [SH, this]
  simp only [SH, SHl, List.set_cons_succ, List.set_cons_zero, h]
theorem SH.push (p : Pr) {o' : Nat} (ho : SH h0 k g who L R T o' = none) :
    SNok h0 ⟨k.s, k.l, k.r, o', true⟩ ∧ upd (upd (SH h0 k g who L R T) k.o none) o' (some (obT (T ++ [p]) true)) k.s = some (obS g who k T.length) ∧
    upd (upd (upd (SH h0 k g who L R T) k.o none) o' (some (obT (T ++ [p]) true))) k.s (some (obS g who ⟨k.s, k.l, k.r, o', true⟩ (T.length + 1))) = SH h0 ⟨k.s, k.l, k.r, o', true⟩ g who L R (T ++ [p]) := by
  obtain ⟨h1, h2⟩ := HL.ren (h0 := h0) (A' := obT (T ++ [p]) true) (a' := o') (l := SHl k g who L R T) (k := 3) N rfl ho
  have h2' : SNok h0 ⟨k.s, k.l, k.r, o', true⟩ := h2
  refine ⟨h2', ?_, ?_⟩
  · rw [SH, h1]; exact HL.at (k := 0) h2.nd rfl
  · rw [SH, h1, HL.put (k := 0) h2.nd rfl]
    simp only [SH, SHl, List.set_cons_zero, List.length_append, List.length_singleton]
    rfl
theorem SH.cut (n : Nat) (hn : n ≤ T.length) : upd (upd (SH h0 k g who L R T) k.s (some (obS g who k n))) k.o (some (obT (T.take n) k.nn)) = SH h0 k g who L R (T.take n) := by
  have h1 := HL.put (h0 := h0) (A' := obS g who k n) (l := SHl k g who L R T) (k := 0) N.nd rfl
  have N' : HN h0 (nms ((SHl k g who L R T).set 0 (k.s, obS g who k n))) := N
  have h2 := HL.put (h0 := h0) (A' := obT (T.take n) k.nn) (l := (SHl k g who L R T).set 0 (k.s, obS g who k n)) (k := 3) N'.nd rfl
  rw [SH, h1, h2]
  simp only [SH, SHl, List.set_cons_zero, List.set_cons_succ, List.length_take, Nat.min_eq_left hn]
end

abbrev rowI (k : SN) : AV := .ifc 125 (.ptr k.s 5)

theorem row_Push {h0 : Heap} {k : SN} (N : SNok h0 k) (g : G) (who : Int) (L R : List Int) (T : List Pr) (p : Pr) (ht : T.length ≤ 1099511627776) :
    AC Try.prog 147 [.ptr k.s 5, .ifc 122 (prV p)] (SH h0 k g who L R T) fun _ h' => ∃ o', SNok h0 ⟨k.s, k.l, k.r, o', true⟩ ∧ h' = SH h0 ⟨k.s, k.l, k.r, o', true⟩ g who L R (T ++ [p]) := by
  have hs := SH.s N g who L R T
  have ho := SH.o N g who L R T
  have hl := prF_len T
  have ha := prF_append T p
  refine AC.body Θ_ok Try.func147 rfl rfl (Nat.le_of_ble_eq_true rfl) ?_
  refine AW.seq fun _ k1 => AW.region [4] Θ_ok ?_
  simp [prV, newA]
  intro n4 hn4
  refine k1 _ ?_
  refine AW.box 4 (o := n4) rfl (upd_same _ _ _) ?_
  simp only [upd_upd, upd_none_id hn4]
  refine AW.seq fun _ k1 => AW.region [] Θ_ok ?_
  simp
  refine k1 _ ?_
  refine AW.cond true (by simp [Int.natCast_inj]) (fun _ => ?_) (fun h => by cases h)
  refine AW.draw [] 6 [4] Θ_ok mixed (by kernel_rfl) (by kernel_rfl) ?_
  simp [vcDraw, vcPre, vcTail, callA, isAlloc, isLoad, effOp, obl, obA, mkOK, valA, hs, ho]
  simp [appendA, ho, hl]
  refine ⟨rfl, ⟨by omega, by omega, by omega⟩, fun o' ho' => ?_⟩
  obtain ⟨N', h1, h2⟩ := SH.push N g who L R T p ho'
  rw [show List.take (T.length * 2) (prF T) = prF T by rw [prF_take, List.take_length], ha]
  rw [show (⟨prF (T ++ [p]), 122, 2, true⟩ : Ob) = obT (T ++ [p]) true from rfl, h1]
  simp
  exact Fin.refl ⟨o', N', h2⟩

theorem heap_up {h0 : Heap} {k : SN} (N : SNok h0 k) (g : G) (who : Int) (L R : List Int) (T : List Pr) (j : Nat) (hj : j < T.length) (ht : T.length ≤ 1099511627776) :
    AC Try.prog 122 [rowI k, .int .i64 j] (SH h0 k g who L R T) fun _ h' => h' = SH h0 k g who L R (upL T j) := by
  refine AC.body Θ_ok Try.func122 rfl rfl (Nat.le_of_ble_eq_true rfl) ?_
  refine AW.block ?_
  refine AW.loopI (X := List Pr × Nat) (fun x => upL x.1 x.2 = upL T j ∧ x.1.length = T.length ∧ x.2 < T.length) (fun x => ⟨23, [(0, rowI k), (1, .int .i64 x.2)], SH h0 k g who L R x.1⟩) (fun x => x.2) (T, j) ⟨rfl, rfl, hj⟩ (GStep.eq (by simp) (subH.refl _)) ?_
  rintro ⟨X, i⟩ ⟨hX, hl, hi⟩
  simp only at hX hl hi ⊢
  have hs := SH.s N g who L R X
  have ho := SH.o N g who L R X
  refine AW.block ?_
  obtain ⟨q, hq⟩ : ∃ q, q = (i - 1) / 2 := ⟨_, rfl⟩
  have w1 : IntKind.i64.wrap ((IntKind.i64.wrap ((i : Int) - 1)).tdiv 2) = (q : Int) := by
    by_cases e : i = 0
    · subst e; subst hq; rfl
    · have e1 : IntKind.i64.wrap ((i : Int) - 1) = ((i - 1 : Nat) : Int) := by
        rw [show ((i : Int) - 1) = ((i - 1 : Nat) : Int) by omega]; exact wrap_nat (by omega)
      rw [e1, show (((i - 1 : Nat) : Int).tdiv 2) = (((i - 1) / 2 : Nat) : Int) by rw [Int.tdiv_eq_ediv_of_nonneg (by omega)]; omega, ← hq]
      exact wrap_nat (by omega)
  refine AW.seq fun _ k1 => AW.region [] Θ_ok ?_
  simp [w1]
  refine k1 _ ?_
  refine AW.seq fun _ k1 => ?_
  by_cases hc : i = 0
  · subst hc
    have : q = 0 := by omega
    subst this
    refine AW.seq fun _ k2 => AW.region [] Θ_ok ?_
    simp
    refine k2 _ ?_
    refine AW.cond true (by simp [Int.natCast_inj]) (fun _ => ?_) (fun h => by cases h)
    refine AW.exit ?_
    simp [Try.f122]
    refine Fin.refl ?_
    rw [← hX, upL, if_pos rfl]
  · have hqi : q < i := by omega
    have n1 : ((q : Int) == (i : Int)) = false := by simp; omega
    have n2 : ¬ (q : Int) = (i : Int) := by omega
    refine AW.seq fun _ k2 => AW.regionAt 8 [] Θ_ok fun B hB => ?_
    simp [n1, n2]
    refine ⟨_, _, meth_Less, ?_⟩
    simp [recvA, hs]
    refine (row_Less ho rfl (by omega) (by omega)).mono ?_
    rintro r h' ⟨rfl, rfl⟩
    have hu : upL X i = if lessP (pat X i) (pat X q) = true then upL (swapL X q i) q else X := by rw [upL, if_neg hc, ← hq]
    rw [hX] at hu
    generalize lessP (pat X i) (pat X q) = b at *
    refine hB _ ?_
    clear hB B
    simp [n1, n2]
    refine k2 _ ?_
    cases b
    · refine AW.cond true (by simp [Int.natCast_inj]) (fun _ => ?_) (fun h => by cases h)
      refine AW.exit ?_
      simp [Try.f122]
      refine Fin.refl ?_
      rw [hu]; rfl
    · refine AW.cond false (by simp [Int.natCast_inj]) (fun h => by cases h) (fun _ => ?_)
      refine AW.skip ?_
      simp
      refine k1 _ ?_
      rw [if_pos rfl] at hu
      refine AW.seq fun _ k2 => AW.regionAt 4 [] Θ_ok fun B hB => ?_
      simp
      refine ⟨_, _, meth_Swap, ?_⟩
      simp [recvA, hs]
      refine (row_Swap ho rfl (by omega) (by omega)).mono ?_
      rintro r h' rfl
      refine hB _ ?_
      clear hB B
      simp
      refine k2 _ ?_
      refine AW.region [] Θ_ok ?_
      simp
      exact ⟨swapL X q i, q, ⟨hu.symm, by rw [swap_len]; exact hl, by omega⟩, hqi, GStep.eq (by simp) (subH_of_eq (SH.putT N g who L R X _ (swap_len _ _ _)))⟩

theorem heap_Push {h0 : Heap} {k : SN} (N : SNok h0 k) (g : G) (who : Int) (L R : List Int) (T : List Pr) (p : Pr) (ht : T.length < 1099511627776) :
    AC Try.prog 119 [rowI k, .ifc 122 (prV p)] (SH h0 k g who L R T) fun _ h' => ∃ o', SNok h0 ⟨k.s, k.l, k.r, o', true⟩ ∧ h' = SH h0 ⟨k.s, k.l, k.r, o', true⟩ g who L R (pushL T p) := by
  refine AC.body Θ_ok Try.func119 rfl rfl (Nat.le_of_ble_eq_true rfl) ?_
  refine AW.seq fun _ k1 => AW.regionAt 3 [] Θ_ok fun B hB => ?_
  simp
  refine ⟨_, _, meth_Push, ?_⟩
  simp [recvA]
  refine (row_Push N g who L R T p (by omega)).mono ?_
  rintro r h' ⟨o', N', rfl⟩
  have hs := SH.s N' g who L R (T ++ [p])
  simp only at hs
  refine hB _ ?_
  clear hB B
  simp
  refine k1 _ ?_
  refine AW.regionAt 3 [] Θ_ok fun B hB => ?_
  simp
  refine ⟨_, _, meth_Len, ?_⟩
  simp [recvA, hs]
  refine (row_Len _ _ _).mono ?_
  rintro r h' ⟨rfl, rfl⟩
  have w1 : IntKind.i64.wrap (T.length : Int) = (T.length : Int) := wrap_nat (by omega)
  refine hB _ ?_
  clear hB B
  simp [w1]
  refine (heap_up N' g who L R (T ++ [p]) T.length (by simp) (by simp; omega)).mono ?_
  rintro r h' rfl
  exact Fin.refl ⟨o', N', rfl⟩

theorem row_Pop {h0 : Heap} {k : SN} (N : SNok h0 k) (g : G) (who : Int) (L R : List Int) (T : List Pr) (n : Nat) (hn : T.length = n + 1) (ht : T.length ≤ 1099511627776) :
    AC Try.prog 146 [.ptr k.s 5] (SH h0 k g who L R T) fun r h' => r = .ifc 122 (prV (pat T n)) ∧ h' = SH h0 k g who L R (T.take n) := by
  have hs := SH.s N g who L R T
  have ho := SH.o N g who L R T
  have hl := prF_len T
  have w1 : IntKind.i64.wrap (n : Int) = (n : Int) := wrap_nat (by omega)
  have d1 := prF_drop T n (by omega)
  have hc := SH.cut N g who L R T n (by omega)
  refine AC.body Θ_ok Try.func146 rfl rfl (Nat.le_of_ble_eq_true rfl) ?_
  refine AW.seq fun _ k1 => AW.region [] Θ_ok ?_
  simp
  refine k1 _ ?_
  refine AW.seq fun _ k1 => AW.region [] Θ_ok ?_
  simp [hs, hn, w1]
  refine k1 _ ?_
  refine AW.seq fun _ k1 => AW.region [4] Θ_ok ?_
  simp [hs, ho, hn, d1, newA]
  refine ⟨by omega, fun n4 hn4 => k1 _ ?_⟩
  refine AW.box 4 (o := n4) rfl (upd_same _ _ _) ?_
  simp only [upd_upd, upd_none_id hn4]
  refine AW.seq fun _ k1 => AW.region [] Θ_ok ?_
  simp [hs, hn]
  refine ⟨by omega, k1 _ ?_⟩
  refine AW.seq fun _ kr => AW.region [] Θ_ok ?_
  simp
  refine kr _ (AW.ret ?_)
  simp [Try.f146]
  refine Fin.gv (GV.trunc (o := k.o) (x := obT T k.nn) ?_ (n * 2)) (Fin.refl ⟨rfl, ?_⟩)
  · have hne : k.o ≠ k.s := by
      intro e
      have := N.nd
      rw [e] at this
      simp at this
    rw [upd_ne _ _ hne]; exact ho
  · simp only [obT_cells, obT_ty, obT_sz, obT_nn, prF_take]
    exact hc

theorem heap_down {h0 : Heap} {k : SN} (N : SNok h0 k) (g : G) (who : Int) (L R : List Int) (T : List Pr) (i0 n : Nat) (hi0 : i0 < T.length) (hn : n < T.length) (ht : T.length ≤ 1099511627776) :
    AC Try.prog 120 [rowI k, .int .i64 i0, .int .i64 n] (SH h0 k g who L R T) fun _ h' => h' = SH h0 k g who L R (downL T i0 n) := by
  refine AC.body Θ_ok Try.func120 rfl rfl (Nat.le_of_ble_eq_true rfl) ?_
  refine AW.seq fun _ k1 => AW.region [] Θ_ok ?_
  simp
  refine k1 _ ?_
  refine AW.seq fun _ k1 => AW.region [] Θ_ok ?_
  simp
  refine k1 _ ?_
  refine AW.seq fun _ k1 => ?_
  refine AW.block ?_
  refine AW.loopI (X := List Pr × Nat) (fun x => downL x.1 x.2 n = downL T i0 n ∧ x.1.length = T.length ∧ x.2 < T.length) (fun x => ⟨48, [(0, rowI k), (1, .int .i64 i0), (2, .int .i64 n), (7, .int .i64 x.2)], SH h0 k g who L R x.1⟩) (fun x => n - x.2) (T, i0) ⟨rfl, rfl, hi0⟩ (GStep.eq (by simp) (subH.refl _)) ?_
  rintro ⟨X, i⟩ ⟨hX, hl, hi⟩
  simp only at hX hl hi ⊢
  have hs := SH.s N g who L R X
  have ho := SH.o N g who L R X
  have w1 : IntKind.i64.wrap (2 * (i : Int)) = 2 * (i : Int) := wrap_id (by omega) (by omega)
  have w2 : IntKind.i64.wrap (2 * (i : Int) + 1) = ((2 * i + 1 : Nat) : Int) := by rw [wrap_id (by omega) (by omega)]; omega
  have w3 : IntKind.i64.wrap (((2 * i + 1 : Nat) : Int) + 1) = ((2 * i + 2 : Nat) : Int) := wrap_succ (by omega)
  have hk := kid_bounds X i n
  have hkd : kidL X i n = if 2 * i + 2 < n ∧ lessP (pat X (2 * i + 2)) (pat X (2 * i + 1)) = true then 2 * i + 2 else 2 * i + 1 := rfl
  have hd : downL X i n = if 2 * i + 1 < n then if lessP (pat X (kidL X i n)) (pat X i) = true then downL (swapL X i (kidL X i n)) (kidL X i n) n else X else X := by rw [downL]
  rw [hX] at hd
  obtain ⟨j1, hj1⟩ : ∃ j1, j1 = 2 * i + 1 := ⟨_, rfl⟩
  obtain ⟨j2, hj2⟩ : ∃ j2, j2 = 2 * i + 2 := ⟨_, rfl⟩
  rw [← hj1] at w2 w3 hk hkd hd
  rw [← hj2] at w3 hkd
  refine AW.block ?_
  refine AW.seq fun _ k2 => AW.region [] Θ_ok ?_
  simp [w1, w2]
  refine k2 _ ?_
  refine AW.seq fun _ k2 => ?_
  have n1 : ¬ (j1 : Int) < 0 := by omega
  have n1' : (0 : Int) ≤ (j1 : Int) := by omega
  by_cases hc : j1 < n
  · rw [if_pos hc] at hd
    have n2 : (j1 : Int) < (n : Int) := by omega
    have n2' : ¬ (n : Int) ≤ (j1 : Int) := by omega
    have n2'' : ¬ n ≤ j1 := by omega
    refine AW.seq fun _ k3 => AW.region [] Θ_ok ?_
    simp [n1, n1', n2, n2', n2'', hc]
    refine k3 _ ?_
    refine AW.cond false (by simp [Int.natCast_inj, n1, n1', n2, n2', n2'', hc]) (fun h => by cases h) (fun _ => ?_)
    refine AW.skip ?_
    simp
    refine k2 _ ?_
    refine AW.seq fun _ k2 => AW.region [] Θ_ok ?_
    simp
    refine k2 _ ?_
    obtain ⟨c, hcd⟩ : ∃ c, c = kidL X i n := ⟨_, rfl⟩
    rw [← hcd] at hk hkd hd
    refine AW.seqTo ⟨48, [(0, rowI k), (1, .int .i64 i0), (2, .int .i64 n), (7, .int .i64 i), (9, .int .i64 c)], SH h0 k g who L R X⟩ (fun _ k3 => ?_) ?_
    · refine AW.seq fun _ k2 => AW.region [] Θ_ok ?_
      simp [w3]
      refine k2 _ ?_
      by_cases hc2 : j2 < n
      · have n3 : (j2 : Int) < (n : Int) := by omega
        have hb : (j2 < n ∧ lessP (pat X j2) (pat X j1) = true) ↔ lessP (pat X j2) (pat X j1) = true := ⟨fun h => h.2, fun h => ⟨hc2, h⟩⟩
        refine AW.seq fun _ k4 => AW.regionAt 8 [] Θ_ok fun B hB => ?_
        simp [n3, hc2]
        refine ⟨_, _, meth_Less, ?_⟩
        simp [recvA, hs]
        refine (row_Less ho rfl (by omega) (by omega)).mono ?_
        rintro r h' ⟨rfl, rfl⟩
        simp only [hb] at hkd
        generalize lessP (pat X j2) (pat X j1) = b at *
        refine hB _ ?_
        clear hB B
        simp [n3, hc2]
        refine k4 _ ?_
        cases b
        · simp at hkd
          refine AW.cond false (by simp [Int.natCast_inj]) (fun h => by cases h) (fun _ => ?_)
          refine AW.skip ?_
          simp
          exact k3 _ (GStep.eq (by simp [hkd]) (subH.refl _))
        · simp at hkd
          refine AW.cond true (by simp [Int.natCast_inj]) (fun _ => ?_) (fun h => by cases h)
          refine AW.region [] Θ_ok ?_
          simp
          exact k3 _ (GStep.eq (by simp [hkd]) (subH.refl _))
      · have n3 : ¬ (j2 : Int) < (n : Int) := by omega
        rw [if_neg (fun h => hc2 h.1)] at hkd
        refine AW.seq fun _ k4 => AW.region [] Θ_ok ?_
        simp [n3, hc2]
        refine k4 _ ?_
        refine AW.cond false (by simp [Int.natCast_inj]) (fun h => by cases h) (fun _ => ?_)
        refine AW.skip ?_
        simp
        exact k3 _ (GStep.eq (by simp [hkd]) (subH.refl _))
    · refine AW.seq fun _ k2 => ?_
      refine AW.seq fun _ k3 => AW.regionAt 4 [] Θ_ok fun B hB => ?_
      simp
      refine ⟨_, _, meth_Less, ?_⟩
      simp [recvA, hs]
      refine (row_Less ho rfl (by omega) (by omega)).mono ?_
      rintro r h' ⟨rfl, rfl⟩
      generalize lessP (pat X c) (pat X i) = b at *
      refine hB _ ?_
      clear hB B
      simp
      refine k3 _ ?_
      cases b
      · refine AW.cond true (by simp [Int.natCast_inj]) (fun _ => ?_) (fun h => by cases h)
        refine AW.exit ?_
        simp
        refine k1 _ ?_
        refine AW.seq fun _ kr => AW.region [] Θ_ok ?_
        simp
        refine kr _ (AW.ret ?_)
        simp [Try.f120]
        exact Fin.refl (by rw [hd]; rfl)
      · rw [if_pos rfl] at hd
        refine AW.cond false (by simp [Int.natCast_inj]) (fun h => by cases h) (fun _ => ?_)
        refine AW.skip ?_
        simp
        refine k2 _ ?_
        refine AW.seq fun _ k2 => AW.regionAt 4 [] Θ_ok fun B hB => ?_
        simp
        refine ⟨_, _, meth_Swap, ?_⟩
        simp [recvA, hs]
        refine (row_Swap ho rfl (by omega) (by omega)).mono ?_
        rintro r h' rfl
        refine hB _ ?_
        clear hB B
        simp
        refine k2 _ ?_
        refine AW.region [] Θ_ok ?_
        simp
        exact ⟨swapL X i c, c, ⟨hd.symm, by rw [swap_len]; exact hl, by omega⟩, by omega, GStep.eq (by simp) (subH_of_eq (SH.putT N g who L R X _ (swap_len _ _ _)))⟩
  · rw [if_neg hc] at hd
    have n2 : ¬ (j1 : Int) < (n : Int) := by omega
    have n2' : (n : Int) ≤ (j1 : Int) := by omega
    have n2'' : n ≤ j1 := by omega
    refine AW.seq fun _ k3 => AW.region [] Θ_ok ?_
    simp [n1, n1', n2, n2', n2'', hc]
    refine k3 _ ?_
    refine AW.cond true (by simp [Int.natCast_inj, n1, n1', n2, n2', n2'', hc]) (fun _ => ?_) (fun h => by cases h)
    refine AW.exit ?_
    simp
    refine k1 _ ?_
    refine AW.seq fun _ kr => AW.region [] Θ_ok ?_
    simp
    refine kr _ (AW.ret ?_)
    simp [Try.f120]
    exact Fin.refl (by rw [hd])

theorem heap_Pop {h0 : Heap} {k : SN} (N : SNok h0 k) (g : G) (who : Int) (L R : List Int) (T : List Pr) (hn : 0 < T.length) (ht : T.length ≤ 1099511627776) :
    AC Try.prog 106 [rowI k] (SH h0 k g who L R T) fun r h' => r = .ifc 122 (prV (popV T)) ∧ h' = SH h0 k g who L R (popL T) := by
  obtain ⟨n, hn1⟩ : ∃ n, T.length = n + 1 := ⟨T.length - 1, by omega⟩
  have hs := SH.s N g who L R T
  have ho := SH.o N g who L R T
  have w1 : IntKind.i64.wrap (n : Int) = (n : Int) := wrap_nat (by omega)
  have e1 : popV T = pat (downL (swapL T 0 n) 0 n) n := by rw [popV, hn1]; rfl
  have e2 : popL T = (downL (swapL T 0 n) 0 n).take n := by rw [popL, hn1]; rfl
  have hl1 : (swapL T 0 n).length = n + 1 := by rw [swap_len, hn1]
  have hl2 : (downL (swapL T 0 n) 0 n).length = n + 1 := by rw [downL_len n _ _ _ rfl, hl1]
  refine AC.body Θ_ok Try.func106 rfl rfl (Nat.le_of_ble_eq_true rfl) ?_
  refine AW.seq fun _ k1 => AW.region [] Θ_ok ?_
  simp
  refine k1 _ ?_
  refine AW.seq fun _ k1 => AW.regionAt 2 [] Θ_ok fun B hB => ?_
  simp
  refine ⟨_, _, meth_Len, ?_⟩
  simp [recvA, hs]
  refine (row_Len _ _ _).mono ?_
  rintro r h' ⟨rfl, rfl⟩
  refine hB _ ?_
  clear hB B
  simp [hn1, w1]
  refine k1 _ ?_
  refine AW.seq fun _ k1 => AW.regionAt 3 [] Θ_ok fun B hB => ?_
  simp
  refine ⟨_, _, meth_Swap, ?_⟩
  simp [recvA, hs]
  refine (row_Swap (i := 0) (j := n) ho rfl (by omega) (by omega)).mono ?_
  rintro r h' rfl
  rw [SH.putT N g who L R T _ (swap_len _ _ _)]
  refine hB _ ?_
  clear hB B
  simp
  refine k1 _ ?_
  refine AW.seq fun _ k1 => AW.region [] Θ_ok ?_
  simp
  refine (heap_down N g who L R (swapL T 0 n) 0 n (by omega) (by omega) (by omega)).mono ?_
  rintro r h' rfl
  refine k1 _ ?_
  refine AW.seq fun _ k1 => AW.regionAt 2 [] Θ_ok fun B hB => ?_
  simp
  refine ⟨_, _, meth_Pop, ?_⟩
  simp [recvA]
  refine (row_Pop N g who L R _ n hl2 (by omega)).mono ?_
  rintro r h' ⟨rfl, rfl⟩
  refine hB _ ?_
  clear hB B
  simp
  refine k1 _ (AW.ret ?_)
  simp [Try.f106]
  exact Fin.refl ⟨by rw [e1], by rw [e2]⟩
end Go.Par

set_option linter.unusedSimpArgs false
set_option linter.unusedVariables false
set_option maxRecDepth 8000
namespace Go.Par
open Go.Proofs

theorem map_drop_int (R : List Int) {v : Nat} (h : v < R.length) : (R.map (AV.int .i64)).drop v = .int .i64 R[v] :: (R.map (AV.int .i64)).drop (v + 1) := by
  rw [List.drop_eq_getElem_cons (show v < (R.map (AV.int .i64)).length by simpa using h)]; simp
theorem map_set_int (R : List Int) (v : Nat) (x : Int) : (R.map (AV.int .i64)).set v (.int .i64 x) = (R.set v x).map (AV.int .i64) := by rw [List.map_set]
theorem obI_mk (R : List Int) : (⟨R.map (.int .i64), 3, 1, true⟩ : Ob) = obI R := rfl

theorem at_gives {h0 : Heap} {k : SN} (N : SNok h0 k) (g : G) (who : Int) (L R : List Int) (T : List Pr) (v rank : Nat) (hR : R.length = g.owner.length) (hv : v < R.length) (ht : T.length < 1099511627776) :
    AC Try.prog 104 [.ptr k.s 0, .int .i64 v, .int .i64 rank] (SH h0 k g who L R T) fun _ h' => if R[v] < 0 then ∃ o', SNok h0 ⟨k.s, k.l, k.r, o', true⟩ ∧ h' = SH h0 ⟨k.s, k.l, k.r, o', true⟩ g who L (R.set v rank) (pushL T (v, rank)) else h' = SH h0 k g who L R T := by
  have hs := SH.s N g who L R T
  have hr := SH.r N g who L R T
  have dr := map_drop_int R hv
  have hv' : v < g.owner.length := by omega
  have hs2 := map_set_int R v rank
  refine AC.body Θ_ok Try.func104 rfl rfl (Nat.le_of_ble_eq_true rfl) ?_
  refine AW.seq fun _ k1 => AW.region [] Θ_ok ?_
  simp [hs, hr, dr, hv']
  refine k1 _ ?_
  by_cases hc : R[v] < 0
  · have p1 := SH.putR N g who L R T (R.set v rank)
    have hs3 := SH.s N g who L (R.set v rank) T
    simp only [if_pos hc]
    generalize R.set v (rank : Int) = R' at *
    refine AW.cond true (by simp [Int.natCast_inj, hc]) (fun _ => ?_) (fun h => by cases h)
    refine AW.seq fun _ k1 => AW.region [] Θ_ok ?_
    simp [hs, hr, dr, hv', hs2, obI_mk]
    refine ⟨by omega, k1 _ ?_⟩
    rw [p1]
    refine AW.regionAt 9 [] Θ_ok fun B hB => ?_
    simp [hs3]
    refine (heap_Push N g who L R' T (v, rank) ht).mono ?_
    rintro r h' ⟨o', N', rfl⟩
    refine hB _ ?_
    clear hB B
    simp
    exact Fin.refl ⟨o', N', rfl⟩
  · refine AW.cond false (by simp [Int.natCast_inj, hc, Int.not_lt.1 hc]) (fun h => by cases h) (fun _ => ?_)
    refine AW.skip ?_
    simp [Try.f104]
    exact Fin.refl (by rw [if_neg hc])

theorem at_forced {h0 : Heap} {k : SN} (N : SNok h0 k) (g : G) (who : Int) (L R : List Int) (T : List Pr) (v : Nat) (x y w : Int) (hL : L.length = g.owner.length) (hv : v < L.length) (hxv : L[v] = x) (hy : x - 1 = y) (hw : g.owner[v]? = some w) (hx : 0 < x) (hx2 : x < 9223372036854775808) :
    AC Try.prog 107 [.ptr k.s 0, .int .i64 v] (SH h0 k g who L R T) fun r h' => r = .bool (decide (w = who) || decide (y = 0)) ∧ h' = SH h0 k g who (L.set v y) R T := by
  have hs := SH.s N g who L R T
  have hl := SH.l N g who L R T
  have dr := map_drop_int L hv
  rw [hxv] at dr
  have hv' : v < g.owner.length := by omega
  have hgw : g.owner[v] = w := by
    rw [List.getElem?_eq_getElem hv'] at hw; exact Option.some.inj hw
  have w1 : IntKind.i64.wrap (x - 1) = y := by rw [← hy]; exact wrap_id (by omega) (by omega)
  have hs2 := map_set_int L v y
  have p1 := SH.putL N g who L R T (L.set v y)
  have hs3 := SH.s N g who (L.set v y) R T
  have hl3 := SH.l N g who (L.set v y) R T
  have dr3 := map_drop_int (L.set v y) (v := v) (by simpa using hv)
  simp only [List.getElem_set_self] at dr3
  have hL3 : (L.set v y).length = L.length := by simp
  clear hxv hw
  generalize L.set v y = L' at *
  refine AC.body Θ_ok Try.func107 rfl rfl (Nat.le_of_ble_eq_true rfl) ?_
  refine AW.seq fun _ k1 => AW.region [] Θ_ok ?_
  simp
  refine k1 _ ?_
  refine AW.seq fun _ k1 => AW.region [] Θ_ok ?_
  simp [hs, hl, dr, hv', w1, hs2, obI_mk]
  refine ⟨by omega, k1 _ ?_⟩
  rw [p1]
  refine AW.seq fun _ kr => AW.draw [] 24 [] Θ_ok mixed (by kernel_rfl) (by kernel_rfl) ?_
  refine vcDraw_split 14 fun B hB => ?_
  simp [vcPre, vcTail, callA, isAlloc, isLoad, effOp, obl, obA, mkOK, valA, hs3, hl3, hv', hgw]
  by_cases e : w = who
  · have e1 : (w == who) = true := by simp [e]
    refine hB _ _ _ ?_
    clear hB B
    simp [vcPre, vcTail, callA, isAlloc, isLoad, effOp, obl, obA, mkOK, valA, hs3, hl3, hv', e1]
    refine kr _ (AW.ret ?_)
    simp [Try.f107]
    exact Fin.refl ⟨by simp [e], rfl⟩
  · have e1 : (w == who) = false := by simp [e]
    refine hB _ _ _ ?_
    clear hB B
    simp [vcPre, vcTail, callA, isAlloc, isLoad, effOp, obl, obA, mkOK, valA, hs3, hl3, hv', e1, dr3]
    refine kr _ (AW.ret ?_)
    simp [Try.f107]
    refine Fin.refl ⟨?_, rfl⟩
    simp [e]
    by_cases q : y = 0 <;> simp [q]
end Go.Par

set_option linter.unusedSimpArgs false
set_option linter.unusedVariables false
namespace Go.Par

abbrev nx (g : G) (v : Nat) : List Int := g.next.getD v []
abbrev ow (g : G) (v : Nat) : Int := g.owner.getD v 0
def lev (g : G) (who : Int) (a : List Bool) : Nat → List Bool
  | 0 => tab g.owner.length (hasN a)
  | k + 1 => orL g (lev g who a k) (forceL g who (lev g who a k))
def lv (g : G) (who : Int) (a : List Bool) (k v : Nat) : Prop := hasN (lev g who a k) v = true
def atR (g : G) (who : Int) (a : List Bool) (v k : Nat) : Prop := lv g who a k v ∧ ∀ j, j < k → ¬ lv g who a j v

section
variable {g : G} {who : Int} {a : List Bool} {v k : Nat}
theorem lev_len : ∀ k, (lev g who a k).length = g.owner.length
  | 0 => length_tab _ _
  | k + 1 => len_or _ _ _
theorem lv_lt (h : lv g who a k v) : v < g.owner.length := by
  unfold lv hasN at h
  rcases Nat.lt_or_ge v (lev g who a k).length with q | q
  · rwa [lev_len] at q
  · simp [q] at h
theorem lv_zero (hv : v < g.owner.length) : lv g who a 0 v ↔ hasN a v = true := by
  unfold lv lev
  simp [hasN, getElem?_tab, hv]
theorem lv_succ (hv : v < g.owner.length) : lv g who a (k + 1) v ↔ lv g who a k v ∨ forceP g who (lev g who a k) v = true := by
  unfold lv
  rw [lev, has_or hv, has_force hv, Bool.or_eq_true]
theorem lv_mono {j : Nat} (h : lv g who a j v) : ∀ {k}, j ≤ k → lv g who a k v := by
  intro k hk
  induction hk with
  | refl => exact h
  | step _ ih => exact (lv_succ (lv_lt h)).2 (.inl ih)
theorem atR_le {j : Nat} (h : atR g who a v k) (q : lv g who a j v) : k ≤ j := by
  rcases Nat.lt_or_ge j k with l | l
  · exact absurd q (h.2 j l)
  · exact l
theorem atR_uniq {j : Nat} (h : atR g who a v k) (q : atR g who a v j) : k = j := Nat.le_antisymm (atR_le h q.1) (atR_le q h.1)
theorem lv_at : ∀ {k}, lv g who a k v → ∃ j, j ≤ k ∧ atR g who a v j
  | k, h => by
    induction k using Nat.strongRecOn with
    | ind k ih =>
      by_cases q : ∃ j, j < k ∧ lv g who a j v
      · obtain ⟨j, h1, h2⟩ := q
        obtain ⟨i, h3, h4⟩ := ih j h1 h2
        exact ⟨i, by omega, h4⟩
      · exact ⟨k, Nat.le_refl _, h, fun j hj hl => q ⟨j, hj, hl⟩⟩

theorem nx_ok (hm : mayE g = 0) (hv : v < g.owner.length) : (nx g v).Pairwise (· < ·) ∧ ∀ w ∈ nx g v, 0 ≤ w ∧ w < g.owner.length := by
  have h2 := (may_ok hm).2.1
  have hv' : v < g.next.length := by omega
  have := rise_iff.1 (may_rise hm hv')
  simp only [nx, List.getD_eq_getElem?_getD, List.getElem?_eq_getElem hv', Option.getD_some]
  exact ⟨this.2, fun w hw => ⟨by have := (this.1 w hw).1; omega, (this.1 w hw).2⟩⟩
theorem ow_ok (hm : mayE g = 0) (hv : v < g.owner.length) : ow g v = 0 ∨ ow g v = 1 := by
  have := (may_ok hm).2.2 v hv
  simp only [okV, Bool.and_eq_true, Bool.or_eq_true, beq_iff_eq] at this
  exact this.1
theorem force_iff {s : List Bool} : forceP g who s v = true ↔ (ow g v = who ∧ ∃ w ∈ nx g v, hasN s w.toNat = true) ∨ (ow g v ≠ who ∧ ∀ w ∈ nx g v, hasN s w.toNat = true) := by
  unfold forceP
  by_cases e : g.owner.getD v 0 = who
  · rw [if_pos e, List.any_eq_true]
    exact ⟨fun h => .inl ⟨e, h⟩, fun h => by
      rcases h with ⟨_, h⟩ | ⟨h, _⟩
      · exact h
      · exact absurd e h⟩
  · rw [if_neg e, List.all_eq_true]
    exact ⟨fun h => .inr ⟨e, h⟩, fun h => by
      rcases h with ⟨h, _⟩ | ⟨_, h⟩
      · exact absurd h e
      · exact h⟩
end

/-- While ranks are found: 'Dn v w': the way from v to w was seen; 'P': who was taken; 'c': of what rank is who is at hand, 'a'. -/
structure Inv (g : G) (who : Int) (s : List Bool) (Dn : Nat → Nat → Bool) (P : Nat → Bool) (c a : Nat) (L R : List Int) (T : List Pr) : Prop where
  lenL : L.length = g.owner.length
  lenR : R.length = g.owner.length
  heap : heapL T
  nd : T.Nodup
  l : ∀ v, v < g.owner.length → L.getD v 0 = ((nx g v).countP (fun w => !Dn v w.toNat) : Nat)
  t : ∀ p, p ∈ T ↔ p.1 < g.owner.length ∧ R.getD p.1 0 = p.2 ∧ P p.1 = false
  r : ∀ v, v < g.owner.length → ∀ k : Nat, R.getD v 0 = k → atR g who s v k
  neg : ∀ v, v < g.owner.length → R.getD v 0 < 0 → R.getD v 0 = -1
  p : ∀ v, v < g.owner.length → P v = true → 0 ≤ R.getD v 0 ∧ R.getD v 0 ≤ c
  m : ∀ p ∈ T, c ≤ p.2
  d : ∀ v w, w < g.owner.length → Dn v w = true → P w = true
  f : ∀ w, w < g.owner.length → P w = true → w ≠ a → ∀ u, Dn u w = true
  at_ : a < g.owner.length → R.getD a 0 = c

/-- What is not told yet is not to be told yet. -/
def Und (g : G) (who : Int) (s : List Bool) (Dn : Nat → Nat → Bool) (R : List Int) : Prop :=
  ∀ v, v < g.owner.length → R.getD v 0 < 0 → hasN s v = false ∧ (ow g v = who → ∀ w ∈ nx g v, Dn v w.toNat = false) ∧ (ow g v ≠ who → ∃ w ∈ nx g v, Dn v w.toNat = false)

section
variable {g : G} {who : Int} {s : List Bool} {Dn : Nat → Nat → Bool} {P : Nat → Bool} {c a : Nat} {L R : List Int} {T : List Pr}

theorem getD_set {α : Type} {l : List α} {i j : Nat} {x d : α} (h : i < l.length) : (l.set i x).getD j d = if i = j then x else l.getD j d := by
  by_cases e : i = j
  · subst e; simp [h]
  · simp [e, List.getElem?_set_ne e]

/-- Who is below the rank at hand was taken, and all its ways were seen. -/
theorem Inv.below (hm : mayE g = 0) (I : Inv g who s Dn P c a L R T) (U : Und g who s Dn R) : ∀ (j w : Nat), w < g.owner.length → lv g who s j w → (j < c ∨ T = [] ∧ ∀ u, Dn u a = true) → 0 ≤ R.getD w 0 ∧ P w = true ∧ ∀ u, Dn u w = true := by
  intro j
  induction j using Nat.strongRecOn with
  | ind j ih =>
    intro w hw hl hj
    have hR : 0 ≤ R.getD w 0 := by
      rcases Int.lt_or_le (R.getD w 0) 0 with q | q
      · exfalso
        obtain ⟨u1, u2, u3⟩ := U w hw q
        have hjk : ∀ k, k ≤ j → ¬ lv g who s k w := by
          intro k
          induction k with
          | zero => intro _ h; rw [lv_zero hw, u1] at h; cases h
          | succ k ihk =>
            intro hk h
            rcases (lv_succ hw).1 h with h | h
            · exact ihk (by omega) h
            · have hb : ∀ x ∈ nx g w, hasN (lev g who s k) x.toNat = true → Dn w x.toNat = true := fun x hx hq => by
                obtain ⟨x0, x1⟩ := (nx_ok hm hw).2 x hx
                exact (ih k (by omega) x.toNat (by omega) hq (by rcases hj with hj | hj; exact .inl (by omega); exact .inr hj)).2.2 w
              rcases force_iff.1 h with ⟨h1, x, hx, hq⟩ | ⟨h1, h2⟩
              · have := hb x hx hq
                rw [u2 h1 x hx] at this
                cases this
              · obtain ⟨x, hx, hq⟩ := u3 h1
                rw [hb x hx (h2 x hx)] at hq
                cases hq
        exact hjk j (Nat.le_refl _) hl
      · exact q
    obtain ⟨k, hk⟩ : ∃ k : Nat, R.getD w 0 = k := ⟨(R.getD w 0).toNat, by omega⟩
    have hkj := atR_le (I.r w hw k hk) hl
    have hP : P w = true := by
      cases q : P w with
      | true => rfl
      | false =>
        have := (I.t (w, k)).2 ⟨hw, hk, q⟩
        rcases hj with hj | hj
        · have := I.m _ this; simp only at this; omega
        · rw [hj.1] at this; cases this
    refine ⟨hR, hP, ?_⟩
    by_cases e : w = a
    · subst e
      rcases hj with hj | hj
      · have := I.at_ hw; omega
      · exact hj.2
    · exact I.f w hw hP e

/-- A rank given. -/
theorem Inv.give (I : Inv g who s Dn P c a L R T) {v k : Nat} (hv : v < g.owner.length) (h : R.getD v 0 < 0) (hc : c ≤ k) (hk : atR g who s v k) : Inv g who s Dn P c a L (R.set v k) (pushL T (v, k)) := by
  have hl : v < R.length := by rw [I.lenR]; exact hv
  have hP : P v = false := by
    cases q : P v with
    | false => rfl
    | true => have := (I.p v hv q).1; omega
  obtain ⟨g1, g2⟩ := heap_push I.heap (v, k)
  have gs : ∀ u, (R.set v (k : Int)).getD u 0 = if v = u then (k : Int) else R.getD u 0 := fun u => getD_set hl
  have hnew : (v, k) ∉ T := fun q => by have := ((I.t _).1 q).2.1; simp only at this; omega
  refine ⟨I.lenL, by simp [I.lenR], g1, ?_, I.l, ?_, ?_, ?_, ?_, ?_, I.d, I.f, ?_⟩
  · exact g2.nodup_iff.2 (List.nodup_cons.2 ⟨hnew, I.nd⟩)
  · intro p
    rw [g2.mem_iff, List.mem_cons, I.t, gs]
    by_cases e : v = p.1
    · rw [if_pos e]
      constructor
      · rintro (rfl | ⟨q1, q2, q3⟩)
        · exact ⟨hv, rfl, hP⟩
        · rw [← e] at q2; omega
      · rintro ⟨q1, q2, q3⟩
        exact .inl (Prod.ext e.symm (by omega))
    · rw [if_neg e]
      constructor
      · rintro (rfl | q)
        · exact absurd rfl e
        · exact q
      · exact .inr
  · intro u hu j hj
    rw [gs] at hj
    by_cases e : v = u
    · subst e
      rw [if_pos rfl] at hj
      rw [show j = k by omega]; exact hk
    · rw [if_neg e] at hj
      exact I.r u hu j hj
  · intro u hu hq
    rw [gs] at hq ⊢
    by_cases e : v = u
    · rw [if_pos e] at hq; omega
    · rw [if_neg e] at hq ⊢; exact I.neg u hu hq
  · intro u hu hq
    rw [gs]
    by_cases e : v = u
    · subst e; rw [hP] at hq; cases hq
    · rw [if_neg e]; exact I.p u hu hq
  · intro p hp
    rcases List.mem_cons.1 (g2.mem_iff.1 hp) with rfl | q
    · exact hc
    · exact I.m p q
  · intro ha
    rw [gs]
    by_cases e : v = a
    · subst e
      have := I.at_ ha; omega
    · rw [if_neg e]; exact I.at_ ha

theorem Und.give (U : Und g who s Dn R) {v k : Nat} (hl : v < R.length) : Und g who s Dn (R.set v (k : Int)) := by
  intro u hu hq
  rw [getD_set hl] at hq
  by_cases e : v = u
  · rw [if_pos e] at hq; omega
  · rw [if_neg e] at hq; exact U u hu hq

/-- One is taken. -/
theorem Inv.pop (I : Inv g who s Dn P c a L R T) (hf : ∀ w, w < g.owner.length → P w = true → ∀ u, Dn u w = true) (hT : 0 < T.length) :
    (popV T).1 < g.owner.length ∧ P (popV T).1 = false ∧ c ≤ (popV T).2 ∧ atR g who s (popV T).1 (popV T).2 ∧ Inv g who s Dn (fun w => P w || w == (popV T).1) (popV T).2 (popV T).1 L R (popL T) := by
  obtain ⟨g1, g2, g3⟩ := heap_pop I.heap hT
  have hin : popV T ∈ T := g2.mem_iff.2 (by simp)
  obtain ⟨h1, h2, h3⟩ := (I.t _).1 hin
  have hnd := g2.nodup_iff.1 I.nd
  obtain ⟨n1, n2⟩ := List.nodup_cons.1 hnd
  generalize popV T = o at *
  have hc := I.m o hin
  refine ⟨h1, h3, hc, I.r _ h1 _ h2, I.lenL, I.lenR, g1, n2, I.l, ?_, I.r, I.neg, ?_, ?_, ?_, ?_, fun _ => h2⟩
  · intro p
    have : p ∈ popL T ↔ p ∈ T ∧ p ≠ o := by
      rw [g2.mem_iff, List.mem_cons]
      constructor
      · intro q; exact ⟨.inr q, fun e => n1 (e ▸ q)⟩
      · rintro ⟨q | q, e⟩
        · exact absurd q e
        · exact q
    rw [this, I.t]
    simp only [Bool.or_eq_false_iff, beq_eq_false_iff_ne, ne_eq]
    constructor
    · rintro ⟨⟨q1, q2, q3⟩, e⟩
      refine ⟨q1, q2, q3, fun e2 => e (Prod.ext e2 ?_)⟩
      rw [e2] at q2; omega
    · rintro ⟨q1, q2, q3, e⟩
      exact ⟨⟨q1, q2, q3⟩, fun e2 => e (by rw [e2])⟩
  · intro v hv hq
    simp only [Bool.or_eq_true, beq_iff_eq] at hq
    rcases hq with hq | rfl
    · have := I.p v hv hq
      omega
    · omega
  · intro p hp
    have := g3 p (g2.mem_iff.2 (by simp [hp]))
    rw [nless_iff] at this; omega
  · intro v w hw hq
    simp [I.d v w hw hq]
  · intro w hw hq e u
    simp only [Bool.or_eq_true, beq_iff_eq] at hq
    rcases hq with hq | hq
    · exact hf w hw hq u
    · exact absurd hq e

theorem countP_but {l : List Int} {p q : Int → Bool} {x : Int} (hn : l.Nodup) (hx : x ∈ l) (h1 : p x = true) (h2 : q x = false) (h : ∀ y ∈ l, y ≠ x → q y = p y) : l.countP p = l.countP q + 1 := by
  induction l with
  | nil => cases hx
  | cons y l ih =>
    obtain ⟨n1, n2⟩ := List.nodup_cons.1 hn
    rw [List.countP_cons, List.countP_cons]
    rcases List.mem_cons.1 hx with rfl | hx'
    · have : l.countP p = l.countP q := List.countP_congr fun y hy => by
        rw [h y (by simp [hy]) (fun e => n1 (e ▸ hy))]
      simp [h1, h2, this]
    · have e1 : y ≠ x := fun e => n1 (e ▸ hx')
      rw [ih n2 hx' (fun z hz => h z (by simp [hz])), h y (by simp) e1]
      omega

/-- A way is seen. -/
theorem Inv.see (hm : mayE g = 0) (I : Inv g who s Dn P c a L R T) {v : Nat} (hv : v < g.owner.length) (ha : a < g.owner.length) (hPa : P a = true) (hx : (a : Int) ∈ nx g v) (hd : Dn v a = false) :
    0 < L.getD v 0 ∧ L.getD v 0 ≤ 3000 ∧ Inv g who s (fun u w => Dn u w || u == v && w == a) P c a (L.set v (L.getD v 0 - 1)) R T := by
  obtain ⟨h1, h2⟩ := nx_ok hm hv
  have hn3 := (may_ok hm).1
  have hnd : (nx g v).Nodup := h1.imp (fun {x y} h => by omega)
  have hc := countP_but (p := fun w : Int => !Dn v w.toNat) (q := fun w : Int => !(Dn v w.toNat || v == v && w.toNat == a)) hnd hx (by simp [hd]) (by simp) (by
    intro y hy e
    have := h2 y hy
    have : ¬ y.toNat = a := by omega
    simp [this])
  have hl := I.l v hv
  have hlen : (nx g v).countP (fun w => !Dn v w.toNat) ≤ 3000 := by
    refine Nat.le_trans List.countP_le_length ?_
    have h2' := (may_ok hm).2.1
    have := rise_len (may_rise hm (show v < g.next.length by omega))
    have e : nx g v = g.next[v]'(by omega) := by simp [nx, show v < g.next.length by omega]
    rw [e]
    rcases this with q | q
    · rw [q]; simp
    · omega
  refine ⟨by omega, by omega, by simp [I.lenL], I.lenR, I.heap, I.nd, ?_, I.t, I.r, I.neg, I.p, I.m, ?_, ?_, I.at_⟩
  · intro u hu
    rw [getD_set (by rw [I.lenL]; exact hv)]
    by_cases e : v = u
    · subst e
      rw [if_pos rfl, hl]
      omega
    · rw [if_neg e, I.l u hu]
      have : ∀ w : Int, (Dn u w.toNat || u == v && w.toNat == a) = Dn u w.toNat := fun w => by simp [Ne.symm e]
      simp only [this]
  · intro u w hw hq
    simp only [Bool.or_eq_true, Bool.and_eq_true, beq_iff_eq] at hq
    rcases hq with hq | ⟨_, rfl⟩
    · exact I.d u w hw hq
    · exact hPa
  · intro w hw hq e u
    simp [I.f w hw hq e u]

/-- The rank of who is seen to be forced. -/
theorem Inv.rank (hm : mayE g = 0) (I : Inv g who s Dn P c a L R T) (U : Und g who s Dn R) {v : Nat} (hv : v < g.owner.length) (ha : a < g.owner.length) (hx : (a : Int) ∈ nx g v) (hR : R.getD v 0 < 0)
    (hc : ow g v = who ∨ ∀ w ∈ nx g v, w ≠ (a : Int) → Dn v w.toNat = true) : atR g who s v (c + 1) := by
  have haR := (I.r a ha c (I.at_ ha)).1
  obtain ⟨u1, u2, u3⟩ := U v hv hR
  refine ⟨(lv_succ hv).2 (.inr (force_iff.2 ?_)), ?_⟩
  · by_cases e : ow g v = who
    · exact .inl ⟨e, a, hx, haR⟩
    · refine .inr ⟨e, fun w hw => ?_⟩
      rcases hc with hc | hc
      · exact absurd hc e
      · by_cases e2 : w = (a : Int)
        · subst e2; exact haR
        · obtain ⟨w0, w1⟩ := (nx_ok hm hv).2 w hw
          have hP := I.d v w.toNat (by omega) (hc w hw e2)
          obtain ⟨p1, p2⟩ := I.p w.toNat (by omega) hP
          obtain ⟨k, hk⟩ : ∃ k : Nat, R.getD w.toNat 0 = k := ⟨(R.getD w.toNat 0).toNat, by omega⟩
          exact lv_mono (I.r w.toNat (by omega) k hk).1 (by omega)
  · have hjk : ∀ k, k ≤ c → ¬ lv g who s k v := by
      intro k
      induction k with
      | zero => intro _ h; rw [lv_zero hv, u1] at h; cases h
      | succ k ihk =>
        intro hk h
        rcases (lv_succ hv).1 h with h | h
        · exact ihk (by omega) h
        · have hb : ∀ x ∈ nx g v, hasN (lev g who s k) x.toNat = true → Dn v x.toNat = true := fun x hx hq => by
            obtain ⟨x0, x1⟩ := (nx_ok hm hv).2 x hx
            exact (I.below hm U k x.toNat (by omega) hq (.inl (by omega))).2.2 v
          rcases force_iff.1 h with ⟨h1, x, hx, hq⟩ | ⟨h1, h2⟩
          · have := hb x hx hq
            rw [u2 h1 x hx] at this
            cases this
          · obtain ⟨x, hx, hq⟩ := u3 h1
            rw [hb x hx (h2 x hx)] at hq
            cases hq
    exact fun j hj => hjk j (by omega)

/-- All ways to who was taken were seen. -/
theorem Inv.done (I : Inv g who s Dn P c a L R T) (hm : mayE g = 0) (hall : ∀ v, v < g.owner.length → (a : Int) ∈ nx g v → Dn v a = true) : Inv g who s (fun _ w => P w) P c a L R T := by
  refine ⟨I.lenL, I.lenR, I.heap, I.nd, ?_, I.t, I.r, I.neg, I.p, I.m, fun _ _ _ h => h, fun _ _ h _ _ => h, I.at_⟩
  intro v hv
  rw [I.l v hv]
  congr 1
  refine List.countP_congr fun w hw => ?_
  obtain ⟨w0, w1⟩ := (nx_ok hm hv).2 w hw
  have : Dn v w.toNat = P w.toNat := by
    cases q : P w.toNat with
    | true =>
      by_cases e : w.toNat = a
      · subst e; exact hall v hv (by rwa [Int.toNat_of_nonneg w0])
      · exact I.f _ (by omega) q e v
    | false =>
      cases q2 : Dn v w.toNat with
      | false => rfl
      | true => rw [I.d v _ (by omega) q2] at q; cases q
  rw [this]
theorem Und.done (I : Inv g who s Dn P c a L R T) (U : Und g who s Dn R) (hm : mayE g = 0) (hall : ∀ v, v < g.owner.length → (a : Int) ∈ nx g v → Dn v a = true) : Und g who s (fun _ w => P w) R := by
  have key : ∀ v, v < g.owner.length → ∀ w ∈ nx g v, Dn v w.toNat = P w.toNat := by
    intro v hv w hw
    obtain ⟨w0, w1⟩ := (nx_ok hm hv).2 w hw
    cases q : P w.toNat with
    | true =>
      by_cases e : w.toNat = a
      · subst e; exact hall v hv (by rwa [Int.toNat_of_nonneg w0])
      · exact I.f _ (by omega) q e v
    | false =>
      cases q2 : Dn v w.toNat with
      | false => rfl
      | true => rw [I.d v _ (by omega) q2] at q; cases q
  intro v hv hq
  obtain ⟨u1, u2, u3⟩ := U v hv hq
  refine ⟨u1, fun e w hw => by show P w.toNat = false; rw [← key v hv w hw]; exact u2 e w hw, fun e => ?_⟩
  obtain ⟨w, hw, q⟩ := u3 e
  exact ⟨w, hw, by show P w.toNat = false; rw [← key v hv w hw]; exact q⟩

noncomputable def rkN (g : G) (who : Int) (s : List Bool) (v : Nat) : Int := open Classical in if h : ∃ k, atR g who s v k then (Classical.choose h : Nat) else -1
noncomputable def ranksL (g : G) (who : Int) (s : List Bool) : List Int := tab g.owner.length (rkN g who s)
theorem rk_at {v k : Nat} (h : atR g who s v k) : rkN g who s v = k := by
  have h' : ∃ k, atR g who s v k := ⟨k, h⟩
  unfold rkN
  rw [dif_pos h', atR_uniq (Classical.choose_spec h') h]
theorem rk_no {v : Nat} (h : ∀ k, ¬ lv g who s k v) : rkN g who s v = -1 := by
  unfold rkN
  rw [dif_neg]
  rintro ⟨k, hk⟩
  exact h k hk.1
theorem rk_cases (v : Nat) : (rkN g who s v = -1 ∧ ∀ k, ¬ lv g who s k v) ∨ ∃ k : Nat, rkN g who s v = k ∧ atR g who s v k := by
  by_cases h : ∃ k, lv g who s k v
  · obtain ⟨k, hk⟩ := h
    obtain ⟨j, _, hj⟩ := lv_at hk
    exact .inr ⟨j, rk_at hj, hj⟩
  · exact .inl ⟨rk_no fun k hk => h ⟨k, hk⟩, fun k hk => h ⟨k, hk⟩⟩

/-- In the end. -/
theorem Inv.fin (I : Inv g who s Dn P c a L R []) (hm : mayE g = 0) (U : Und g who s Dn R) (hd : ∀ u, Dn u a = true) : R = ranksL g who s := by
  refine tab_ext I.lenR fun v hv => ?_
  have hl : v < R.length := by rw [I.lenR]; exact hv
  have e : R[v]? = some (R.getD v 0) := by simp [hl]
  rw [e]
  congr 1
  rcases Int.lt_or_le (R.getD v 0) 0 with q | q
  · rw [I.neg v hv q, rk_no]
    intro k hk
    have := (I.below hm U k v hv hk (.inr ⟨rfl, hd⟩)).1
    omega
  · obtain ⟨k, hk⟩ : ∃ k : Nat, R.getD v 0 = k := ⟨(R.getD v 0).toNat, by omega⟩
    rw [hk, rk_at (I.r v hv k hk)]

theorem nodup_len : ∀ {n : Nat} {l : List Nat}, l.Nodup → (∀ x ∈ l, x < n) → l.length ≤ n
  | 0, [], _, _ => Nat.le_refl _
  | 0, x :: l, _, h => by have := h x (by simp); omega
  | n + 1, l, hn, h => by
    have h1 := nodup_len (n := n) (l := l.erase n) (hn.erase n) (fun x hx => by
      have hx' := List.mem_of_mem_erase hx
      have := h x hx'
      have : x ≠ n := by rintro rfl; exact (List.Nodup.mem_erase_iff hn).1 hx |>.1 rfl
      omega)
    have : l.length ≤ (l.erase n).length + 1 := by rw [List.length_erase]; split <;> omega
    omega
theorem Inv.len (I : Inv g who s Dn P c a L R T) : T.length ≤ g.owner.length := by
  have h := nodup_len (n := g.owner.length) (l := T.map Prod.fst) (by
    rw [List.nodup_iff_pairwise_ne, List.pairwise_map]
    refine List.Pairwise.imp_of_mem ?_ (List.nodup_iff_pairwise_ne.1 I.nd)
    intro p q hp hq hne e
    have h1 := ((I.t p).1 hp).2.1
    have h2 := ((I.t q).1 hq).2.1
    rw [e, h2] at h1
    exact hne (Prod.ext e (by omega))) (by
    intro x hx
    obtain ⟨p, hp, rfl⟩ := List.mem_map.1 hx
    exact ((I.t p).1 hp).1)
  simpa using h

/-- No rank is greater than how many vertices there are. -/
theorem rank_le {v k : Nat} (h : atR g who s v k) : k ≤ g.owner.length := by
  have key : ∀ j, j ≤ k → j ≤ cntS (lev g who s j) := by
    intro j
    induction j with
    | zero => intro _; omega
    | succ j ih =>
      intro hj
      have ih := ih (by omega)
      have hle : leS g.owner.length (lev g who s j) (lev g who s (j + 1)) := fun u hu q => lv_mono (k := j + 1) q (by omega)
      have hne : lev g who s j ≠ lev g who s (j + 1) := by
        intro e
        have hst : ∀ i, lev g who s (j + i) = lev g who s j := by
          intro i
          induction i with
          | zero => rfl
          | succ i ihi =>
            rw [← Nat.add_assoc, lev, ihi, ← lev]
            exact e.symm
        have := h.1
        unfold lv at this
        rw [show k = j + (k - j) by omega, hst] at this
        exact h.2 j (by omega) this
      have := (cnt_mono (lev_len j) (lev_len (j + 1)) hle).2 hne
      omega
  have h1 := key k (Nat.le_refl _)
  have h2 := cntS_le (lev g who s k)
  rw [lev_len] at h2
  omega
end
end Go.Par

set_option linter.unusedSimpArgs false
set_option linter.unusedVariables false
namespace Go.Par

def giveR (R : List Int) (v k : Nat) : List Int := if R.getD v 0 < 0 then R.set v (k : Int) else R
def giveT (R : List Int) (T : List Pr) (v k : Nat) : List Pr := if R.getD v 0 < 0 then pushL T (v, k) else T
def lensL (g : G) : List Int := tab g.owner.length fun v => ((nx g v).length : Int)

section
variable {g : G} {who : Int} {s : List Bool} {L R : List Int} {T : List Pr}

def Ph1 (g : G) (who : Int) (s : List Bool) (x : Nat) (R : List Int) (T : List Pr) : Prop :=
  Inv g who s (fun _ _ => false) (fun _ => false) 0 g.owner.length (lensL g) R T ∧ ∀ v, v < g.owner.length → v < x → R.getD v 0 < 0 → hasN s v = false
def Ph2 (g : G) (who : Int) (s : List Bool) (x : Nat) (R : List Int) (T : List Pr) : Prop :=
  Ph1 g who s g.owner.length R T ∧ ∀ v, v < g.owner.length → v < x → R.getD v 0 < 0 → deadP g (1 - who) v = false

theorem ph1_zero : Ph1 g who s 0 (tab g.owner.length fun _ => -1) [] := by
  have hR : ∀ v, v < g.owner.length → (tab g.owner.length fun _ => (-1 : Int)).getD v 0 = -1 := fun v hv => by rw [getD_tab, if_pos hv]
  refine ⟨⟨length_tab _ _, length_tab _ _, heap_nil, List.nodup_nil, ?_, ?_, ?_, ?_, ?_, ?_, ?_, ?_, ?_⟩, fun v _ h => by omega⟩
  · intro v hv
    rw [lensL, getD_tab, if_pos hv]
    simp
  · intro p
    constructor
    · intro h; cases h
    · rintro ⟨h1, h2, _⟩
      rw [hR _ h1] at h2; omega
  · intro v hv k hk; rw [hR v hv] at hk; omega
  · intro v hv _; exact hR v hv
  · intro v hv h; cases h
  · intro p h; cases h
  · intro v w hw h; cases h
  · intro w hw h; cases h
  · intro h; omega

theorem ph1_step {x : Nat} (hx : x < g.owner.length) (h : Ph1 g who s x R T) : (hasN s x = true → Ph1 g who s (x + 1) (giveR R x 0) (giveT R T x 0)) ∧ (hasN s x = false → Ph1 g who s (x + 1) R T) := by
  obtain ⟨I, h⟩ := h
  have hl : x < R.length := by rw [I.lenR]; exact hx
  refine ⟨fun hs => ?_, fun hs => ⟨I, fun v hv h1 h2 => ?_⟩⟩
  · unfold giveR giveT
    by_cases q : R.getD x 0 < 0
    · rw [if_pos q, if_pos q]
      refine ⟨I.give hx q (Nat.le_refl 0) ⟨(lv_zero hx).2 hs, fun j hj => by omega⟩, fun v hv h1 h2 => ?_⟩
      rw [getD_set hl] at h2
      by_cases e : x = v
      · rw [if_pos e] at h2; simp at h2
      · rw [if_neg e] at h2; exact h v hv (by omega) h2
    · rw [if_neg q, if_neg q]
      refine ⟨I, fun v hv h1 h2 => ?_⟩
      by_cases e : x = v
      · subst e; exact absurd h2 q
      · exact h v hv (by omega) h2
  · by_cases e : x = v
    · subst e; exact hs
    · exact h v hv (by omega) h2

theorem ph2_step {x : Nat} (hm : mayE g = 0) (hw : who = 0 ∨ who = 1) (hx : x < g.owner.length) (h : Ph2 g who s x R T) :
    (deadP g (1 - who) x = true → Ph2 g who s (x + 1) (giveR R x 1) (giveT R T x 1)) ∧ (deadP g (1 - who) x = false → Ph2 g who s (x + 1) R T) := by
  obtain ⟨⟨I, h1⟩, h2⟩ := h
  have hl : x < R.length := by rw [I.lenR]; exact hx
  refine ⟨fun hs => ?_, fun hs => ⟨⟨I, h1⟩, fun v hv k1 k2 => ?_⟩⟩
  · unfold giveR giveT
    by_cases q : R.getD x 0 < 0
    · rw [if_pos q, if_pos q]
      have hin := h1 x hx hx q
      have hk : atR g who s x 1 := by
        refine ⟨(lv_succ hx).2 (.inr (force_iff.2 (.inr ?_))), fun j hj hl => ?_⟩
        · simp only [deadP, Bool.and_eq_true, beq_iff_eq] at hs
          obtain ⟨d1, d2⟩ := hs
          refine ⟨fun e => ?_, fun w hw => ?_⟩
          · have d1' : ow g x = 1 - who := d1
            rw [e] at d1'; omega
          · have : nx g x = [] := List.eq_nil_of_length_eq_zero d2
            rw [this] at hw; cases hw
        · obtain rfl : j = 0 := by omega
          rw [lv_zero hx, hin] at hl; cases hl
      refine ⟨⟨I.give hx q (Nat.zero_le _) hk, fun v hv k1 k2 => ?_⟩, fun v hv k1 k2 => ?_⟩
      · rw [getD_set hl] at k2
        by_cases e : x = v
        · rw [if_pos e] at k2; simp at k2
        · rw [if_neg e] at k2; exact h1 v hv k1 k2
      · rw [getD_set hl] at k2
        by_cases e : x = v
        · rw [if_pos e] at k2; simp at k2
        · rw [if_neg e] at k2; exact h2 v hv (by omega) k2
    · rw [if_neg q, if_neg q]
      refine ⟨⟨I, h1⟩, fun v hv k1 k2 => ?_⟩
      by_cases e : x = v
      · subst e; exact absurd k2 q
      · exact h2 v hv (by omega) k2
  · by_cases e : x = v
    · subst e; exact hs
    · exact h2 v hv (by omega) k2

/-- Between two rounds. -/
def InO (g : G) (who : Int) (s : List Bool) (P : Nat → Bool) (L R : List Int) (T : List Pr) : Prop :=
  ∃ c a, Inv g who s (fun _ w => P w) P c a L R T ∧ Und g who s (fun _ w => P w) R

theorem ino_zero (hm : mayE g = 0) (hw : who = 0 ∨ who = 1) (h : Ph2 g who s g.owner.length R T) : InO g who s (fun _ => false) (lensL g) R T := by
  obtain ⟨⟨I, h1⟩, h2⟩ := h
  refine ⟨0, g.owner.length, I, fun v hv hq => ⟨h1 v hv hv hq, fun _ _ _ => rfl, fun e => ?_⟩⟩
  have hd := h2 v hv hv hq
  have ho := ow_ok hm hv
  cases hn : nx g v with
  | nil =>
    exfalso
    have : deadP g (1 - who) v = true := by
      have e1 : g.owner.getD v 0 = 1 - who := by
        have : ow g v = 1 - who := by omega
        exact this
      have e2 : (g.next.getD v []).length = 0 := by
        have := congrArg List.length hn
        simpa using this
      simp only [deadP, e1, e2]; simp
    rw [hd] at this; cases this
  | cons w l => exact ⟨w, by simp, rfl⟩

def Dny (g : G) (Po : Nat → Bool) (a y : Nat) (u w : Nat) : Bool := Po w || (w == a && ((bef g a).take y).contains (u : Int))
def InE (g : G) (who : Int) (s : List Bool) (Po : Nat → Bool) (c a y : Nat) (L R : List Int) (T : List Pr) : Prop :=
  Inv g who s (Dny g Po a y) (fun w => Po w || w == a) c a L R T ∧ Und g who s (Dny g Po a y) R ∧ a < g.owner.length ∧ Po a = false ∧ atR g who s a c

theorem ine_zero {P : Nat → Bool} (h : InO g who s P L R T) (hT : 0 < T.length) : InE g who s P (popV T).2 (popV T).1 0 L R (popL T) := by
  obtain ⟨c, a, I, U⟩ := h
  obtain ⟨h1, h2, h3, h4, J⟩ := I.pop (fun w _ h _ => h) hT
  have e : Dny g P (popV T).1 0 = fun _ w => P w := by
    funext u w
    simp [Dny]
  unfold InE
  rw [e]
  exact ⟨J, U, h1, h2, h4⟩

theorem mem_bef {a : Nat} {u : Int} (hm : mayE g = 0) : u ∈ bef g a ↔ ∃ v : Nat, u = v ∧ v < g.owner.length ∧ (a : Int) ∈ nx g v := by
  unfold bef
  rw [(may_ok hm).2.1]
  simp only [List.mem_map, List.mem_filter, List.mem_range, List.contains_iff_mem]
  constructor
  · rintro ⟨v, ⟨h1, h2⟩, rfl⟩; exact ⟨v, rfl, h1, by simpa using h2⟩
  · rintro ⟨v, rfl, h1, h2⟩; exact ⟨v, ⟨h1, by simpa using h2⟩, rfl⟩
theorem nodup_bef {a : Nat} : (bef g a).Nodup := by
  unfold bef
  rw [List.nodup_iff_pairwise_ne, List.pairwise_map]
  refine List.Pairwise.imp ?_ (List.Pairwise.filter _ (List.nodup_iff_pairwise_ne.1 List.nodup_range))
  intro x y h e
  exact h (Int.ofNat.inj e)

theorem ine_step {Po : Nat → Bool} {c a y : Nat} (hm : mayE g = 0) (h : InE g who s Po c a y L R T) (hy : y < (bef g a).length) : ∃ v : Nat, (bef g a)[y] = v ∧ v < g.owner.length ∧ 0 < L.getD v 0 ∧ L.getD v 0 ≤ 3000 ∧
    ((ow g v = who ∨ L.getD v 0 - 1 = 0) → InE g who s Po c a (y + 1) (L.set v (L.getD v 0 - 1)) (giveR R v (c + 1)) (giveT R T v (c + 1))) ∧
    (¬ (ow g v = who ∨ L.getD v 0 - 1 = 0) → InE g who s Po c a (y + 1) (L.set v (L.getD v 0 - 1)) R T) := by
  obtain ⟨I, U, ha, hPa, hac⟩ := h
  obtain ⟨v, hv, hvn, hx⟩ := (mem_bef hm).1 (List.getElem_mem hy)
  have hnotin : (v : Int) ∉ (bef g a).take y := by
    intro q
    have hd := nodup_bef (g := g) (a := a)
    rw [← List.take_append_drop y (bef g a), List.drop_eq_getElem_cons hy, hv] at hd
    exact (List.nodup_append.1 hd).2.2 _ q _ (by simp) rfl
  have hd : Dny g Po a y v a = false := by
    simp only [Dny, hPa, Bool.false_or, beq_self_eq_true, Bool.true_and]
    simpa using hnotin
  have e : (fun u w => Dny g Po a y u w || u == v && w == a) = Dny g Po a (y + 1) := by
    funext u w
    simp only [Dny, List.take_succ_eq_append_getElem hy, hv, List.contains_eq_mem, List.mem_append, List.mem_singleton, Int.natCast_inj, Bool.decide_or]
    by_cases e2 : w = a
    · by_cases e1 : u = v <;> simp [e1, e2]
    · have e3 : (w == a) = false := by simp [e2]
      simp [e3]
  obtain ⟨x0, x1, J⟩ := I.see hm hvn ha (by simp) hx hd
  rw [e] at J
  have hlR : v < R.length := by rw [I.lenR]; exact hvn
  have hcount := J.l v hvn
  rw [getD_set (by rw [I.lenL]; exact hvn), if_pos rfl] at hcount
  have same : ∀ u, u ≠ v → ∀ w, Dny g Po a (y + 1) u w = Dny g Po a y u w := by
    intro u hu w
    rw [← e]; simp [hu]
  have Ug : ∀ k : Nat, Und g who s (Dny g Po a (y + 1)) (R.set v (k : Int)) := by
    intro k u hu hq
    rw [getD_set hlR] at hq
    by_cases e1 : v = u
    · rw [if_pos e1] at hq; omega
    · rw [if_neg e1] at hq
      obtain ⟨q1, q2, q3⟩ := U u hu hq
      refine ⟨q1, fun q w hw => by rw [same u (Ne.symm e1)]; exact q2 q w hw, fun q => ?_⟩
      obtain ⟨w, hw, hq⟩ := q3 q
      exact ⟨w, hw, by rw [same u (Ne.symm e1)]; exact hq⟩
  have Un : (R.getD v 0 < 0 → ow g v ≠ who ∧ L.getD v 0 - 1 ≠ 0) → Und g who s (Dny g Po a (y + 1)) R := by
    intro hc u hu hq
    by_cases e1 : v = u
    · subst e1
      obtain ⟨c1, c2⟩ := hc hq
      refine ⟨(U v hu hq).1, fun q => absurd q c1, fun _ => ?_⟩
      have hpos : 0 < (nx g v).countP (fun w => !Dny g Po a (y + 1) v w.toNat) := by omega
      obtain ⟨w, hw, hq⟩ := List.countP_pos_iff.1 hpos
      exact ⟨w, hw, by simpa using hq⟩
    · obtain ⟨q1, q2, q3⟩ := U u hu hq
      refine ⟨q1, fun q w hw => by rw [same u (Ne.symm e1)]; exact q2 q w hw, fun q => ?_⟩
      obtain ⟨w, hw, hq⟩ := q3 q
      exact ⟨w, hw, by rw [same u (Ne.symm e1)]; exact hq⟩
  refine ⟨v, hv, hvn, x0, x1, fun hc => ?_, fun hc => ⟨J, Un fun _ => ⟨fun q => hc (.inl q), fun q => hc (.inr q)⟩, ha, hPa, hac⟩⟩
  unfold giveR giveT
  by_cases q : R.getD v 0 < 0
  · rw [if_pos q, if_pos q]
    have hk : atR g who s v (c + 1) := I.rank hm U hvn ha hx q (by
      rcases hc with hc | hc
      · exact .inl hc
      · refine .inr fun w hw hwa => ?_
        obtain ⟨w0, w1⟩ := (nx_ok hm hvn).2 w hw
        have hz : (nx g v).countP (fun w => !Dny g Po a (y + 1) v w.toNat) = 0 := by omega
        have := List.countP_eq_zero.1 hz w hw
        have e3 : ¬ w.toNat = a := by omega
        rw [← e] at this
        simpa [e3] using this)
    exact ⟨J.give hvn q (by omega) hk, Ug (c + 1), ha, hPa, hac⟩
  · rw [if_neg q, if_neg q]
    exact ⟨J, Un fun h => absurd h q, ha, hPa, hac⟩

theorem ine_done {Po : Nat → Bool} {c a : Nat} (hm : mayE g = 0) (h : InE g who s Po c a (bef g a).length L R T) : InO g who s (fun w => Po w || w == a) L R T := by
  obtain ⟨I, U, ha, hPa, hac⟩ := h
  have hall : ∀ v, v < g.owner.length → (a : Int) ∈ nx g v → Dny g Po a (bef g a).length v a = true := by
    intro v hv hx
    simp only [Dny, List.take_length, beq_self_eq_true, Bool.true_and, Bool.or_eq_true]
    right
    rw [List.contains_iff_mem]
    exact (mem_bef hm).2 ⟨v, rfl, hv, hx⟩
  exact ⟨c, a, I.done hm hall, U.done I hm hall⟩

theorem ino_fin {P : Nat → Bool} (hm : mayE g = 0) (h : InO g who s P L R []) : R = ranksL g who s := by
  obtain ⟨c, a, I, U⟩ := h
  refine tab_ext I.lenR fun v hv => ?_
  have hl : v < R.length := by rw [I.lenR]; exact hv
  have e : R[v]? = some (R.getD v 0) := by simp [hl]
  rw [e]
  congr 1
  have I' : Inv g who s (fun _ w => P w) P c g.owner.length L R [] := { I with f := fun w hw h _ _ => h, at_ := fun h => by omega }
  rcases Int.lt_or_le (R.getD v 0) 0 with q | q
  · rw [I.neg v hv q, rk_no]
    intro k hk
    have key : ∀ (j w : Nat), w < g.owner.length → lv g who s j w → 0 ≤ R.getD w 0 ∧ P w = true := by
      intro j
      induction j using Nat.strongRecOn with
      | ind j ih =>
        intro w hw hl
        have hR : 0 ≤ R.getD w 0 := by
          rcases Int.lt_or_le (R.getD w 0) 0 with q | q
          · exfalso
            obtain ⟨u1, u2, u3⟩ := U w hw q
            have hjk : ∀ k, k ≤ j → ¬ lv g who s k w := by
              intro k
              induction k with
              | zero => intro _ h; rw [lv_zero hw, u1] at h; cases h
              | succ k ihk =>
                intro hk h
                rcases (lv_succ hw).1 h with h | h
                · exact ihk (by omega) h
                · have hb : ∀ x ∈ nx g w, hasN (lev g who s k) x.toNat = true → P x.toNat = true := fun x hx hq => by
                    obtain ⟨x0, x1⟩ := (nx_ok hm hw).2 x hx
                    exact (ih k (by omega) x.toNat (by omega) hq).2
                  rcases force_iff.1 h with ⟨h1, x, hx, hq⟩ | ⟨h1, h2⟩
                  · have := hb x hx hq
                    have q2 : P x.toNat = false := u2 h1 x hx
                    rw [q2] at this
                    cases this
                  · obtain ⟨x, hx, hq⟩ := u3 h1
                    have q2 : P x.toNat = false := hq
                    rw [hb x hx (h2 x hx)] at q2
                    cases q2
            exact hjk j (Nat.le_refl _) hl
          · exact q
        refine ⟨hR, ?_⟩
        obtain ⟨k, hk⟩ : ∃ k : Nat, R.getD w 0 = k := ⟨(R.getD w 0).toNat, by omega⟩
        cases q : P w with
        | true => rfl
        | false => exact absurd ((I.t (w, k)).2 ⟨hw, hk, q⟩) (by simp)
    have := (key k v hv hk).1
    omega
  · obtain ⟨k, hk⟩ : ∃ k : Nat, R.getD v 0 = k := ⟨(R.getD v 0).toNat, by omega⟩
    rw [hk, rk_at (I.r v hv k hk)]
end
end Go.Par

set_option linter.unusedSimpArgs false
set_option linter.unusedVariables false
set_option maxRecDepth 8000
set_option maxHeartbeats 1000000
namespace Go.Par
open Go.Proofs

noncomputable def ranksA (g : G) (who : Int) (s : List Bool) : AV := if mayE g = 0 ∧ (who = 0 ∨ who = 1) then .ro true (ints (ranksL g who s)) else .nils

/-- The call of give. -/
theorem at_give {h0 : Heap} {k : SN} (N : SNok h0 k) (g : G) (who : Int) (L R : List Int) (T : List Pr) (v rank : Nat) (hR : R.length = g.owner.length) (hv : v < g.owner.length) (ht : T.length < 1099511627776) :
    AC Try.prog 104 [.ptr k.s 0, .int .i64 v, .int .i64 rank] (SH h0 k g who L R T) fun _ h' => ∃ k', SNok h0 k' ∧ k'.s = k.s ∧ h' = SH h0 k' g who L (giveR R v rank) (giveT R T v rank) := by
  have hv' : v < R.length := by omega
  refine (at_gives N g who L R T v rank hR hv' ht).mono ?_
  intro r h' q
  have e : R.getD v 0 = R[v] := by simp [hv']
  unfold giveR giveT
  rw [e]
  by_cases c : R[v] < 0
  · rw [if_pos c] at q ⊢
    rw [if_pos c]
    obtain ⟨o', N', rfl⟩ := q
    exact ⟨_, N', rfl, rfl⟩
  · rw [if_neg c] at q ⊢
    rw [if_neg c]
    exact ⟨k, N, rfl, q⟩

theorem SH.start {h : Heap} {nl nr ns no : Nat} (g : G) (who : Int) (Z : List Int) {S0 : Ob} (hnl : h nl = none) (hnr : upd h nl (some (obI Z)) nr = none) (hns : upd (upd h nl (some (obI Z))) nr (some (obI Z)) ns = none)
    (hno : upd (upd (upd h nl (some (obI Z))) nr (some (obI Z))) ns (some S0) no = none) :
    SNok h ⟨ns, nl, nr, no, false⟩ ∧ upd (upd (upd (upd (upd h nl (some (obI Z))) nr (some (obI Z))) ns (some S0)) ns (some (obS g who ⟨ns, nl, nr, no, false⟩ 0))) no (some (obT [] false)) = SH h ⟨ns, nl, nr, no, false⟩ g who Z Z [] := by
  have N1 : HN h (nms [(nl, obI Z)]) := HL.new (l := []) ⟨List.nodup_nil, fun o ho => by cases ho⟩ hnl
  have N2 : HN h (nms [(nr, obI Z), (nl, obI Z)]) := HL.new (l := [(nl, obI Z)]) N1 hnr
  have N3 : HN h (nms [(ns, S0), (nr, obI Z), (nl, obI Z)]) := HL.new (l := [(nr, obI Z), (nl, obI Z)]) N2 hns
  have N4 : HN h (nms [(no, obT [] false), (ns, obS g who ⟨ns, nl, nr, no, false⟩ 0), (nr, obI Z), (nl, obI Z)]) := HL.new (l := [(ns, S0), (nr, obI Z), (nl, obI Z)]) N3 hno
  have p : List.Perm [(no, obT [] false), (ns, obS g who ⟨ns, nl, nr, no, false⟩ 0), (nr, obI Z), (nl, obI Z)] (SHl ⟨ns, nl, nr, no, false⟩ g who Z Z []) := by
    have := List.reverse_perm (SHl ⟨ns, nl, nr, no, false⟩ g who Z Z [])
    refine List.Perm.trans ?_ this
    simp only [SHl, List.reverse_cons, List.reverse_nil, List.nil_append, List.cons_append, List.length_nil]
    refine List.Perm.cons _ ?_
    refine (List.Perm.swap _ _ _).trans ?_
    exact List.Perm.cons _ (List.Perm.swap _ _ _)
  have pn := p.map Prod.fst
  refine ⟨⟨pn.nodup_iff.1 N4.nd, fun o ho => N4.free o (pn.mem_iff.2 ho)⟩, ?_⟩
  rw [upd_upd]
  exact HL.perm p N4.nd

def lensX (g : G) (x : Nat) : List Int := tab g.owner.length fun v => if v < x then ((nx g v).length : Int) else 0
def negX (g : G) (x : Nat) : List Int := tab g.owner.length fun v => if v < x then -1 else 0
theorem lensX_len (g : G) (x : Nat) : (lensX g x).length = g.owner.length := length_tab _ _
theorem negX_len (g : G) (x : Nat) : (negX g x).length = g.owner.length := length_tab _ _
theorem lensX_zero (g : G) : (tab g.owner.length fun _ => (0 : Int)) = lensX g 0 := tab_congr fun v _ => by simp
theorem negX_zero (g : G) : (tab g.owner.length fun _ => (0 : Int)) = negX g 0 := tab_congr fun v _ => by simp
theorem lensX_full (g : G) : lensX g g.owner.length = lensL g := tab_congr fun v hv => by simp [hv]
theorem negX_full (g : G) : negX g g.owner.length = tab g.owner.length fun _ => -1 := tab_congr fun v hv => by simp [hv]
theorem lensX_set (g : G) (x : Nat) : (lensX g x).set x ((nx g x).length : Int) = lensX g (x + 1) := by
  rw [lensX, set_tab]
  refine tab_congr fun v _ => ?_
  by_cases e : v = x
  · subst e; simp
  · by_cases h : v < x
    · simp [e, h, show v < x + 1 by omega]
    · simp [e, h, show ¬ v < x + 1 by omega]
theorem negX_set (g : G) (x : Nat) : (negX g x).set x (-1) = negX g (x + 1) := by
  rw [negX, set_tab]
  refine tab_congr fun v _ => ?_
  by_cases e : v = x
  · subst e; simp
  · by_cases h : v < x
    · simp [e, h, show v < x + 1 by omega]
    · simp [e, h, show ¬ v < x + 1 by omega]

theorem countN_but {l : List Nat} {p q : Nat → Bool} {x : Nat} (hx : x ∈ l) (h1 : p x = true) (h2 : q x = false) (h : ∀ y ∈ l, q y = true → p y = true) : l.countP q < l.countP p := by
  induction l with
  | nil => cases hx
  | cons y l ih =>
    rw [List.countP_cons, List.countP_cons]
    have hle : l.countP q ≤ l.countP p := List.countP_mono_left fun y hy hq => h y (by simp [hy]) hq
    rcases List.mem_cons.1 hx with rfl | hx'
    · simp [h1, h2]; omega
    · have := ih hx' fun z hz => h z (by simp [hz])
      have h3 := h y (by simp)
      by_cases e : q y = true
      · simp [e, h3 e]; omega
      · simp [e]; omega
theorem befL_get (g : G) {a : Nat} (h : a < (befL g).length) : (befL g)[a] = bef g a := by simp [befL]
theorem befL_len (g : G) : (befL g).length = g.owner.length := length_tab _ _

/-- A search while ranks are found. -/
structure SS where
  k : SN
  R : List Int
  T : List Pr
  x : Nat
structure SO where
  k : SN
  P : Nat → Bool
  L : List Int
  R : List Int
  T : List Pr
structure SI where
  k : SN
  L : List Int
  R : List Int
  T : List Pr
  y : Nat

theorem attract_Ranks (g : G) (hf : g.fits) (who : Int) (s : List Bool) (hs : s.length ≤ 1152921504606846976) : Pure Try.prog 90 [g.av, .int .i64 who, .ro false (bools s)] (ranksA g who s) := by
  have sM := graph_May g hf
  have sD := graph_Dead g hf (IntKind.i64.wrap (1 - who))
  have hwd : who = 0 ∨ who = 1 → IntKind.i64.wrap (1 - who) = 1 - who := fun h => wrap_id (by omega) (by omega)
  intro h
  refine AC.body Θ_ok Try.func90 rfl rfl (Nat.le_of_ble_eq_true rfl) ?_
  refine AW.seq fun _ k1 => AW.region [] Θ_ok ?_
  simp
  refine k1 _ ?_
  refine AW.seq fun _ k1 => AW.regionAt 4 [] Θ_ok fun B hB => ?_
  simp
  refine sD.use (by simp [G.av]) ?_
  refine hB _ ?_
  clear hB B
  simp
  refine k1 _ ?_
  by_cases hm : mayE g = 0
  · by_cases hp : who = 0 ∨ who = 1
    · have hfin : ranksA g who s = .ro true (ints (ranksL g who s)) := if_pos ⟨hm, hp⟩
      have hn3 := (may_ok hm).1
      have hn2 := (may_ok hm).2.1
      rw [hwd hp]
      refine AW.seqTo ⟨147, [(7, .ro true (bools (tab g.owner.length (deadP g (1 - who))))), (3, .rop [.ro false (ints g.owner), .ro false (rows g.next)]), (1, .int .i64 who), (2, .ro false (bools s))], h⟩ (fun _ k1 => ?_) ?_
      · clear sD hwd hfin
        refine AW.seq fun _ k2 => AW.region [] Θ_ok ?_
        simp
        rcases hp with hw | hw
        all_goals
          refine (graph_May g hf).use (by simp [G.av]) ?_
          try simp [hm, hw]
          refine k2 _ ?_
          refine AW.cond false (by simp [Int.natCast_inj, hw]) (fun h => by cases h) (fun _ => ?_)
          refine AW.skip ?_
          simp
          exact k1 _ (GStep.eq (by simp [deadA, hm, hw]) (subH.refl _))
      · clear sD hwd sM
        refine AW.seq fun _ k1 => AW.draw [40, 44, 46] 10 [0, 3, 7] Θ_ok mixed (by kernel_rfl) (by kernel_rfl) ?_
        simp [vcDraw, vcPre, vcTail, callA, isAlloc, isLoad, effOp, obl, obA, mkOK, valA, newA]
        have b1 : 8 * (g.owner.length : Int) ≤ 140737488355328 := by omega
        have b2 : (g.owner.length : Int) ≤ 140737488355328 := by omega
        have e0 : ((List.replicate g.owner.length (AV.int IntKind.i64 0)).flatMap AV.flat) = (tab g.owner.length fun _ => (0 : Int)).map (AV.int .i64) := by
          rw [replicate_tab, flat_tab (fun _ _ => rfl)]; simp
        rw [e0]
        refine ⟨⟨b1, b2⟩, fun nl hnl => ⟨⟨b1, b2⟩, fun nr hnr ns hns => k1 _ ?_⟩⟩
        refine AW.mineCell ns 5 ⟨[.ro false (ints g.owner), .ro false (rows g.next), .int .i64 who, .mu nl g.owner.length, .mu nr g.owner.length, .nils], 118, 6, true⟩ 122 2 (upd_same _ _ _) rfl fun no hno => ?_
        obtain ⟨N, hH⟩ := SH.start g who (tab g.owner.length fun _ => (0 : Int)) hnl hnr hns hno
        simp only [List.set_cons_succ, List.set_cons_zero]
        rw [show (⟨[.ro false (ints g.owner), .ro false (rows g.next), .int .i64 who, .mu nl g.owner.length, .mu nr g.owner.length, .mu no 0], 118, 6, true⟩ : Ob) = obS g who ⟨ns, nl, nr, no, false⟩ 0 from rfl]
        rw [show (⟨[], 122, 2, false⟩ : Ob) = obT [] false from rfl]
        simp only [obI_mk]
        rw [hH]
        obtain ⟨k, hk⟩ : ∃ k : SN, k = ⟨ns, nl, nr, no, false⟩ := ⟨_, rfl⟩
        have hks : ns = k.s := by rw [hk]
        rw [← hk] at N ⊢
        rw [hks]
        clear hk hks hH hns hnr hnl hno
        refine AW.seq fun _ k1 => AW.region [] Θ_ok ?_
        simp
        refine k1 _ ?_
        refine AW.seqEx (X := SN) (fun k => SNok h k) (fun k => ⟨147, [(2, .ro false (bools s)), (3, .rop [.ro false (ints g.owner), .ro false (rows g.next)]), (7, .ro true (bools (tab g.owner.length (deadP g (1 - who))))), (8, .ptr k.s 0), (9, .bnd 104 [.ptr k.s 0])], SH h k g who (lensL g) (tab g.owner.length fun _ => -1) []⟩) (fun _ k1 => ?_) ?_
        · refine AW.seq fun _ k2 => AW.region [] Θ_ok ?_
          simp
          refine k2 _ ?_
          refine AW.block ?_
          refine AW.loopI (X := Nat) (fun x => x ≤ g.owner.length) (fun x => ⟨147, [(2, .ro false (bools s)), (3, .rop [.ro false (ints g.owner), .ro false (rows g.next)]), (7, .ro true (bools (tab g.owner.length (deadP g (1 - who))))), (8, .ptr k.s 0), (9, .bnd 104 [.ptr k.s 0]), (50, .ro false (rows g.next)), (51, .int .i64 g.owner.length), (52, .int .i64 x)], SH h k g who (lensX g x) (negX g x) []⟩) (fun x => g.owner.length - x) 0 (Nat.zero_le _) (GStep.eq (by simp [hn2]) (by rw [lensX_zero, ← negX_zero, lensX_zero]; exact subH.refl _)) fun x hx => ?_
          refine AW.seq fun _ k3 => AW.region [] Θ_ok ?_
          simp
          refine k3 _ ?_
          by_cases hlt : x < g.owner.length
          · have inc := wrap_succ (show x < 9223372036854775807 by omega)
            have hltn : x < g.next.length := by omega
            have hS := SH.s N g who (lensX g x) (negX g x) []
            have hL := SH.l N g who (lensX g x) (negX g x) []
            have hR := SH.r N g who (lensX g x) (negX g x) []
            have eL := lensX_set g x
            have eR := negX_set g x
            have p1 := SH.putL N g who (lensX g x) (negX g x) [] (lensX g (x + 1))
            have p2 := SH.putR N g who (lensX g (x + 1)) (negX g x) [] (negX g (x + 1))
            have hS2 := SH.s N g who (lensX g (x + 1)) (negX g x) []
            have hR2 := SH.r N g who (lensX g (x + 1)) (negX g x) []
            have lL := lensX_len g x
            have lR := negX_len g x
            have en : nx g x = g.next[x] := by simp [nx, hltn]
            have mL := map_set_int (lensX g x) x ((nx g x).length : Int)
            have mR := map_set_int (negX g x) x (-1)
            rw [eL, en] at mL
            rw [eR] at mR
            generalize hL' : lensX g (x + 1) = L' at *
            generalize hR' : negX g (x + 1) = R' at *
            generalize lensX g x = L at *
            generalize negX g x = R at *
            refine AW.seq fun _ k3 => AW.cond true (by simp [Int.natCast_inj, hlt]) (fun _ => ?_) (fun h => by cases h)
            refine AW.skip ?_
            simp
            refine k3 _ ?_
            refine AW.seq fun _ k3 => ?_
            refine AW.block ?_
            refine AW.seq fun _ k4 => AW.region [] Θ_ok ?_
            simp [hltn]
            refine k4 _ ?_
            refine AW.draw [] 13 [] Θ_ok mixed (by kernel_rfl) (by kernel_rfl) ?_
            simp [vcDraw, vcPre, vcTail, callA, isAlloc, isLoad, effOp, obl, obA, mkOK, valA, hS, hL, hR, hlt, lL, lR, mL, mR, obI_mk, p1, p2, hR2]
            refine ⟨by omega, k3 _ ?_⟩
            refine AW.region [] Θ_ok ?_
            simp
            exact ⟨x + 1, by omega, by omega, GStep.eq (by simp [inc]) (subH_of_eq (by rw [hL', hR']))⟩
          · obtain rfl : x = g.owner.length := by omega
            refine AW.seq fun _ k3 => AW.cond false (by simp [Int.natCast_inj]) (fun h => by cases h) (fun _ => ?_)
            refine AW.exit ?_
            simp
            exact k1 _ k N (GStep.eq (by simp) (by rw [lensX_full, negX_full]; exact subH.refl _))
        · clear N
          intro k N
          refine AW.seqEx (X := SS) (fun z => SNok h z.k ∧ Ph1 g who s g.owner.length z.R z.T) (fun z => ⟨147, [(3, .rop [.ro false (ints g.owner), .ro false (rows g.next)]), (7, .ro true (bools (tab g.owner.length (deadP g (1 - who))))), (8, .ptr z.k.s 0), (9, .bnd 104 [.ptr z.k.s 0])], SH h z.k g who (lensL g) z.R z.T⟩) (fun _ k1 => ?_) ?_
          · have hS := SH.s N g who (lensL g) (tab g.owner.length fun _ => -1) []
            refine AW.seq fun _ k2 => AW.region [] Θ_ok ?_
            simp [hS]
            refine k2 _ ?_
            refine AW.block ?_
            refine AW.loopI (X := SS) (fun z => SNok h z.k ∧ z.x ≤ g.owner.length ∧ Ph1 g who s z.x z.R z.T) (fun z => ⟨147, [(2, .ro false (bools s)), (3, .rop [.ro false (ints g.owner), .ro false (rows g.next)]), (7, .ro true (bools (tab g.owner.length (deadP g (1 - who))))), (8, .ptr z.k.s 0), (9, .bnd 104 [.ptr z.k.s 0]), (76, .int .i64 g.owner.length), (77, .int .i64 z.x)], SH h z.k g who (lensL g) z.R z.T⟩) (fun z => g.owner.length - z.x) ⟨k, tab g.owner.length fun _ => -1, [], 0⟩ ⟨N, Nat.zero_le _, ph1_zero⟩ (GStep.eq (by simp) (subH.refl _)) ?_
            clear N hS k
            rintro ⟨k, R, T, x⟩ ⟨N, hx, hP⟩
            simp only at N hx hP ⊢
            have hlen := hP.1.len
            have hlR := hP.1.lenR
            refine AW.seq fun _ k3 => AW.region [] Θ_ok ?_
            simp
            refine k3 _ ?_
            by_cases hlt : x < g.owner.length
            · have inc := wrap_succ (show x < 9223372036854775807 by omega)
              obtain ⟨q1, q2⟩ := ph1_step hlt hP
              have sg := at_give N g who (lensL g) R T x 0 hlR hlt (by omega)
              refine AW.seq fun _ k3 => AW.cond true (by simp [Int.natCast_inj, hlt]) (fun _ => ?_) (fun h => by cases h)
              refine AW.skip ?_
              simp
              refine k3 _ ?_
              refine AW.seq fun _ k3 => ?_
              refine AW.block ?_
              refine AW.seq fun _ k4 => AW.region [] Θ_ok ?_
              simp
              refine k4 _ ?_
              by_cases hxs : x < s.length
              · have hsx : hasN s x = s[x] := by simp [hasN, hxs]
                rw [hsx] at q1 q2
                refine AW.seq fun _ k4 => AW.region [] Θ_ok ?_
                simp [hxs]
                refine k4 _ ?_
                cases hb : s[x]
                · refine AW.cond false (by simp [Int.natCast_inj, hb]) (fun h => by cases h) (fun _ => ?_)
                  refine AW.skip ?_
                  simp
                  refine k3 _ ?_
                  refine AW.region [] Θ_ok ?_
                  simp
                  exact ⟨⟨k, R, T, x + 1⟩, ⟨N, by simp only; omega, q2 hb⟩, by simp only; omega, GStep.eq (by simp [inc]) (subH.refl _)⟩
                · refine AW.cond true (by simp [Int.natCast_inj, hb]) (fun _ => ?_) (fun h => by cases h)
                  refine AW.region [] Θ_ok ?_
                  simp
                  refine sg.mono ?_
                  rintro r h' ⟨k', N', hs', rfl⟩
                  refine k3 _ ?_
                  refine AW.region [] Θ_ok ?_
                  simp
                  exact ⟨⟨k', _, _, x + 1⟩, ⟨N', by simp only; omega, q1 hb⟩, by simp only; omega, GStep.eq (by simp [inc, hs']) (subH.refl _)⟩
              · have hsx : hasN s x = false := by simp [hasN, hxs]
                refine AW.seq fun _ k4 => AW.region [] Θ_ok ?_
                simp [hxs]
                refine k4 _ ?_
                refine AW.cond false (by simp [Int.natCast_inj]) (fun h => by cases h) (fun _ => ?_)
                refine AW.skip ?_
                simp
                refine k3 _ ?_
                refine AW.region [] Θ_ok ?_
                simp
                exact ⟨⟨k, R, T, x + 1⟩, ⟨N, by simp only; omega, q2 hsx⟩, by simp only; omega, GStep.eq (by simp [inc]) (subH.refl _)⟩
            · obtain rfl : x = g.owner.length := by omega
              refine AW.seq fun _ k3 => AW.cond false (by simp [Int.natCast_inj]) (fun h => by cases h) (fun _ => ?_)
              refine AW.exit ?_
              simp
              exact k1 _ ⟨k, R, T, 0⟩ ⟨N, hP⟩ (GStep.eq (by simp) (subH.refl _))
          · clear N
            rintro ⟨k, R, T, x⟩ ⟨N, hP⟩
            simp only at N hP ⊢
            refine AW.seqEx (X := SS) (fun z => SNok h z.k ∧ Ph2 g who s g.owner.length z.R z.T) (fun z => ⟨147, [(3, .rop [.ro false (ints g.owner), .ro false (rows g.next)]), (8, .ptr z.k.s 0), (9, .bnd 104 [.ptr z.k.s 0])], SH h z.k g who (lensL g) z.R z.T⟩) (fun _ k1 => ?_) ?_
            · refine AW.seq fun _ k2 => AW.region [] Θ_ok ?_
              simp
              refine k2 _ ?_
              refine AW.block ?_
              refine AW.loopI (X := SS) (fun z => SNok h z.k ∧ z.x ≤ g.owner.length ∧ Ph2 g who s z.x z.R z.T) (fun z => ⟨147, [(3, .rop [.ro false (ints g.owner), .ro false (rows g.next)]), (94, .ro true (bools (tab g.owner.length (deadP g (1 - who))))), (95, .int .i64 g.owner.length), (96, .int .i64 z.x), (8, .ptr z.k.s 0), (9, .bnd 104 [.ptr z.k.s 0])], SH h z.k g who (lensL g) z.R z.T⟩) (fun z => g.owner.length - z.x) ⟨k, R, T, 0⟩ ⟨N, Nat.zero_le _, hP, fun v _ h => absurd h (Nat.not_lt_zero _)⟩ (GStep.eq (by simp) (subH.refl _)) ?_
              clear N hP k R T x
              rintro ⟨k, R, T, x⟩ ⟨N, hx, hP⟩
              simp only at N hx hP ⊢
              have hlen := hP.1.1.len
              have hlR := hP.1.1.lenR
              refine AW.seq fun _ k3 => AW.region [] Θ_ok ?_
              simp
              refine k3 _ ?_
              by_cases hlt : x < g.owner.length
              · have inc := wrap_succ (show x < 9223372036854775807 by omega)
                obtain ⟨q1, q2⟩ := ph2_step hm hp hlt hP
                have sg := at_give N g who (lensL g) R T x 1 hlR hlt (by omega)
                refine AW.seq fun _ k3 => AW.cond true (by simp [Int.natCast_inj, hlt]) (fun _ => ?_) (fun h => by cases h)
                refine AW.skip ?_
                simp
                refine k3 _ ?_
                refine AW.seq fun _ k3 => ?_
                refine AW.block ?_
                refine AW.seq fun _ k4 => AW.region [] Θ_ok ?_
                simp [hlt]
                refine k4 _ ?_
                refine AW.seq fun _ k4 => AW.region [] Θ_ok ?_
                simp
                refine k4 _ ?_
                cases hb : deadP g (1 - who) x
                · refine AW.cond false (by simp [Int.natCast_inj, hb]) (fun h => by cases h) (fun _ => ?_)
                  refine AW.skip ?_
                  simp
                  refine k3 _ ?_
                  refine AW.region [] Θ_ok ?_
                  simp
                  exact ⟨⟨k, R, T, x + 1⟩, ⟨N, by simp only; omega, q2 hb⟩, by simp only; omega, GStep.eq (by simp [inc]) (subH.refl _)⟩
                · refine AW.cond true (by simp [Int.natCast_inj, hb]) (fun _ => ?_) (fun h => by cases h)
                  refine AW.region [] Θ_ok ?_
                  simp
                  refine sg.mono ?_
                  rintro r h' ⟨k', N', hs', rfl⟩
                  refine k3 _ ?_
                  refine AW.region [] Θ_ok ?_
                  simp
                  exact ⟨⟨k', _, _, x + 1⟩, ⟨N', by simp only; omega, q1 hb⟩, by simp only; omega, GStep.eq (by simp [inc, hs']) (subH.refl _)⟩
              · obtain rfl : x = g.owner.length := by omega
                refine AW.seq fun _ k3 => AW.cond false (by simp [Int.natCast_inj]) (fun h => by cases h) (fun _ => ?_)
                refine AW.exit ?_
                simp
                exact k1 _ ⟨k, R, T, 0⟩ ⟨N, hP⟩ (GStep.eq (by simp) (subH.refl _))
            · clear N hP
              rintro ⟨k, R, T, x⟩ ⟨N, hP⟩
              simp only at N hP ⊢
              have sB := graph_Before g hf
              rw [befA, if_pos hm] at sB
              have lB := befL_len g
              have gB := fun a (h : a < (befL g).length) => befL_get g h
              generalize befL g = BL at *
              refine AW.seq fun _ k1 => AW.regionAt 2 [] Θ_ok fun B hB => ?_
              simp
              refine sB.use (by simp [G.av]) ?_
              refine hB _ ?_
              clear hB B
              simp
              refine k1 _ ?_
              refine AW.seq fun _ k1 => ?_
              refine AW.block ?_
              refine AW.loopI (X := SO) (fun z => SNok h z.k ∧ InO g who s z.P z.L z.R z.T) (fun z => ⟨147, [(8, .ptr z.k.s 0), (9, .bnd 104 [.ptr z.k.s 0]), (15, .ro true (rows BL))], SH h z.k g who z.L z.R z.T⟩) (fun z => (List.range g.owner.length).countP fun w => !z.P w) ⟨k, fun _ => false, lensL g, R, T⟩ ⟨N, ino_zero hm hp hP⟩ (GStep.eq (by simp) (subH.refl _)) ?_
              clear N hP k R T x
              rintro ⟨k, P, L, R, T⟩ ⟨N, hI⟩
              simp only at N hI ⊢
              have hS := SH.s N g who L R T
              have hlenT : T.length ≤ g.owner.length := by obtain ⟨_, _, I, _⟩ := hI; exact I.len
              refine AW.seq fun _ k2 => ?_
              by_cases hT : 0 < T.length
              · have hT' : (0 : Int) < (T.length : Int) := by omega
                have hne : ¬ T = [] := by rintro rfl; simp at hT
                refine AW.seq fun _ k3 => AW.region [] Θ_ok ?_
                simp [hS, hT, hT', hne]
                refine k3 _ ?_
                refine AW.cond true (by simp [Int.natCast_inj, hT, hT', hne]) (fun _ => ?_) (fun h => by cases h)
                refine AW.skip ?_
                simp
                refine k2 _ ?_
                refine AW.block ?_
                refine AW.seq fun _ k3 => AW.regionAt 5 [16] Θ_ok fun B hB => ?_
                simp
                refine (heap_Pop N g who L R T hT (by omega)).mono ?_
                rintro r h' ⟨rfl, rfl⟩
                refine hB _ ?_
                clear hB B
                simp [prV, newA]
                intro n16 hn16
                refine k3 _ ?_
                refine AW.box 16 (o := n16) rfl (upd_same _ _ _) ?_
                simp only [upd_upd, upd_none_id hn16]
                have hE := ine_zero hI hT
                clear hn16 hS hI
                generalize (popV T).1 = a at *
                generalize (popV T).2 = c at *
                generalize popL T = T0 at *
                have ha := hE.2.2.1
                have hPa := hE.2.2.2.1
                have hc := rank_le hE.2.2.2.2
                have haB : a < BL.length := by omega
                have gBa := gB a haB
                refine AW.seq fun _ k3 => AW.region [] Θ_ok ?_
                simp [haB, gBa]
                refine k3 _ ?_
                have hlB : (bef g a).length ≤ 3000 := by
                  have : (bef g a).length ≤ g.next.length := by
                    unfold bef
                    rw [List.length_map]
                    exact Nat.le_trans (List.length_filter_le _ _) (by simp)
                  omega
                refine AW.block ?_
                refine AW.loopI (X := SI) (fun z => SNok h z.k ∧ z.y ≤ (bef g a).length ∧ InE g who s P c a z.y z.L z.R z.T) (fun z => ⟨147, [(8, .ptr z.k.s 0), (9, .bnd 104 [.ptr z.k.s 0]), (15, .ro true (rows BL)), (16, .rop [.int .i64 a, .int .i64 c]), (127, .ro false (ints (bef g a))), (128, .int .i64 (bef g a).length), (129, .int .i64 z.y)], SH h z.k g who z.L z.R z.T⟩) (fun z => (bef g a).length - z.y) ⟨k, L, R, T0, 0⟩ ⟨N, Nat.zero_le _, hE⟩ (GStep.eq (by simp) (subH.refl _)) ?_
                clear N hE k L R hlenT hT hT' hne T0
                rintro ⟨k, L, R, T, y⟩ ⟨N, hy, hE⟩
                simp only at N hy hE ⊢
                have hlenT := hE.1.len
                have hlL := hE.1.lenL
                have hlR := hE.1.lenR
                refine AW.seq fun _ k3 => AW.region [] Θ_ok ?_
                simp
                refine k3 _ ?_
                by_cases hlt : y < (bef g a).length
                · have inc := wrap_succ (show y < 9223372036854775807 by omega)
                  obtain ⟨v, hv, hvn, x0, x1, q1, q2⟩ := ine_step hm hE hlt
                  have hvL : v < L.length := by omega
                  have eL : L[v] = L.getD v 0 := by simp [hvL]
                  have eo : g.owner[v]? = some (ow g v) := by simp [ow, hvn]
                  obtain ⟨z, hz⟩ : ∃ z, z = L.getD v 0 - 1 := ⟨_, rfl⟩
                  have sf := at_forced N g who L R T v (L.getD v 0) z (ow g v) hlL hvL eL hz.symm eo x0 (by omega)
                  have sg := fun (L : List Int) => at_give N g who L R T v (c + 1) hlR hvn (by omega)
                  have w1 := wrap_succ (show c < 9223372036854775807 by omega)
                  rw [← hz] at q1 q2
                  generalize L.set v z = L' at *
                  have sg := sg L'
                  generalize hb : (decide (ow g v = who) || decide (z = 0)) = b at sf
                  clear sB gB
                  refine AW.seq fun _ k3 => AW.cond true (by simp [Int.natCast_inj, hlt]) (fun _ => ?_) (fun h => by cases h)
                  refine AW.skip ?_
                  simp
                  refine k3 _ ?_
                  refine AW.seq fun _ k3 => ?_
                  refine AW.block ?_
                  refine AW.seq fun _ k4 => AW.region [] Θ_ok ?_
                  simp [hlt, hv]
                  refine k4 _ ?_
                  refine AW.seq fun _ k4 => AW.regionAt 3 [] Θ_ok fun B hB => ?_
                  simp
                  refine sf.mono ?_
                  rintro r h' ⟨rfl, rfl⟩
                  refine hB _ ?_
                  clear hB B
                  simp
                  refine k4 _ ?_
                  by_cases hc2 : ow g v = who ∨ z = 0
                  · have hb' : b = true := by rw [← hb]; simpa using hc2
                    subst hb'
                    refine AW.cond true (by simp [Int.natCast_inj]) (fun _ => ?_) (fun h => by cases h)
                    refine AW.regionAt 6 [] Θ_ok fun B hB => ?_
                    simp [w1]
                    refine sg.mono ?_
                    rintro r h' ⟨k', N', hs', rfl⟩
                    refine hB _ ?_
                    clear hB B
                    simp
                    refine k3 _ ?_
                    refine AW.region [] Θ_ok ?_
                    simp
                    exact ⟨⟨k', L', _, _, y + 1⟩, ⟨N', by simp only; omega, q1 hc2⟩, by simp only; omega, GStep.eq (by simp [inc, hs']) (subH.refl _)⟩
                  · have hb' : b = false := by rw [← hb]; simpa using hc2
                    subst hb'
                    refine AW.cond false (by simp [Int.natCast_inj]) (fun h => by cases h) (fun _ => ?_)
                    refine AW.skip ?_
                    simp
                    refine k3 _ ?_
                    refine AW.region [] Θ_ok ?_
                    simp
                    exact ⟨⟨k, L', R, T, y + 1⟩, ⟨N, by simp only; omega, q2 hc2⟩, by simp only; omega, GStep.eq (by simp [inc]) (subH.refl _)⟩
                · obtain rfl : y = (bef g a).length := by omega
                  refine AW.seq fun _ k3 => AW.cond false (by simp [Int.natCast_inj]) (fun h => by cases h) (fun _ => ?_)
                  refine AW.exit ?_
                  simp
                  refine ⟨⟨k, fun w => P w || w == a, L, R, T⟩, ⟨N, ine_done hm hE⟩, ?_, GStep.eq (by simp) (subH.refl _)⟩
                  exact countN_but (x := a) (List.mem_range.2 ha) (by simp [hPa]) (by simp) (fun w _ hw => by
                    simp only [Bool.not_eq_true', Bool.or_eq_false_iff] at hw
                    simp [hw.1])
              · have hT' : ¬ (0 : Int) < (T.length : Int) := by omega
                have hne : T = [] := List.eq_nil_of_length_eq_zero (by omega)
                subst hne
                refine AW.seq fun _ k3 => AW.region [] Θ_ok ?_
                simp [hS]
                refine k3 _ ?_
                refine AW.cond false (by simp [Int.natCast_inj]) (fun h => by cases h) (fun _ => ?_)
                refine AW.exit ?_
                simp
                refine k1 _ ?_
                refine AW.seq fun _ kr => AW.region [] Θ_ok ?_
                simp [hS]
                refine kr _ (AW.ret ?_)
                simp [Try.f90]
                have hr := ino_fin hm hI
                have hRl : R.length = g.owner.length := by obtain ⟨_, _, I, _⟩ := hI; exact I.lenR
                refine Fin.freeze (k := true) (SH.r N g who L R []) (fun _ => rfl) rfl (by simp [hRl]) (by
                  intro u hu
                  obtain ⟨z, _, rfl⟩ := List.mem_map.1 hu
                  rfl) h ?_ ⟨by rw [hfin, ← hr]; rfl, rfl⟩
                intro o x hx
                have hne : o ≠ k.r := by
                  rintro rfl
                  rw [N.free k.r (by simp)] at hx; cases hx
                rw [upd_ne _ _ hne]
                exact HL.sub (l := SHl k g who L R []) N o x hx
    · have hok : ¬ (mayE g = 0 ∧ (who = 0 ∨ who = 1)) := fun h => hp h.2
      have hw1 : ¬ who = 0 := fun h => hp (.inl h)
      have hw2 : ¬ who = 1 := fun h => hp (.inr h)
      refine AW.seq fun _ k1 => ?_
      refine AW.seq fun _ k2 => AW.region [] Θ_ok ?_
      simp
      refine (graph_May g hf).use (by simp [G.av]) ?_
      try simp [hm, hw1, hw2]
      refine k2 _ ?_
      refine AW.cond true (by simp [Int.natCast_inj, hw1, hw2]) (fun _ => ?_) (fun h => by cases h)
      refine AW.seq fun _ kr => AW.region [] Θ_ok ?_
      simp
      refine kr _ (AW.ret ?_)
      simp [Try.f90]
      exact Fin.refl ⟨by simp [ranksA, hok], rfl⟩
  · have hok : ¬ (mayE g = 0 ∧ (who = 0 ∨ who = 1)) := fun h => hm h.1
    refine AW.seq fun _ k1 => ?_
    refine AW.seq fun _ k2 => AW.region [] Θ_ok ?_
    simp
    refine (graph_May g hf).use (by simp [G.av]) ?_
    try simp [hm]
    refine k2 _ ?_
    refine AW.cond true (by simp [Int.natCast_inj]) (fun _ => ?_) (fun h => by cases h)
    refine AW.seq fun _ kr => AW.region [] Θ_ok ?_
    simp
    refine kr _ (AW.ret ?_)
    simp [Try.f90]
    exact Fin.refl ⟨by simp [ranksA, hok], rfl⟩
end Go.Par
