/- A heap of pairs: what container/heap does with a row. -/
import Derived.Test.YtlpfokngocdanaaMaY
set_option linter.unusedSimpArgs false
set_option linter.unusedVariables false
namespace Go.Par

abbrev Pr := Nat × Nat
def prV (p : Pr) : AV := .agg [.int .i64 p.1, .int .i64 p.2]
def prF : List Pr → List AV
  | [] => []
  | p :: T => .int .i64 p.1 :: .int .i64 p.2 :: prF T
def lessP (a b : Pr) : Bool := if a.2 = b.2 then decide (a.1 < b.1) else decide (a.2 < b.2)
def pat (T : List Pr) (i : Nat) : Pr := T.getD i (0, 0)
def swapL (T : List Pr) (i j : Nat) : List Pr := (T.set i (pat T j)).set j (pat T i)

theorem prF_len : ∀ T : List Pr, (prF T).length = 2 * T.length
  | [] => rfl
  | p :: T => by simp only [prF, List.length_cons, prF_len T]; omega
theorem prF_drop : ∀ (T : List Pr) (i : Nat), i < T.length → (prF T).drop (i * 2) = .int .i64 (pat T i).1 :: .int .i64 (pat T i).2 :: prF (T.drop (i + 1))
  | [], i, h => by simp at h
  | p :: T, 0, _ => by simp [prF, pat]
  | p :: T, i + 1, h => by
    have := prF_drop T i (by simpa using h)
    rw [show (i + 1) * 2 = i * 2 + 1 + 1 by omega]
    simp only [prF, List.drop_succ_cons, this, pat, List.getD_cons_succ]
theorem prF_drop1 (T : List Pr) (i : Nat) (h : i < T.length) : (prF T).drop (i * 2 + 1) = .int .i64 (pat T i).2 :: prF (T.drop (i + 1)) := by
  rw [← List.drop_drop, prF_drop T i h]; rfl
theorem prF_set : ∀ (T : List Pr) (i : Nat) (p : Pr), i < T.length → ((prF T).set (i * 2) (.int .i64 p.1)).set (i * 2 + 1) (.int .i64 p.2) = prF (T.set i p)
  | [], i, p, h => by simp at h
  | q :: T, 0, p, _ => by simp [prF]
  | q :: T, i + 1, p, h => by
    have := prF_set T i p (by simpa using h)
    rw [show (i + 1) * 2 = i * 2 + 1 + 1 by omega]
    simp only [prF, List.set_cons_succ, this]
theorem prF_append : ∀ (T : List Pr) (p : Pr), prF T ++ [.int .i64 p.1, .int .i64 p.2] = prF (T ++ [p])
  | [], p => rfl
  | q :: T, p => by simp only [prF, List.cons_append, prF_append T p]
theorem prF_take : ∀ (T : List Pr) (n : Nat), (prF T).take (n * 2) = prF (T.take n)
  | [], n => by simp [prF]
  | p :: T, 0 => by simp [prF]
  | p :: T, n + 1 => by
    rw [show (n + 1) * 2 = n * 2 + 1 + 1 by omega]
    simp only [prF, List.take_succ_cons, prF_take T n]
theorem prF_inj : ∀ {T T' : List Pr}, T = T' → prF T = prF T' := fun h => by rw [h]

theorem swap_len (T : List Pr) (i j : Nat) : (swapL T i j).length = T.length := by simp [swapL]
theorem pat_lt {T : List Pr} {i : Nat} (h : i < T.length) : pat T i = T[i] := by simp [pat, h]
theorem pat_set {T : List Pr} {i j : Nat} {p : Pr} (h : j < T.length) : pat (T.set i p) j = if i = j then p else pat T j := by
  rw [pat_lt (by simpa using h), List.getElem_set]
  split
  · rfl
  · rw [pat_lt h]
theorem pat_swap {T : List Pr} {i j k : Nat} (hi : i < T.length) (hj : j < T.length) (hk : k < T.length) : pat (swapL T i j) k = if k = j then pat T i else if k = i then pat T j else pat T k := by
  unfold swapL
  rw [pat_set (by simpa using hk), pat_set hk]
  by_cases e : j = k
  · subst e; simp
  · by_cases e2 : i = k
    · subst e2; simp [e, Ne.symm e]
    · simp [e, e2, Ne.symm e, Ne.symm e2]

def upL (T : List Pr) (j : Nat) : List Pr :=
  if j = 0 then T else if lessP (pat T j) (pat T ((j - 1) / 2)) = true then upL (swapL T ((j - 1) / 2) j) ((j - 1) / 2) else T
termination_by j
decreasing_by omega

def kidL (T : List Pr) (i n : Nat) : Nat := if 2 * i + 2 < n ∧ lessP (pat T (2 * i + 2)) (pat T (2 * i + 1)) = true then 2 * i + 2 else 2 * i + 1
theorem kid_bounds (T : List Pr) (i n : Nat) : 2 * i + 1 ≤ kidL T i n ∧ (2 * i + 1 < n → kidL T i n < n) := by
  unfold kidL; split <;> omega
def downL (T : List Pr) (i n : Nat) : List Pr :=
  if 2 * i + 1 < n then if lessP (pat T (kidL T i n)) (pat T i) = true then downL (swapL T i (kidL T i n)) (kidL T i n) n else T else T
termination_by n - i
decreasing_by have := kid_bounds T i n; omega

theorem upL_len : ∀ (j : Nat) (T : List Pr), (upL T j).length = T.length := by
  intro j
  induction j using Nat.strongRecOn with
  | ind j ih =>
    intro T
    rw [upL]
    split
    · rfl
    · split
      · rw [ih _ (by omega), swap_len]
      · rfl
theorem downL_len (n : Nat) : ∀ (m i : Nat) (T : List Pr), n - i = m → (downL T i n).length = T.length := by
  intro m
  induction m using Nat.strongRecOn with
  | ind m ih =>
    intro i T h
    rw [downL]
    split
    · split
      · have := kid_bounds T i n
        rw [ih (n - kidL T i n) (by omega) _ _ rfl, swap_len]
      · rfl
    · rfl

def pushL (T : List Pr) (p : Pr) : List Pr := upL (T ++ [p]) T.length
/-- What is left, and what was taken. -/
def popL (T : List Pr) : List Pr := (downL (swapL T 0 (T.length - 1)) 0 (T.length - 1)).take (T.length - 1)
def popV (T : List Pr) : Pr := pat (downL (swapL T 0 (T.length - 1)) 0 (T.length - 1)) (T.length - 1)
end Go.Par
