/- Texts CnA CnB CnC CnD CnE CnF CnH PlI, one behind another. -/
import Derived.Test.YtigipgahgkngcaaFgA
import Derived.Test.YtigipgahgkngcaaFgB
import Derived.Test.YtigipgahgkngcaaMgC
set_option linter.unusedSimpArgs false
set_option maxRecDepth 8000
namespace Go.Par
open Go.Proofs

def memsN (a e : Nat) : Nat := if 4 < max a e then 0 else max 1 a * max 1 e
def metB (A : List (List Bool)) (i v : Nat) : Bool := A.isEmpty || hasN (A.getD i []) v
def onI (A E : List (List Bool)) (v mem : Nat) : Nat := if metB A (mem / max 1 E.length) v then (mem / max 1 E.length + 1) % max 1 A.length else mem / max 1 E.length
def onJ (E : List (List Bool)) (v mem : Nat) : Nat := if metB E (mem % max 1 E.length) v then (mem % max 1 E.length + 1) % max 1 E.length else mem % max 1 E.length
def onThen (A E : List (List Bool)) (v mem : Nat) : Nat := onI A E v mem * max 1 E.length + onJ E v mem
def onPrio (A E : List (List Bool)) (v mem : Nat) : Nat :=
  if metB E (mem % max 1 E.length) v && mem % max 1 E.length == max 1 E.length - 1 then 2 else if metB A (mem / max 1 E.length) v && mem / max 1 E.length == max 1 A.length - 1 then 1 else 0

theorem imax (a b : Nat) : (if a < b then (b : Int) else (a : Int)) = ((max a b : Nat) : Int) := by split <;> omega
theorem imax1 (a : Nat) : (if (1 : Int) < (a : Int) then (a : Int) else 1) = ((max 1 a : Nat) : Int) := by split <;> omega
theorem imax1' (a : Nat) : (if 1 < a then (a : Int) else 1) = ((max 1 a : Nat) : Int) := by split <;> omega

theorem onI_lt (A E : List (List Bool)) (v mem : Nat) (hm : mem < max 1 A.length * max 1 E.length) : onI A E v mem < max 1 A.length := by
  have : mem / max 1 E.length < max 1 A.length := Nat.div_lt_of_lt_mul (by rw [Nat.mul_comm]; exact hm)
  unfold onI
  split
  · exact Nat.mod_lt _ (by omega)
  · exact this
theorem onJ_lt (E : List (List Bool)) (v mem : Nat) : onJ E v mem < max 1 E.length := by
  unfold onJ
  split
  · exact Nat.mod_lt _ (by omega)
  · exact Nat.mod_lt _ (by omega)
theorem onThen_lt (A E : List (List Bool)) (v mem : Nat) (hm : mem < max 1 A.length * max 1 E.length) : onThen A E v mem < max 1 A.length * max 1 E.length := by
  have h1 := onI_lt A E v mem hm
  have h2 := onJ_lt E v mem
  have h3 : (onI A E v mem + 1) * max 1 E.length ≤ max 1 A.length * max 1 E.length := Nat.mul_le_mul_right _ h1
  rw [Nat.add_mul, Nat.one_mul] at h3
  unfold onThen
  omega

end Go.Par

set_option linter.unusedSimpArgs false
set_option maxRecDepth 8000
namespace Go.Par
open Go.Proofs

end Go.Par

set_option linter.unusedSimpArgs false
set_option maxRecDepth 8000
namespace Go.Par
open Go.Proofs

theorem memsN_le (a e : Nat) : memsN a e ≤ 16 := by
  unfold memsN
  split
  · omega
  · have h3 : max 1 a * max 1 e ≤ 4 * 4 := Nat.mul_le_mul (by omega) (by omega)
    omega

def atE (A E : List (List Bool)) (v mem : Int) : Int :=
  if memsN A.length E.length = 0 ∨ v < 0 ∨ 3000 < v ∨ mem < 0 ∨ (memsN A.length E.length : Int) ≤ mem then -1 else v * memsN A.length E.length + mem

end Go.Par

set_option linter.unusedSimpArgs false
set_option linter.unusedVariables false
set_option maxRecDepth 8000
set_option maxHeartbeats 1000000
namespace Go.Par
open Go.Proofs

end Go.Par

set_option linter.unusedSimpArgs false
set_option maxRecDepth 8000
namespace Go.Par
open Go.Proofs

def longB (L : List (List Bool)) : Bool := L.any fun r => decide (300 < r.length)
def heavy18 (g : G) (A E : List (List Bool)) : Int :=
  if 0 < heavyE g then heavyE g else if 40 < g.owner.length ∨ 6 < A.length ∨ 6 < E.length then 1 else if longB A || longB E then 1 else 0

end Go.Par

set_option linter.unusedSimpArgs false
set_option maxRecDepth 8000
namespace Go.Par
open Go.Proofs

def cgOwn (g : G) (K i : Nat) : Int := g.owner.getD (i / K) 0
def cgRow (g : G) (A E : List (List Bool)) (K i : Nat) : List Int := (g.next.getD (i / K) []).map fun w => w * (K : Int) + (onThen A E (i / K) (i % K) : Nat)
def cgPrio (A E : List (List Bool)) (K i : Nat) : Int := (onPrio A E (i / K) (i % K) : Nat)
/-- The game with counters. -/
def cgG (g : G) (A E : List (List Bool)) : G :=
  ⟨tab (g.owner.length * memsN A.length E.length) (cgOwn g (memsN A.length E.length)), tab (g.owner.length * memsN A.length E.length) (cgRow g A E (memsN A.length E.length))⟩
def cgP (g : G) (A E : List (List Bool)) : List Int := tab (g.owner.length * memsN A.length E.length) (cgPrio A E (memsN A.length E.length))
def cgErr (g : G) (A E : List (List Bool)) : Int := if mayE g = 0 then (if memsN A.length E.length = 0 ∨ 3000 < memsN A.length E.length * g.owner.length then 7 else 0) else mayE g
def cgA (g : G) (A E : List (List Bool)) : AV :=
  if cgErr g A E = 0 then .tup [.agg [.ro false (ints (cgG g A E).owner), .ro false (rows (cgG g A E).next)], .ro false (ints (cgP g A E)), .int .i64 0] else .tup [.agg [.nils, .nils], .nils, .int .i64 (cgErr g A E)]

structure CX where
  a : Nat
  b : Nat
  c : Nat
  na : Bool
  nb : Bool
  nc : Bool
  x : Nat
  m : Nat

structure DX where
  d : Nat
  y : Nat
  nd : Bool

section
variable (g : G) (A E : List (List Bool)) (K q : Nat)
def cgO (n : Nat) (nn : Bool) : Ob := ⟨ints (tab n (cgOwn g K)), 3, 1, nn⟩
def cgN (n : Nat) (nn : Bool) : Ob := ⟨rows (tab n (cgRow g A E K)), 28, 1, nn⟩
def cgQ (n : Nat) (nn : Bool) : Ob := ⟨ints (tab n (cgPrio A E K)), 3, 1, nn⟩
def cgS (a b n : Nat) : Ob := ⟨[.mu a n, .mu b n], 39, 2, true⟩
def cgL (a b c n : Nat) (na nb nc : Bool) : List (Nat × Ob) := [(c, cgQ A E K n nc), (b, cgN g A E K n nb), (a, cgO g K n na), (q, cgS a b n)]
end

def cgD (row : List Int) (y K T : Nat) (nd : Bool) : Ob := ⟨ints ((row.take y).map fun w => w * (K : Int) + (T : Int)), 3, 1, nd⟩
theorem cgD_len {row : List Int} {y K T : Nat} {nd : Bool} (h : y ≤ row.length) : (cgD row y K T nd).cells.length = y := by simp [cgD]; omega
theorem cgD_snoc {row : List Int} {y K T : Nat} {nd : Bool} (h : y < row.length) : (⟨List.take y (cgD row y K T nd).cells ++ [.int .i64 (row[y] * (K : Int) + (T : Int))], 3, 1, true⟩ : Ob) = cgD row (y + 1) K T true := by
  have e : List.take y (cgD row y K T nd).cells = (cgD row y K T nd).cells := List.take_of_length_le (by rw [cgD_len (by omega)]; exact Nat.le_refl _)
  rw [e]
  simp only [cgD]
  rw [List.take_succ_eq_append_getElem h]
  simp only [ints, List.map_append, List.map_cons, List.map_nil]
theorem cgO_len {g : G} {K n : Nat} {nn : Bool} : (cgO g K n nn).cells.length = n := by simp [cgO]
theorem cgN_len {g : G} {A E : List (List Bool)} {K n : Nat} {nn : Bool} : (cgN g A E K n nn).cells.length = n := by simp [cgN]
theorem cgQ_len {A E : List (List Bool)} {K n : Nat} {nn : Bool} : (cgQ A E K n nn).cells.length = n := by simp [cgQ]
theorem cgO_snoc {g : G} {K n : Nat} {nn : Bool} {v : Int} (h : cgOwn g K n = v) : (⟨List.take n (cgO g K n nn).cells ++ [.int .i64 v], 3, 1, true⟩ : Ob) = cgO g K (n + 1) true := by
  have e : List.take n (cgO g K n nn).cells = (cgO g K n nn).cells := List.take_of_length_le (by rw [cgO_len]; exact Nat.le_refl _)
  rw [e, ← h]; simp [cgO, tab_succ]
theorem cgN_snoc {g : G} {A E : List (List Bool)} {K n : Nat} {nn : Bool} {v : List Int} (h : cgRow g A E K n = v) : (⟨List.take n (cgN g A E K n nn).cells ++ [.ro false (ints v)], 28, 1, true⟩ : Ob) = cgN g A E K (n + 1) true := by
  have e : List.take n (cgN g A E K n nn).cells = (cgN g A E K n nn).cells := List.take_of_length_le (by rw [cgN_len]; exact Nat.le_refl _)
  rw [e, ← h]; simp [cgN, tab_succ]
theorem cgQ_snoc {A E : List (List Bool)} {K n : Nat} {nn : Bool} {v : Int} (h : cgPrio A E K n = v) : (⟨List.take n (cgQ A E K n nn).cells ++ [.int .i64 v], 3, 1, true⟩ : Ob) = cgQ A E K (n + 1) true := by
  have e : List.take n (cgQ A E K n nn).cells = (cgQ A E K n nn).cells := List.take_of_length_le (by rw [cgQ_len]; exact Nat.le_refl _)
  rw [e, ← h]; simp [cgQ, tab_succ]

def L4 (c : Nat) (C : Ob) (b : Nat) (B : Ob) (a : Nat) (A' : Ob) (q : Nat) (S : Ob) : List (Nat × Ob) := [(c, C), (b, B), (a, A'), (q, S)]
def cgS2 (a n b m : Nat) : Ob := ⟨[.mu a n, .mu b m], 39, 2, true⟩

theorem cgS2_c (a n b m : Nat) : (cgS2 a n b m).cells = [.mu a n, .mu b m] := rfl

theorem ints_snoc (n : Nat) (f : Nat → Int) : ints (tab n f) ++ [.int .i64 (f n)] = ints (tab (n + 1) f) := by simp [tab_succ]
theorem rows_snoc (n : Nat) (f : Nat → List Int) : rows (tab n f) ++ [.ro false (ints (f n))] = rows (tab (n + 1) f) := by simp [tab_succ]

theorem divmod {x m K : Nat} (h : m < K) : (x * K + m) / K = x ∧ (x * K + m) % K = m := by
  constructor
  · rw [Nat.mul_comm, Nat.mul_add_div (by omega), Nat.div_eq_of_lt h, Nat.add_zero]
  · rw [Nat.mul_comm, Nat.mul_add_mod, Nat.mod_eq_of_lt h]

theorem rise_len' {g : G} (hm : mayE g = 0) {v : Nat} (hv : v < g.next.length) : g.next[v].length ≤ 3000 := by
  have h3 := (may_ok hm).1
  have := may_row hm (show v < g.owner.length by have := (may_ok hm).2.1; omega) hv
  have h4 := (may_ok hm).2.2 v (by have := (may_ok hm).2.1; omega)
  simp only [okV, Bool.and_eq_true, List.getD_eq_getElem?_getD, List.getElem?_eq_getElem hv, Option.getD_some] at h4
  have aux : ∀ {l : List Int} {was n : Int}, rise was l n = true → l = [] ∨ was + l.length < n := by
    intro l
    induction l with
    | nil => intro was n _; exact .inl rfl
    | cons v r ih =>
      intro was n h
      simp only [rise] at h
      split at h
      · cases h
      · right
        rcases ih h with rfl | q
        · simp; omega
        · simp only [List.length_cons]; omega
  rcases aux h4.2 with e | e
  · rw [e]; simp
  · omega

end Go.Par

set_option linter.unusedSimpArgs false
set_option maxRecDepth 8000
namespace Go.Par
open Go.Proofs

end Go.Par

namespace Go.Par

theorem G.wide.rows2 {la : List (List Bool)} (h : (DK.sl (.sl .bool)).fits la) : la.length ≤ 17592186044416 := by
  have h1 : la.length * 24 ≤ reachBytes := h.1
  unfold reachBytes at h1; omega

theorem riseI {l : List Int} {was n : Int} : rise was l n = true ↔ (∀ w ∈ l, was < w ∧ w < n) ∧ l.Pairwise (· < ·) := by
  induction l generalizing was with
  | nil => simp [rise]
  | cons v r ih =>
    simp only [rise]
    split
    · rename_i h
      constructor
      · intro q; cases q
      · rintro ⟨q, _⟩; have := q v (by simp); omega
    · rename_i h
      rw [ih, List.pairwise_cons]
      constructor
      · rintro ⟨q, p⟩
        exact ⟨fun w hw => by
          rcases List.mem_cons.1 hw with rfl | hw
          · omega
          · have := q w hw; omega, fun w hw => (q w hw).1, p⟩
      · rintro ⟨q, p, p'⟩
        exact ⟨fun w hw => ⟨p w hw, (q w (by simp [hw])).2⟩, p'⟩

structure CgOk (g : G) (A E : List (List Bool)) (K : Nat) : Prop where
  m : mayE g = 0
  k : K = memsN A.length E.length
  k0 : 0 < K
  a4 : A.length ≤ 4
  e4 : E.length ≤ 4
  ke : K = max 1 A.length * max 1 E.length
  n : g.owner.length * K ≤ 3000

theorem cg_ok {g : G} {A E : List (List Bool)} (h : cgErr g A E = 0) : CgOk g A E (memsN A.length E.length) := by
  have hm : mayE g = 0 := by
    unfold cgErr at h
    split at h
    · assumption
    · exact h
  have h1 : ¬ (memsN A.length E.length = 0 ∨ 3000 < memsN A.length E.length * g.owner.length) := by
    intro q
    rw [cgErr, if_pos hm, if_pos q] at h
    cases h
  have h2 : ¬ 4 < max A.length E.length := by
    intro q
    exact h1 (.inl (by simp [memsN, q]))
  refine ⟨hm, rfl, by omega, by omega, by omega, by rw [memsN, if_neg h2], ?_⟩
  rw [Nat.mul_comm]
  omega

theorem cg_div {K n x : Nat} (h : x < n * K) : x / K < n := Nat.div_lt_of_lt_mul (by rw [Nat.mul_comm]; exact h)

theorem cg_may {g : G} {A E : List (List Bool)} (h : cgErr g A E = 0) : mayE (cgG g A E) = 0 := by
  obtain ⟨hm, hk, k0, a4, e4, ke, hn⟩ := cg_ok h
  obtain ⟨K, hK⟩ : ∃ K, K = memsN A.length E.length := ⟨_, rfl⟩
  rw [← hK] at k0 ke hn
  obtain ⟨h1, h2, h3⟩ := may_ok hm
  have e1 : (cgG g A E).owner = tab (g.owner.length * K) (cgOwn g K) := by rw [cgG, ← hK]
  have e2 : (cgG g A E).next = tab (g.owner.length * K) (cgRow g A E K) := by rw [cgG, ← hK]
  have : (List.range (g.owner.length * K)).all (okV (cgG g A E)) = true := all_of_range fun i hi => by
    have hv := cg_div hi
    have hq := h3 (i / K) hv
    have hv' : i / K < g.next.length := by omega
    simp only [okV, Bool.and_eq_true, e1, e2] at hq ⊢
    rw [getD_tab, if_pos hi, getD_tab, if_pos hi]
    refine ⟨hq.1, ?_⟩
    have hr := riseI.1 hq.2
    have hT := onThen_lt A E (i / K) (i % K) (by rw [← ke]; exact Nat.mod_lt _ k0)
    rw [← ke] at hT
    rw [cgRow, length_tab]
    generalize onThen A E (i / K) (i % K) = T at hT
    refine riseI.2 ⟨fun w hw => ?_, ?_⟩
    · obtain ⟨u, hu, rfl⟩ := List.mem_map.1 hw
      obtain ⟨q1, q2⟩ := hr.1 u hu
      have b0 : 0 ≤ u * (K : Int) := Int.mul_nonneg (by omega) (by omega)
      have b1 : (u + 1) * (K : Int) ≤ g.owner.length * (K : Int) := Int.mul_le_mul_of_nonneg_right (by omega) (by omega)
      rw [Int.add_mul, Int.one_mul] at b1
      rw [Int.natCast_mul]
      omega
    · rw [List.pairwise_map]
      refine hr.2.imp fun {a b} hab => ?_
      have b1 : (a + 1) * (K : Int) ≤ b * (K : Int) := Int.mul_le_mul_of_nonneg_right (by omega) (by omega)
      rw [Int.add_mul, Int.one_mul] at b1
      omega
  unfold mayE
  rw [e1, e2, length_tab, length_tab, if_neg (by omega), if_pos rfl, if_pos this]

theorem cgPrio_le (A E : List (List Bool)) (K i : Nat) : 0 ≤ cgPrio A E K i ∧ cgPrio A E K i ≤ 2 := by
  unfold cgPrio onPrio
  split
  · omega
  · split <;> omega
end Go.Par
