/- Counters on a ring: plain laws. -/
import Derived.Test.YtkpdhglbkmbojaaPlI
set_option linter.unusedSimpArgs false
namespace Go.Par

def modN2 (p : Int) (n : Nat) : Int := IntKind.i64.wrap ((IntKind.u64.wrap p).tmod n)
theorem modN2_nat (p : Int) {n : Nat} (h0 : 0 < n) (h : n < 9223372036854775808) : ∃ u : Nat, u < n ∧ modN2 p n = u := by
  have h1 : 0 ≤ IntKind.u64.wrap p := by rw [IntKind.wrap_u64]; omega
  have h2 : (IntKind.u64.wrap p).tmod n = (IntKind.u64.wrap p) % n := Int.tmod_eq_emod_of_nonneg h1
  have h3 := Int.emod_nonneg (IntKind.u64.wrap p) (show (n : Int) ≠ 0 by omega)
  have h4 := Int.emod_lt_of_pos (IntKind.u64.wrap p) (show (0 : Int) < n by omega)
  refine ⟨((IntKind.u64.wrap p) % n).toNat, by omega, ?_⟩
  rw [modN2, h2, IntKind.wrap_i64]
  omega

def ringG (z : Nat) : G := ⟨tab z fun _ => 0, tab z fun v => [(((v + 1) % z : Nat) : Int)]⟩
def allT (z : Nat) : List Bool := tab z fun _ => true

theorem ring_may {z : Nat} (h0 : 0 < z) (h : z ≤ 9) : mayE (ringG z) = 0 := by
  have e1 : (ringG z).owner.length = z := by simp [ringG]
  have e2 : (ringG z).next.length = z := by simp [ringG]
  have : (List.range z).all (okV (ringG z)) = true := all_of_range fun v hv => by
    simp only [okV, e1]
    simp only [ringG, getD_tab, if_pos hv, rise]
    have := Nat.mod_lt (v + 1) h0
    rw [if_neg (by omega)]
    rfl
  unfold mayE
  rw [e1, e2, if_neg (by omega), if_pos rfl, if_pos this]

theorem ring_fits (z : Nat) (h : z ≤ 9) : (ringG z).fits := by
  refine ⟨by simp [ringG]; omega, by simp [ringG]; omega, fun l hl => ?_⟩
  obtain ⟨i, _, rfl⟩ := mem_tab.1 hl
  simp

theorem ring_met {m z i v : Nat} (hi : i < m) (hv : v < z) : metB (List.replicate m (allT z)) i v = true := by
  have : (List.replicate m (allT z)).getD i [] = allT z := by simp [List.getElem?_replicate, hi]
  rw [metB, this]
  have : hasN (allT z) v = true := by simp [hasN, allT, getElem?_tab, hv]
  rw [this, Bool.or_true]

structure RG (m n z : Nat) : Prop where
  m0 : 0 < m
  m4 : m ≤ 4
  n0 : 0 < n
  n4 : n ≤ 4
  z0 : 0 < z
  z9 : z ≤ 9

section
variable {m n z : Nat} (R : RG m n z)
include R

theorem RG.mems : memsN (List.replicate m (allT z)).length (List.replicate n (allT z)).length = m * n := by
  obtain ⟨m0, m4, n0, n4, z0, z9⟩ := R
  simp only [List.length_replicate, memsN]
  rw [if_neg (by omega), Nat.max_eq_right m0, Nat.max_eq_right n0]

theorem RG.mn : m * n ≤ 16 := by
  obtain ⟨m0, m4, n0, n4, z0, z9⟩ := R
  exact Nat.mul_le_mul m4 n4
theorem RG.mn0 : 0 < m * n := Nat.mul_pos R.m0 R.n0
theorem RG.zmn : z * (m * n) ≤ 144 := Nat.mul_le_mul R.z9 R.mn

theorem RG.err : cgErr (ringG z) (List.replicate m (allT z)) (List.replicate n (allT z)) = 0 := by
  have e1 : (ringG z).owner.length = z := by simp [ringG]
  have h1 := R.mn0
  have h2 := R.zmn
  rw [cgErr, if_pos (ring_may R.z0 R.z9), R.mems, e1, if_neg]
  rw [Nat.mul_comm z] at h2
  omega

/-- Where one is in the game with counters after 'k' steps. -/
def atR (m n z k : Nat) : Nat := (k % z) * (m * n) + ((k % m) * n + k % n)

theorem RG.in_ (k : Nat) : (k % m) * n + k % n < m * n := by
  have h1 := Nat.mod_lt k R.m0
  have h2 := Nat.mod_lt k R.n0
  have h3 : (k % m + 1) * n ≤ m * n := Nat.mul_le_mul_right _ h1
  rw [Nat.add_mul, Nat.one_mul] at h3
  omega
theorem RG.at_lt (k : Nat) : atR m n z k < z * (m * n) := by
  have h1 := Nat.mod_lt k R.z0
  have h2 := R.in_ k
  have h3 : (k % z + 1) * (m * n) ≤ z * (m * n) := Nat.mul_le_mul_right _ h1
  rw [Nat.add_mul, Nat.one_mul] at h3
  unfold atR
  omega

theorem RG.onIJ (k v : Nat) (hv : v < z) : onI (List.replicate m (allT z)) (List.replicate n (allT z)) v ((k % m) * n + k % n) = (k + 1) % m ∧ onJ (List.replicate n (allT z)) v ((k % m) * n + k % n) = (k + 1) % n ∧
    ((onPrio (List.replicate m (allT z)) (List.replicate n (allT z)) v ((k % m) * n + k % n) : Nat) : Int) = if k % n = n - 1 then 2 else if k % m = m - 1 then 1 else 0 := by
  have h1 := Nat.mod_lt k R.m0
  have h2 := Nat.mod_lt k R.n0
  have e1 : max 1 (List.replicate m (allT z)).length = m := by rw [List.length_replicate]; exact Nat.max_eq_right R.m0
  have e2 : max 1 (List.replicate n (allT z)).length = n := by rw [List.length_replicate]; exact Nat.max_eq_right R.n0
  obtain ⟨d1, d2⟩ := divmod (x := k % m) h2
  unfold onI onJ onPrio
  rw [e1, e2, d1, d2, ring_met h1 hv, ring_met h2 hv]
  refine ⟨by simp, by simp, ?_⟩
  simp only [Bool.true_and, beq_iff_eq]
  split
  · rfl
  · split <;> rfl

theorem RG.row (k : Nat) : cgRow (ringG z) (List.replicate m (allT z)) (List.replicate n (allT z)) (m * n) (atR m n z k) = [((atR m n z (k + 1) : Nat) : Int)] := by
  have hv := Nat.mod_lt k R.z0
  obtain ⟨d1, d2⟩ := divmod (x := k % z) (R.in_ k)
  obtain ⟨o1, o2, _⟩ := R.onIJ k (k % z) hv
  have e2 : max 1 (List.replicate n (allT z)).length = n := by rw [List.length_replicate]; exact Nat.max_eq_right R.n0
  have hg : (ringG z).next.getD (k % z) [] = [(((k % z + 1) % z : Nat) : Int)] := by simp only [ringG, getD_tab, if_pos hv]
  unfold cgRow atR
  rw [d1, d2, hg, onThen, o1, o2, e2, Nat.mod_add_mod]
  simp
theorem RG.prio (k : Nat) : cgPrio (List.replicate m (allT z)) (List.replicate n (allT z)) (m * n) (atR m n z k) = if k % n = n - 1 then 2 else if k % m = m - 1 then 1 else 0 := by
  have hv := Nat.mod_lt k R.z0
  obtain ⟨d1, d2⟩ := divmod (x := k % z) (R.in_ k)
  unfold cgPrio atR
  rw [d1, d2]
  exact (R.onIJ k (k % z) hv).2.2
end
end Go.Par
