/- The game with counters: plain laws. -/
import Derived.Test.YtkpdhglbkmbojaaCnF
namespace Go.Par

theorem G.wide.rows2 {la : List (List Bool)} (h : (DK.sl (.sl .bool)).fits la) : la.length ≤ 17592186044416 := by
  have h1 : la.length * 24 ≤ reachBytes := h.1
  unfold reachBytes at h1; omega

theorem riseI {l : List Int} {was n : Int} : rise was l n = true ↔ (∀ w ∈ l, was < w ∧ w < n) ∧ l.Pairwise (· < ·) := by
  induction l generalizing was with
  | nil => simp [rise]
  | cons v r ih =>
    simp only [rise]
    split
    · rename_i h
      constructor
      · intro q; cases q
      · rintro ⟨q, _⟩; have := q v (by simp); omega
    · rename_i h
      rw [ih, List.pairwise_cons]
      constructor
      · rintro ⟨q, p⟩
        exact ⟨fun w hw => by
          rcases List.mem_cons.1 hw with rfl | hw
          · omega
          · have := q w hw; omega, fun w hw => (q w hw).1, p⟩
      · rintro ⟨q, p, p'⟩
        exact ⟨fun w hw => ⟨p w hw, (q w (by simp [hw])).2⟩, p'⟩

structure CgOk (g : G) (A E : List (List Bool)) (K : Nat) : Prop where
  m : mayE g = 0
  k : K = memsN A.length E.length
  k0 : 0 < K
  a4 : A.length ≤ 4
  e4 : E.length ≤ 4
  ke : K = max 1 A.length * max 1 E.length
  n : g.owner.length * K ≤ 3000

theorem cg_ok {g : G} {A E : List (List Bool)} (h : cgErr g A E = 0) : CgOk g A E (memsN A.length E.length) := by
  have hm : mayE g = 0 := by
    unfold cgErr at h
    split at h
    · assumption
    · exact h
  have h1 : ¬ (memsN A.length E.length = 0 ∨ 3000 < memsN A.length E.length * g.owner.length) := by
    intro q
    rw [cgErr, if_pos hm, if_pos q] at h
    cases h
  have h2 : ¬ 4 < max A.length E.length := by
    intro q
    exact h1 (.inl (by simp [memsN, q]))
  refine ⟨hm, rfl, by omega, by omega, by omega, by rw [memsN, if_neg h2], ?_⟩
  rw [Nat.mul_comm]
  omega

theorem cg_div {K n x : Nat} (h : x < n * K) : x / K < n := Nat.div_lt_of_lt_mul (by rw [Nat.mul_comm]; exact h)

theorem cg_may {g : G} {A E : List (List Bool)} (h : cgErr g A E = 0) : mayE (cgG g A E) = 0 := by
  obtain ⟨hm, hk, k0, a4, e4, ke, hn⟩ := cg_ok h
  obtain ⟨K, hK⟩ : ∃ K, K = memsN A.length E.length := ⟨_, rfl⟩
  rw [← hK] at k0 ke hn
  obtain ⟨h1, h2, h3⟩ := may_ok hm
  have e1 : (cgG g A E).owner = tab (g.owner.length * K) (cgOwn g K) := by rw [cgG, ← hK]
  have e2 : (cgG g A E).next = tab (g.owner.length * K) (cgRow g A E K) := by rw [cgG, ← hK]
  have : (List.range (g.owner.length * K)).all (okV (cgG g A E)) = true := all_of_range fun i hi => by
    have hv := cg_div hi
    have hq := h3 (i / K) hv
    have hv' : i / K < g.next.length := by omega
    simp only [okV, Bool.and_eq_true, e1, e2] at hq ⊢
    rw [getD_tab, if_pos hi, getD_tab, if_pos hi]
    refine ⟨hq.1, ?_⟩
    have hr := riseI.1 hq.2
    have hT := onThen_lt A E (i / K) (i % K) (by rw [← ke]; exact Nat.mod_lt _ k0)
    rw [← ke] at hT
    rw [cgRow, length_tab]
    generalize onThen A E (i / K) (i % K) = T at hT
    refine riseI.2 ⟨fun w hw => ?_, ?_⟩
    · obtain ⟨u, hu, rfl⟩ := List.mem_map.1 hw
      obtain ⟨q1, q2⟩ := hr.1 u hu
      have b0 : 0 ≤ u * (K : Int) := Int.mul_nonneg (by omega) (by omega)
      have b1 : (u + 1) * (K : Int) ≤ g.owner.length * (K : Int) := Int.mul_le_mul_of_nonneg_right (by omega) (by omega)
      rw [Int.add_mul, Int.one_mul] at b1
      rw [Int.natCast_mul]
      omega
    · rw [List.pairwise_map]
      refine hr.2.imp fun {a b} hab => ?_
      have b1 : (a + 1) * (K : Int) ≤ b * (K : Int) := Int.mul_le_mul_of_nonneg_right (by omega) (by omega)
      rw [Int.add_mul, Int.one_mul] at b1
      omega
  unfold mayE
  rw [e1, e2, length_tab, length_tab, if_neg (by omega), if_pos rfl, if_pos this]

theorem cgPrio_le (A E : List (List Bool)) (K i : Nat) : 0 ≤ cgPrio A E K i ∧ cgPrio A E K i ≤ 2 := by
  unfold cgPrio onPrio
  split
  · omega
  · split <;> omega
end Go.Par
