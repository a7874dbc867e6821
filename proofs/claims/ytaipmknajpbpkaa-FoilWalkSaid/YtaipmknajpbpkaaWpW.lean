/- Walks with a memory: states that were seen, steps by state: plain laws for PlanWalk and FoilWalk. -/
import Derived.Test.YtaipmknajpbpkaaWpK
import Derived.Test.YtaipmknajpbpkaaS4A
set_option linter.unusedSimpArgs false
set_option linter.unusedVariables false
namespace Go.Par

/-! ### Round: each two are on one circle -/
theorem Steps.conn {R : Nat → Nat → Prop} {way : List Nat} {v j : Nat} (h : Steps R (way ++ [v])) (hj : way[j]? = some v) {m m' : Nat} (hm : m ∈ way.drop j) (hm' : m' ∈ way.drop j) : Way R (fun u => u ∈ way.drop j) m m' := by
  have hv : v ∈ way.drop j := List.mem_iff_getElem?.2 ⟨0, by rw [List.getElem?_drop]; exact hj⟩
  have hjl := (List.getElem?_eq_some_iff.1 hj).1
  have hS : ∀ i, j ≤ i → ∀ x u, i ≤ x → (way ++ [v])[x]? = some u → u ∈ way.drop j := fun i hi x u hx hu => by
    by_cases e : x < way.length
    · rw [List.getElem?_append_left e] at hu
      exact List.mem_iff_getElem?.2 ⟨x - j, by rw [List.getElem?_drop, show j + (x - j) = x by omega]; exact hu⟩
    · have e' : x = way.length := by have := (List.getElem?_eq_some_iff.1 hu).1; simp at this; omega
      subst e'
      simp at hu
      subst hu; exact hv
  have toV : ∀ m, m ∈ way.drop j → Way R (fun u => u ∈ way.drop j) m v := fun m hm => by
    obtain ⟨k, hk⟩ := List.mem_iff_getElem?.1 hm
    rw [List.getElem?_drop] at hk
    have hkl := (List.getElem?_eq_some_iff.1 hk).1
    have hk' : (way ++ [v])[j + k]? = some m := by rw [List.getElem?_append_left hkl]; exact hk
    obtain ⟨d, hd⟩ : ∃ d, way.length = (j + k) + d + 1 := ⟨way.length - (j + k) - 1, by omega⟩
    refine Steps.way h (j + k) d (by simp; omega) (hS _ (by omega)) m v hk' ?_
    rw [← hd]; simp
  have fromV : ∀ m, m ∈ way.drop j → Way R (fun u => u ∈ way.drop j) v m := fun m hm => by
    obtain ⟨k, hk⟩ := List.mem_iff_getElem?.1 hm
    rw [List.getElem?_drop] at hk
    have hkl := (List.getElem?_eq_some_iff.1 hk).1
    have hk' : (way ++ [v])[j + k]? = some m := by rw [List.getElem?_append_left hkl]; exact hk
    have hj' : (way ++ [v])[j]? = some v := by rw [List.getElem?_append_left hjl]; exact hj
    cases k with
    | zero =>
      rw [Nat.add_zero, hj'] at hk'
      cases hk'
      exact toV v hv
    | succ k => exact Steps.way h j k (by simp; omega) (hS _ (Nat.le_refl _)) v m hj' (by rw [show j + k + 1 = j + (k + 1) by omega]; exact hk')
  exact (toV m hm).trans (fromV m' hm')

/-! ### Keys of three -/
def ky3 (K k : Nat) (sts : List Nat) : List (List Int) := (List.range sts.length).map fun j => [((sts.getD j 0 / K : Nat) : Int), ((sts.getD j 0 % K : Nat) : Int), ((j % k : Nat) : Int)]
theorem ky3_len (K k : Nat) (sts : List Nat) : (ky3 K k sts).length = sts.length := by simp [ky3]
theorem ky3_snoc (K k : Nat) (sts : List Nat) (p : Nat) : ky3 K k (sts ++ [p]) = ky3 K k sts ++ [[((p / K : Nat) : Int), ((p % K : Nat) : Int), ((sts.length % k : Nat) : Int)]] := by
  unfold ky3
  rw [List.length_append, List.length_singleton, List.range_succ, List.map_append]
  congr 1
  · apply List.map_congr_left
    intro j hj
    have hj : j < sts.length := by simpa using hj
    simp [hj, List.getElem?_append_left]
  · simp
theorem div_mod_inj {K p q : Nat} (h1 : p / K = q / K) (h2 : p % K = q % K) : p = q := by
  rw [← Nat.div_add_mod p K, ← Nat.div_add_mod q K, h1, h2]
theorem ky3_get {K k : Nat} {sts : List Nat} {j p : Nat} {c : Int} (h : (ky3 K k sts)[j]? = some [((p / K : Nat) : Int), ((p % K : Nat) : Int), c]) : sts[j]? = some p := by
  obtain ⟨hj, he⟩ := List.getElem?_eq_some_iff.1 h
  have hj' : j < sts.length := by rw [ky3_len] at hj; exact hj
  have e0 : sts.getD j 0 = sts[j] := by simp [hj']
  have e1 : (ky3 K k sts)[j] = [((sts.getD j 0 / K : Nat) : Int), ((sts.getD j 0 % K : Nat) : Int), ((j % k : Nat) : Int)] := by
    simp only [ky3, List.getElem_map, List.getElem_range]
  rw [e1, e0] at he
  rw [List.getElem?_eq_getElem hj']
  congr 1
  simp only [List.cons.injEq, Int.natCast_inj] at he
  exact div_mod_inj he.1 he.2.1
theorem ky3_mem {K k : Nat} {sts : List Nat} {key : List Int} (h : key ∈ ky3 K k sts) : ∃ p j : Nat, p ∈ sts ∧ j < sts.length ∧ key = [((p / K : Nat) : Int), ((p % K : Nat) : Int), ((j % k : Nat) : Int)] := by
  obtain ⟨j, hj, rfl⟩ := List.mem_map.1 h
  have hj' : j < sts.length := by simpa using hj
  refine ⟨sts[j], j, List.getElem_mem hj', hj', ?_⟩
  simp [hj']
theorem ky3_few {K k B : Nat} {sts : List Nat} (hk : 0 < k) (nd : (ky3 K k sts).Nodup) (h : ∀ u ∈ sts, u < B) : sts.length ≤ B * k := by
  rw [← ky3_len K k sts]
  obtain ⟨cd, hcd⟩ : ∃ cd : List Int → Nat, cd = fun key : List Int => ((key.getD 0 0).toNat * K + (key.getD 1 0).toNat) * k + (key.getD 2 0).toNat := ⟨_, rfl⟩
  have code : ∀ (p j : Nat), cd [((p / K : Nat) : Int), ((p % K : Nat) : Int), ((j % k : Nat) : Int)] = p * k + j % k := fun p j => by
    have e1 : p / K * K + p % K = p := by rw [Nat.mul_comm]; exact Nat.div_add_mod p K
    rw [hcd]
    show ((((p / K : Nat) : Int)).toNat * K + (((p % K : Nat) : Int)).toNat) * k + (((j % k : Nat) : Int)).toNat = _
    rw [Int.toNat_natCast, Int.toNat_natCast, Int.toNat_natCast, e1]
  refine codes_len nd cd (fun a ha b hb e => ?_) fun a ha => ?_
  · obtain ⟨u, i, _, _, rfl⟩ := ky3_mem ha
    obtain ⟨v, j, _, _, rfl⟩ := ky3_mem hb
    rw [code, code] at e
    have h1 := Nat.mod_lt i hk
    have h2 := Nat.mod_lt j hk
    have q1 : u = v := by
      have a1 : (u * k + i % k) / k = u := by rw [Nat.mul_comm, Nat.mul_add_div hk, Nat.div_eq_of_lt h1]; omega
      have a2 : (v * k + j % k) / k = v := by rw [Nat.mul_comm, Nat.mul_add_div hk, Nat.div_eq_of_lt h2]; omega
      rw [← a1, ← a2, e]
    subst q1
    have q2 : i % k = j % k := by omega
    rw [q2]
  · obtain ⟨u, i, hu, _, rfl⟩ := ky3_mem ha
    rw [code]
    have h1 := Nat.mod_lt i hk
    have h2 := h u hu
    have : (u + 1) * k ≤ B * k := Nat.mul_le_mul_right _ (by omega)
    rw [Nat.add_mul] at this
    omega

structure WkI (R : Nat → Nat → Prop) (S : Nat → Prop) (K k : Nat) (sts : List Nat) (p : Nat) : Prop where
  sp : S p
  s : ∀ u ∈ sts, S u
  st : Steps R (sts ++ [p])
  nd : (ky3 K k sts).Nodup
theorem WkI.init {R : Nat → Nat → Prop} {S : Nat → Prop} {K k p : Nat} (h : S p) : WkI R S K k [] p := ⟨h, fun u hu => (by cases hu), Steps.one p, List.nodup_nil⟩
theorem WkI.go {R : Nat → Nat → Prop} {S : Nat → Prop} {K k : Nat} {sts : List Nat} {p q : Nat} (I : WkI R S K k sts p) (h : [((p / K : Nat) : Int), ((p % K : Nat) : Int), ((sts.length % k : Nat) : Int)] ∉ ky3 K k sts) (hr : R p q) (hs : S q) : WkI R S K k (sts ++ [p]) q := by
  refine ⟨hs, fun u hu => ?_, I.st.snoc hr, ?_⟩
  · rcases List.mem_append.1 hu with hu | hu
    · exact I.s u hu
    · have : u = p := by simpa using hu
      rw [this]; exact I.sp
  · rw [ky3_snoc, List.nodup_append]
    exact ⟨I.nd, by simp, fun a ha b hb => by rw [List.mem_singleton] at hb; subst hb; exact fun e => h (by rw [← e]; exact ha)⟩

/-! ### Rows that are met -/
def mtB (rs : List (List Bool)) (L : List Nat) : Bool := rs.all fun r => L.any fun v => hasN r v
theorem mtB_iff {rs : List (List Bool)} {L : List Nat} : mtB rs L = true ↔ ∀ r ∈ rs, ∃ v ∈ L, hasN r v = true := by
  unfold mtB
  rw [List.all_eq_true]
  exact forall_congr' fun r => forall_congr' fun _ => List.any_eq_true
def anV (r : List Bool) (L : List Nat) (y : Nat) : Bool := (L.take y).any fun v => hasN r v
theorem anV_step (r : List Bool) (L : List Nat) {y : Nat} (hy : y < L.length) : anV r L (y + 1) = (anV r L y || hasN r L[y]) := by
  unfold anV; rw [List.take_succ_eq_append_getElem hy, List.any_append]; simp
theorem mtB_no {rs : List (List Bool)} {L : List Nat} {x : Nat} (hx : x < rs.length) (h : anV rs[x] L L.length = false) : mtB rs L = false := by
  cases hm : mtB rs L with
  | false => rfl
  | true =>
    unfold mtB at hm
    rw [List.all_eq_true] at hm
    have := hm _ (List.getElem_mem hx)
    unfold anV at h
    rw [List.take_length] at h
    rw [h] at this; cases this
theorem mtB_yes {rs : List (List Bool)} {L : List Nat} (h : ∀ x (hx : x < rs.length), anV rs[x] L L.length = true) : mtB rs L = true := by
  unfold mtB
  rw [List.all_eq_true]
  intro r hr
  obtain ⟨x, hx, rfl⟩ := List.mem_iff_getElem.1 hr
  have := h x hx
  unfold anV at this
  rwa [List.take_length] at this

/-! ### The map of the steps -/
def stpM (L : List S4) : List AV := L.map fun s => .tup [.agg ([s.a, s.b].map (AV.int .i64)), .agg s.l]
theorem stp_ent (L : List S4) : (stpM L).map entK = L.map fun s => some [s.a, s.b] := by
  simp [stpM, entK, keyI, intsA_map, Function.comp_def, intsA]
theorem stp_nd {L : List S4} (h : L.Pairwise lexS) : ((stpM L).map entK).Nodup := by
  rw [stp_ent, List.nodup_iff_pairwise_ne, List.pairwise_map]
  refine h.imp fun q e => ?_
  unfold lexS at q
  simp only [Option.some.injEq, List.cons.injEq, and_true] at e
  omega
theorem stp_keys {Q : Program} {kt : TypeId} {L : List S4} (h : L.Pairwise lexS) (hk : ∀ s ∈ L, KeyA Q kt (.agg ([s.a, s.b].map (AV.int .i64)))) : KeysA Q kt (stpM L) := by
  refine ⟨fun u hu => ?_, stp_nd h⟩
  obtain ⟨s, hs, rfl⟩ := List.mem_map.1 hu
  exact ⟨_, _, rfl, hk s hs⟩
theorem stp_look {L : List S4} (h : L.Pairwise lexS) {j : Nat} {s : S4} (hj : L[j]? = some s) : lookM (some [s.a, s.b]) (stpM L) = some (.agg s.l) := by
  refine lookM_at (j := j) (k := .agg ([s.a, s.b].map (AV.int .i64))) (stp_nd h) ?_ (by simp [keyI, intsA])
  unfold stpM
  rw [List.getElem?_map, hj]; rfl
theorem stp_put {L : List S4} {s : S4} (h : (L ++ [s]).Pairwise lexS) : putM (.agg ([s.a, s.b].map (AV.int .i64))) (.agg s.l) (stpM L) = stpM (L ++ [s]) := by
  rw [putM_none fun u hu e => by
    obtain ⟨t, ht, rfl⟩ := List.mem_map.1 hu
    have hl := (List.pairwise_append.1 h).2.2 t ht s (by simp)
    simp only [entK, keyI, intsA_map] at e
    unfold lexS at hl
    simp only [Option.some.injEq, List.cons.injEq, and_true] at e
    omega]
  simp [stpM]
end Go.Par
