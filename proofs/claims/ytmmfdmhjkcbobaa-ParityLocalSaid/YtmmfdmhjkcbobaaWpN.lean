/- Who goes by the strategy comes round on a circle of its own: plain laws for ParityLocal. -/
import Derived.Test.YtmmfdmhjkcbobaaWpK
import Derived.Test.YtmmfdmhjkcbobaaPyC
set_option linter.unusedSimpArgs false
set_option linter.unusedVariables false
namespace Go.Par

def kyL (k : Nat) (way : List Nat) : List (List Int) := (List.range way.length).map fun j => [((way.getD j 0 : Nat) : Int), ((j % k : Nat) : Int)]
theorem kyL_len (k : Nat) (way : List Nat) : (kyL k way).length = way.length := by simp [kyL]
theorem kyL_snoc (k : Nat) (way : List Nat) (v : Nat) : kyL k (way ++ [v]) = kyL k way ++ [[(v : Int), ((way.length % k : Nat) : Int)]] := by
  unfold kyL
  rw [List.length_append, List.length_singleton, List.range_succ, List.map_append]
  congr 1
  · apply List.map_congr_left
    intro j hj
    have hj : j < way.length := by simpa using hj
    simp [hj, List.getElem?_append_left]
  · simp
theorem kyL_get {k : Nat} {way : List Nat} {j : Nat} {a b : Int} (h : (kyL k way)[j]? = some [a, b]) : ∃ u : Nat, way[j]? = some u ∧ a = u := by
  obtain ⟨hj, he⟩ := List.getElem?_eq_some_iff.1 h
  have hj' : j < way.length := by rw [kyL_len] at hj; exact hj
  simp [kyL] at he
  refine ⟨way[j], List.getElem?_eq_getElem hj', ?_⟩
  have := he.1
  rw [List.getElem?_eq_getElem hj'] at this
  exact this.symm
theorem kyL_mem {k : Nat} {way : List Nat} {key : List Int} (h : key ∈ kyL k way) : ∃ u j : Nat, u ∈ way ∧ j < way.length ∧ key = [(u : Int), ((j % k : Nat) : Int)] := by
  obtain ⟨j, hj, rfl⟩ := List.mem_map.1 h
  have hj' : j < way.length := by simpa using hj
  refine ⟨way[j], j, List.getElem_mem hj', hj', ?_⟩
  simp [hj']
theorem kyL_few {k n : Nat} {way : List Nat} (hk : 0 < k) (nd : (kyL k way).Nodup) (h : ∀ u ∈ way, u < n) : way.length ≤ n * k := by
  rw [← kyL_len k way]
  refine codes_len nd (fun key => (key.getD 0 0).toNat * k + (key.getD 1 0).toNat) (fun a ha b hb e => ?_) fun a ha => ?_
  · obtain ⟨u, i, _, _, rfl⟩ := kyL_mem ha
    obtain ⟨v, j, _, _, rfl⟩ := kyL_mem hb
    simp at e
    have h1 := Nat.mod_lt i hk
    have h2 := Nat.mod_lt j hk
    have e1 : ((i : Int) % (k : Int)).toNat = i % k := by omega
    have e2 : ((j : Int) % (k : Int)).toNat = j % k := by omega
    rw [e1, e2] at e
    have q1 : u = v := by
      have a1 : (u * k + i % k) / k = u := by rw [Nat.mul_comm, Nat.mul_add_div hk, Nat.div_eq_of_lt h1]; omega
      have a2 : (v * k + j % k) / k = v := by rw [Nat.mul_comm, Nat.mul_add_div hk, Nat.div_eq_of_lt h2]; omega
      rw [← a1, ← a2, e]
    subst q1
    have q2 : i % k = j % k := by omega
    rw [q2]
  · obtain ⟨u, i, hu, _, rfl⟩ := kyL_mem ha
    have h1 := Nat.mod_lt i hk
    have h2 := h u hu
    have e1 : ((i : Int) % (k : Int)).toNat = i % k := by omega
    simp [e1]
    have : (u + 1) * k ≤ n * k := Nat.mul_le_mul_right _ (by omega)
    rw [Nat.add_mul] at this
    omega

structure LcI (R : Nat → Nat → Prop) (D : Nat → Prop) (k : Nat) (way : List Nat) (v : Nat) : Prop where
  dv : D v
  d : ∀ u ∈ way, D u
  st : Steps R (way ++ [v])
  nd : (kyL k way).Nodup
theorem LcI.init {R : Nat → Nat → Prop} {D : Nat → Prop} {k v : Nat} (h : D v) : LcI R D k [] v := ⟨h, fun u hu => (by cases hu), Steps.one v, List.nodup_nil⟩
theorem LcI.go {R : Nat → Nat → Prop} {D : Nat → Prop} {k : Nat} {way : List Nat} {v w : Nat} (I : LcI R D k way v) (h : [(v : Int), ((way.length % k : Nat) : Int)] ∉ kyL k way) (hr : R v w) (hd : D w) : LcI R D k (way ++ [v]) w := by
  refine ⟨hd, fun u hu => ?_, I.st.snoc hr, ?_⟩
  · rcases List.mem_append.1 hu with hu | hu
    · exact I.d u hu
    · have : u = v := by simpa using hu
      rw [this]; exact I.dv
  · rw [kyL_snoc, List.nodup_append]
    exact ⟨I.nd, by simp, fun a ha b hb => by rw [List.mem_singleton] at hb; subst hb; exact fun e => h (by rw [← e]; exact ha)⟩
/-- What is the greatest on the circle is of who goes by the strategy. -/
theorem LcI.top {g : G} {P : List Int} (ok : POk g P) {who : Int} (hw : who = 0 ∨ who = 1) {T : Nat → Int} {D : Nat → Prop} (W : Wn (gE g) (ow g) (prN P) who T D) {k : Nat} {way : List Nat} {v j : Nat} (I : LcI (stE (gE g) (ow g) who T) D k way v) (hj : way[j]? = some v) :
    (mxS (fI P) (way.drop j) (way.drop j).length).tmod 2 = 1 - who ∧ 0 ≤ mxS (fI P) (way.drop j) (way.drop j).length := by
  have hjl := (List.getElem?_eq_some_iff.1 hj).1
  have hne : way.drop j ≠ [] := fun e => by
    have := congrArg List.length e
    simp at this; omega
  obtain ⟨h1, w, hw1, h2⟩ := mxS_all (fI P) (way.drop j) ok.lo hne
  have hc := I.st.round hj hw1
  have hD : D w := I.d w (List.mem_of_mem_drop hw1)
  have h0 := ok.lo w
  have hnot : ((prN P w % 2 : Nat) : Int) ≠ who := fun e => W.circ w hD e (hc.sub fun a ha => ⟨I.d a (List.mem_of_mem_drop ha), by
    have := h1 a ha
    rw [← h2] at this
    unfold prN; omega⟩)
  rw [← h2]
  refine ⟨?_, h0⟩
  rw [Int.tmod_eq_emod_of_nonneg h0]
  unfold prN at hnot
  rcases hw with rfl | rfl <;> omega
end Go.Par
