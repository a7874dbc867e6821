/- Texts KsA KsB KsC KsD KsE KsF KsG KsH, one behind another. -/
import Derived.Test.YtaipmknajpbpkaaWyA
import Derived.Test.YtaipmknajpbpkaaFgB
import Derived.Test.YtaipmknajpbpkaaFgA
import Derived.Test.YtaipmknajpbpkaaAgA
import Derived.Test.YtaipmknajpbpkaaMgC
import Derived.Test.YtaipmknajpbpkaaRgA
set_option linter.unusedSimpArgs false
set_option linter.unusedVariables false
namespace Go.Par

section
variable {E : Nat → Nat → Prop} {S : Nat → Prop}

/-- What an order of leaving tells. -/
structure OrdAt (E : Nat → Nat → Prop) (S : Nat → Prop) (O : List Nat) (i b : Nat) (v : Nat) : Prop where
  le : b ≤ i
  to : ∀ j x, b ≤ j → j < i → O[j]? = some x → Way E S v x
  cl : ∀ j x y, j < b → O[j]? = some x → S y → E x y → y ∈ O.take b ∨ y ∉ O.take (i + 1)
def Ord (E : Nat → Nat → Prop) (S : Nat → Prop) (O : List Nat) : Prop := O.Nodup ∧ (∀ x ∈ O, S x) ∧ ∀ i v, O[i]? = some v → ∃ b, OrdAt E S O i b v

/-- While one goes along: 'O' is left, 'K' is gone through (what was left when it was met, and how far its ways are seen). -/
structure Dfs (E : Nat → Nat → Prop) (S : Nat → Prop) (nx : Nat → Nat → Option Nat) (O : List Nat) (K : List (Nat × Nat)) (B : Nat → Nat) : Prop where
  ord : Ord E S O
  nd : (O ++ K.map Prod.fst).Nodup
  ins : ∀ p ∈ K, S p.1
  ble : ∀ k, k < K.length → B k ≤ O.length
  to : ∀ (k : Nat) (p : Nat × Nat) (j x : Nat), K[k]? = some p → B k ≤ j → O[j]? = some x → Way E S p.1 x
  cl : ∀ k j x y, k < K.length → j < B k → O[j]? = some x → S y → E x y → y ∈ O.take (B k) ∨ y ∈ (K.map Prod.fst).take k
  ch : ∀ (k k' : Nat) (p p' : Nat × Nat), k < k' → K[k]? = some p → K[k']? = some p' → Way E S p.1 p'.1
  bl : ∀ x y, x ∈ O → S y → E x y → y ∈ O ∨ y ∈ K.map Prod.fst
  at_ : ∀ p ∈ K, ∀ i y, i < p.2 → nx p.1 i = some y → S y → y ∈ O ∨ y ∈ K.map Prod.fst

variable {nx : Nat → Nat → Option Nat} {O : List Nat} {K : List (Nat × Nat)} {B : Nat → Nat}

theorem Dfs.init : Dfs E S nx [] [] B := by
  refine ⟨⟨List.nodup_nil, fun x h => by simp at h, fun i v h => by simp at h⟩, by simp, fun p h => by simp at h, fun k h => by simp at h, fun k p j x h => by simp at h, fun k j x y h => by simp at h, fun k k' p p' _ h => by simp at h, fun x y h => by simp at h, fun p h => by simp at h⟩

/-- A vertex is met: from the last one, or anew. -/
theorem Dfs.push (D : Dfs E S nx O K B) {v : Nat} (hv : S v) (hn : v ∉ O ∧ v ∉ K.map Prod.fst) (hc : ∀ p, K.getLast? = some p → E p.1 v) : Dfs E S nx O (K ++ [(v, 0)]) (fun k => if k < K.length then B k else O.length) := by
  have km : (K ++ [(v, 0)]).map Prod.fst = K.map Prod.fst ++ [v] := by simp
  refine ⟨D.ord, ?_, fun p hp => ?_, fun k hk => ?_, fun k p j x hk hb hj => ?_, fun k j x y hk hj hx hy e => ?_, fun k k' p p' hkk hk hk' => ?_, fun x y hx hy e => ?_, fun p hp i y hi hy hs => ?_⟩
  · rw [km, ← List.append_assoc, List.nodup_append]
    refine ⟨D.nd, by simp, fun a ha b hb => ?_⟩
    simp at hb; subst hb
    rintro rfl
    rcases List.mem_append.1 ha with h | h
    · exact hn.1 h
    · exact hn.2 h
  · rcases List.mem_append.1 hp with h | h
    · exact D.ins p h
    · simp at h; subst h; exact hv
  · split
    · exact D.ble k (by assumption)
    · exact Nat.le_refl _
  · by_cases q : k < K.length
    · rw [List.getElem?_append_left q] at hk
      rw [if_pos q] at hb
      exact D.to k p j x hk hb hj
    · rw [if_neg q] at hb
      have := (List.getElem?_eq_some_iff.1 hj).1
      omega
  · rw [km]
    by_cases q : k < K.length
    · rw [if_pos q] at hj ⊢
      rcases D.cl k j x y q hj hx hy e with z | z
      · exact .inl z
      · refine .inr ?_
        rw [List.take_append_of_le_length (by simp; omega)]; exact z
    · rw [if_neg q] at hj ⊢
      have ke : k = K.length := by simp at hk; omega
      subst ke
      rcases D.bl x y (List.mem_of_getElem? hx) hy e with z | z
      · left; rw [List.take_of_length_le (Nat.le_refl _)]; exact z
      · right
        rw [List.take_append_of_le_length (by simp), List.take_of_length_le (by simp)]
        exact z
  · have hk1 : k < K.length := by
      have := (List.getElem?_eq_some_iff.1 hk').1
      simp at this; omega
    rw [List.getElem?_append_left hk1] at hk
    by_cases q : k' < K.length
    · rw [List.getElem?_append_left q] at hk'
      exact D.ch k k' p p' hkk hk hk'
    · have ke : k' = K.length := by
        have := (List.getElem?_eq_some_iff.1 hk').1
        simp at this; omega
      subst ke
      simp at hk'
      subst hk'
      have hne : K ≠ [] := fun e => by rw [e] at hk1; simp at hk1
      have hl : K.getLast? = some (K.getLast hne) := List.getLast?_eq_some_getLast hne
      have el := hc _ hl
      have hli : K[K.length - 1]? = some (K.getLast hne) := by rw [← List.getLast?_eq_getElem?, hl]
      by_cases z : k = K.length - 1
      · subst z
        rw [hli] at hk; cases hk
        exact .one (D.ins _ (List.getLast_mem hne)) hv el
      · exact (D.ch k (K.length - 1) p _ (by omega) hk hli).snoc el hv
  · rw [km]
    rcases D.bl x y hx hy e with z | z
    · exact .inl z
    · exact .inr (List.mem_append_left _ z)
  · rw [km]
    rcases List.mem_append.1 hp with h | h
    · rcases D.at_ p h i y hi hy hs with z | z
      · exact .inl z
      · exact .inr (List.mem_append_left _ z)
    · simp at h; subst h; simp at hi

/-- One more way of the last one is seen. -/
theorem Dfs.see {v a : Nat} (D : Dfs E S nx O (K ++ [(v, a)]) B) (h : ∀ y, nx v a = some y → S y → y ∈ O ∨ y ∈ (K ++ [(v, a)]).map Prod.fst) : Dfs E S nx O (K ++ [(v, a + 1)]) B := by
  have km : (K ++ [(v, a + 1)]).map Prod.fst = (K ++ [(v, a)]).map Prod.fst := by simp
  have kl : (K ++ [(v, a + 1)]).length = (K ++ [(v, a)]).length := by simp
  have ge : ∀ (k : Nat) (p : Nat × Nat), (K ++ [(v, a + 1)])[k]? = some p → ∃ p', (K ++ [(v, a)])[k]? = some p' ∧ p'.1 = p.1 := by
    intro k p hk
    by_cases q : k < K.length
    · rw [List.getElem?_append_left q] at hk ⊢
      exact ⟨p, hk, rfl⟩
    · have ke : k = K.length := by
        have := (List.getElem?_eq_some_iff.1 hk).1
        simp at this; omega
      subst ke
      simp at hk ⊢; subst hk; rfl
  refine ⟨D.ord, by rw [km]; exact D.nd, fun p hp => ?_, fun k hk => D.ble k (by rw [← kl]; exact hk), fun k p j x hk hb hj => ?_, fun k j x y hk hj hx hy e => ?_, fun k k' p p' hkk hk hk' => ?_, by rw [km]; exact D.bl, fun p hp i y hi hy hs => ?_⟩
  · rcases List.mem_append.1 hp with q | q
    · exact D.ins p (List.mem_append_left _ q)
    · simp at q; subst q; exact D.ins (v, a) (by simp)
  · obtain ⟨p', h1, h2⟩ := ge k p hk
    rw [← h2]; exact D.to k p' j x h1 hb hj
  · rw [km]; exact D.cl k j x y (by rw [← kl]; exact hk) hj hx hy e
  · obtain ⟨q, h1, h2⟩ := ge k p hk
    obtain ⟨q', h3, h4⟩ := ge k' p' hk'
    rw [← h2, ← h4]; exact D.ch k k' q q' hkk h1 h3
  · rw [km]
    rcases List.mem_append.1 hp with q | q
    · exact D.at_ p (List.mem_append_left _ q) i y hi hy hs
    · simp at q; subst q
      by_cases z : i = a
      · subst z; exact h y hy hs
      · exact D.at_ (v, a) (by simp) i y (by simp at hi; simp; omega) hy hs

/-- The last one is left. -/
theorem Dfs.leave {v a : Nat} (D : Dfs E S nx O (K ++ [(v, a)]) B) (h : ∀ y, S y → E v y → ∃ i, i < a ∧ nx v i = some y) : Dfs E S nx (O ++ [v]) K B := by
  have km : (K ++ [(v, a)]).map Prod.fst = K.map Prod.fst ++ [v] := by simp
  have nd := D.nd
  rw [km, ← List.append_assoc] at nd
  have hvn : v ∉ O ++ K.map Prod.fst := fun q => (List.nodup_append.1 nd).2.2 v q v (by simp) rfl
  have kt : (K ++ [(v, a)])[K.length]? = some (v, a) := by simp
  have bv := D.ble K.length (by simp)
  have nd2 : (O ++ [v] ++ K.map Prod.fst).Nodup := by
    have p : (O ++ [v] ++ K.map Prod.fst).Perm (O ++ K.map Prod.fst ++ [v]) := by
      rw [List.append_assoc, List.append_assoc]
      exact List.Perm.append_left _ List.perm_append_comm
    exact p.nodup_iff.2 nd
  have hv : S v := D.ins (v, a) (by simp)
  have tk : ∀ b, b ≤ O.length → (O ++ [v]).take b = O.take b := fun b hb => List.take_append_of_le_length hb
  refine ⟨⟨(List.nodup_append.1 nd2).1, fun x hx => ?_, fun i w hi => ?_⟩, nd2, fun p hp => D.ins p (List.mem_append_left _ hp), fun k hk => ?_, fun k p j x hk hb hj => ?_, fun k j x y hk hj hx hy e => ?_, fun k k' p p' hkk hk hk' => ?_, fun x y hx hy e => ?_, fun p hp i y hi hy hs => ?_⟩
  · rcases List.mem_append.1 hx with q | q
    · exact D.ord.2.1 x q
    · simp at q; subst q; exact hv
  · by_cases q : i < O.length
    · rw [List.getElem?_append_left q] at hi
      obtain ⟨b, o⟩ := D.ord.2.2 i w hi
      refine ⟨b, o.le, fun j x h1 h2 h3 => ?_, fun j x y h1 h2 h3 h4 => ?_⟩
      · rw [List.getElem?_append_left (by omega)] at h3
        exact o.to j x h1 h2 h3
      · have := o.le
        rw [List.getElem?_append_left (by omega)] at h2
        rw [tk _ (by omega), tk _ (by omega)]
        exact o.cl j x y h1 h2 h3 h4
    · have ie : i = O.length := by
        have := (List.getElem?_eq_some_iff.1 hi).1
        simp at this; omega
      subst ie
      simp at hi; subst hi
      refine ⟨B K.length, bv, fun j x h1 h2 h3 => ?_, fun j x y h1 h2 h3 h4 => ?_⟩
      · rw [List.getElem?_append_left h2] at h3
        exact D.to K.length (v, a) j x kt h1 h3
      · rw [List.getElem?_append_left (by omega)] at h2
        rw [tk _ bv]
        rcases D.cl K.length j x y (by simp) h1 h2 h3 h4 with z | z
        · exact .inl z
        · right
          rw [km, List.take_append_of_le_length (by simp), List.take_of_length_le (by simp)] at z
          intro q
          exact (List.nodup_append.1 nd2).2.2 y (List.mem_of_mem_take q) y z rfl
  · have := D.ble k (by simp; omega)
    simp; omega
  · have hk' : (K ++ [(v, a)])[k]? = some p := by
      rw [List.getElem?_append_left (List.getElem?_eq_some_iff.1 hk).1]; exact hk
    by_cases q : j < O.length
    · rw [List.getElem?_append_left q] at hj
      exact D.to k p j x hk' hb hj
    · have je : j = O.length := by
        have := (List.getElem?_eq_some_iff.1 hj).1
        simp at this; omega
      subst je
      simp at hj; subst hj
      exact D.ch k K.length p (v, a) (List.getElem?_eq_some_iff.1 hk).1 hk' kt
  · have bk := D.ble k (by simp; omega)
    rw [List.getElem?_append_left (by omega)] at hx
    rw [tk _ bk]
    rcases D.cl k j x y (by simp; omega) hj hx hy e with z | z
    · exact .inl z
    · right
      rw [km, List.take_append_of_le_length (by simp; omega)] at z
      exact z
  · refine D.ch k k' p p' hkk ?_ ?_
    · rw [List.getElem?_append_left (List.getElem?_eq_some_iff.1 hk).1]; exact hk
    · rw [List.getElem?_append_left (List.getElem?_eq_some_iff.1 hk').1]; exact hk'
  · have key : ∀ y, (y ∈ O ∨ y ∈ (K ++ [(v, a)]).map Prod.fst) → y ∈ O ++ [v] ∨ y ∈ K.map Prod.fst := by
      intro y q
      rcases q with q | q
      · exact .inl (List.mem_append_left _ q)
      · rw [km] at q
        rcases List.mem_append.1 q with q | q
        · exact .inr q
        · exact .inl (List.mem_append_right _ q)
    rcases List.mem_append.1 hx with q | q
    · exact key y (D.bl x y q hy e)
    · simp at q; subst q
      obtain ⟨i, h1, h2⟩ := h y hy e
      exact key y (D.at_ (x, a) (by simp) i y h1 h2 hy)
  · have key : ∀ y, (y ∈ O ∨ y ∈ (K ++ [(v, a)]).map Prod.fst) → y ∈ O ++ [v] ∨ y ∈ K.map Prod.fst := by
      intro y q
      rcases q with q | q
      · exact .inl (List.mem_append_left _ q)
      · rw [km] at q
        rcases List.mem_append.1 q with q | q
        · exact .inr q
        · exact .inl (List.mem_append_right _ q)
    exact key y (D.at_ p (List.mem_append_left _ hp) i y hi hy hs)

/-- Who comes to a vertex without meeting one that was left later, is come to from it. -/
theorem Ord.back (h : Ord E S O) {i v w : Nat} (hi : O[i]? = some v) {U : Nat → Prop} (hU : ∀ x, U x → x ∈ O.take (i + 1)) (hS : ∀ x, U x → S x) (hw : Way E U w v) : w = v ∨ Way E S v w := by
  obtain ⟨nd, _, oa⟩ := h
  obtain ⟨b, o⟩ := oa i v hi
  have hil := (List.getElem?_eq_some_iff.1 hi).1
  have wi := hU w hw.fst
  obtain ⟨j, hj⟩ := List.mem_iff_getElem?.1 wi
  have hji : j < i + 1 := by
    have := (List.getElem?_eq_some_iff.1 hj).1
    simp at this; omega
  rw [List.getElem?_take_of_lt hji] at hj
  by_cases e : j = i
  · subst e; rw [hi] at hj; cases hj; exact .inl rfl
  have hjlt : j < i := by omega
  by_cases q : b ≤ j
  · exact .inr (o.to j w q hjlt hj)
  exfalso
  have ol := o.le
  have inb : ∀ x, x ∈ O.take b → ∃ j, j < b ∧ O[j]? = some x := fun x hx => by
    obtain ⟨j, hj⟩ := List.mem_iff_getElem?.1 hx
    have hjb : j < b := by
      have := (List.getElem?_eq_some_iff.1 hj).1
      simp at this; omega
    rw [List.getElem?_take_of_lt hjb] at hj
    exact ⟨j, hjb, hj⟩
  have closed := hw.closed (T := fun x => x ∈ O.take b) (fun x y hx hy hb e => by
    obtain ⟨j, h1, h2⟩ := inb x hb
    rcases o.cl j x y h1 h2 (hS y hy) e with z | z
    · exact z
    · exact absurd (hU y hy) z)
  have vb := closed (List.mem_iff_getElem?.2 ⟨j, by rw [List.getElem?_take_of_lt (by omega)]; exact hj⟩)
  obtain ⟨k, h1, h2⟩ := inb v vb
  have ek := (List.getElem?_inj (by omega) nd).1 (h2.trans hi.symm)
  omega
end
end Go.Par

set_option linter.unusedSimpArgs false
set_option linter.unusedVariables false
set_option maxRecDepth 8000
set_option maxHeartbeats 2000000
namespace Go.Par
open Go.Proofs

def nG (next : List (List Int)) : G := ⟨List.replicate next.length 0, next⟩
@[simp] theorem nG_len (next : List (List Int)) : (nG next).owner.length = next.length := by simp [nG]
@[simp] theorem nG_next (next : List (List Int)) : (nG next).next = next := rfl
structure NextOk (next : List (List Int)) : Prop where
  len : next.length ≤ 12000
  row : ∀ l ∈ next, l.length ≤ 17592186044416
  lt : ∀ l ∈ next, ∀ w ∈ l, 0 ≤ w ∧ w < next.length

def obTd (l : List Int) (nn : Bool) : Ob := ⟨ints l, 3, 1, nn⟩
@[simp] theorem obTd_cells (l : List Int) (nn : Bool) : (obTd l nn).cells = ints l := rfl
@[simp] theorem obTd_ty (l : List Int) (nn : Bool) : (obTd l nn).ty = 3 := rfl
@[simp] theorem obTd_sz (l : List Int) (nn : Bool) : (obTd l nn).sz = 1 := rfl
@[simp] theorem obTd_nn (l : List Int) (nn : Bool) : (obTd l nn).nn = nn := rfl
theorem obTd_snoc (l : List Int) (w : Int) : (⟨List.take l.length (ints l) ++ [.int .i64 w], 3, 1, true⟩ : Ob) = obTd (l ++ [w]) true := by
  rw [List.take_of_length_le (by simp)]; simp [obTd]

def obBk (L : List Bool) : Ob := ⟨L.map .bool, 4, 1, true⟩
@[simp] theorem obBk_cells (L : List Bool) : (obBk L).cells = L.map .bool := rfl
@[simp] theorem obBk_ty (L : List Bool) : (obBk L).ty = 4 := rfl
@[simp] theorem obBk_sz (L : List Bool) : (obBk L).sz = 1 := rfl
@[simp] theorem obBk_nn (L : List Bool) : (obBk L).nn = true := rfl
theorem obBk_mk (L : List Bool) : (⟨L.map .bool, 4, 1, true⟩ : Ob) = obBk L := rfl
theorem mapk_set (R : List Bool) (v : Nat) (x : Bool) : (R.map AV.bool).set v (.bool x) = (R.set v x).map AV.bool := by rw [List.map_set]
theorem mapk_drop (R : List Bool) {v : Nat} (h : v < R.length) : (R.map AV.bool).drop v = .bool R[v] :: (R.map AV.bool).drop (v + 1) := by
  rw [List.drop_eq_getElem_cons (by simpa using h)]; simp

structure RK where
  o : Nat
  nn : Bool
  R : List Bool
  T : List Int
  x : Nat
def RKh (h : Heap) (a o : Nat) (nn : Bool) (R : List Bool) (T : List Int) : Heap := HL h [(o, obTd T nn), (a, obBk R)]
section
variable {h : Heap} {a o : Nat} (N : HN h [o, a]) (nn : Bool) (R : List Bool) (T : List Int)
include N
theorem RKh.go : RKh h a o nn R T o = some (obTd T nn) := HL.at (k := 0) N.nd rfl
theorem RKh.ga : RKh h a o nn R T a = some (obBk R) := HL.at (k := 1) N.nd rfl
theorem RKh.pa (R' : List Bool) : upd (RKh h a o nn R T) a (some (obBk R')) = RKh h a o nn R' T := HL.put (k := 1) N.nd rfl
theorem RKh.pt (T' : List Int) : upd (RKh h a o nn R T) o (some (obTd T' nn)) = RKh h a o nn R T' := HL.put (k := 0) N.nd rfl
theorem RKh.grow {o' : Nat} (ho : RKh h a o nn R T o' = none) (T' : List Int) : upd (upd (RKh h a o nn R T) o none) o' (some (obTd T' true)) = RKh h a o' true R T' ∧ HN h [o', a] := by
  obtain ⟨h1, h2⟩ := HL.ren (h0 := h) (A' := obTd T' true) (l := [(o, obTd T nn), (a, obBk R)]) (k := 0) N rfl ho
  exact ⟨h1, h2⟩
end

theorem has_r9 (l : List Bool) (v : Nat) : Pure Try.prog 49 [.ro false (bools l), .int .i64 v] (.bool (hasN l v)) := by
  have := r9_Has l v
  rwa [show (decide ((0 : Int) ≤ (v : Int)) && hasI l (v : Int)) = hasN l v by simp [hasI, hasN]] at this

theorem r9_reach (next : List (List Int)) (ok : NextOk next) (from_ : List Bool) : Pure Try.prog 81 [.ro false (rows next), .ro false (bools from_), .ro false (bools (tab next.length fun _ => true))] (.ro true (bools (reachL (nG next) from_))) := by
  have hl := ok.len
  obtain ⟨all, hall⟩ : ∃ all, all = tab next.length fun _ => true := ⟨_, rfl⟩
  have hA : ∀ v, v < next.length → hasN all v = true := fun v hv => by rw [hall, hasN, getD_tab, if_pos hv]
  rw [← hall]
  clear hall
  intro h
  refine AC.body Θ_ok Try.func81 rfl rfl (Nat.le_of_ble_eq_true rfl) ?_
  refine AW.seq fun _ k1 => AW.region [] Θ_ok ?_
  simp
  refine k1 _ ?_
  have b1 : (next.length : Int) ≤ 140737488355328 := by omega
  refine AW.seq fun _ k1 => AW.region [15] Θ_ok ?_
  simp [newA]
  have e1 : List.flatMap AV.flat (List.replicate next.length (AV.bool false)) = (List.replicate next.length false).map AV.bool := by
    rw [flat_ones (fun u hu => by rw [(List.mem_replicate.1 hu).2]; rfl)]; simp
  rw [e1, obBk_mk]
  refine ⟨b1, fun a ha => k1 _ ?_⟩
  clear e1 b1
  refine AW.seq fun _ k1 => AW.region [] Θ_ok ?_
  simp
  refine k1 _ ?_
  refine AW.mine 8 3 1 rfl fun o ho => ?_
  simp only at ho ⊢
  have N1 : HN h [a] := HL.new (l := []) ⟨List.nodup_nil, fun o ho => by cases ho⟩ ha
  have N0 : HN h [o, a] := HL.new (l := [(a, obBk (List.replicate next.length false))]) N1 ho
  rw [show upd (upd h a (some (obBk (List.replicate next.length false)))) o (some ⟨[], 3, 1, false⟩) = RKh h a o false (List.replicate next.length false) [] from rfl]
  clear N1 ha ho
  have I0 : RI (nG next) from_ (List.replicate next.length false) [] := by
    refine ⟨by simp, fun v hv => ?_, fun t ht => by simp at ht, by simp⟩
    simp [hasN, List.getElem?_replicate] at hv
    split at hv <;> simp at hv
  refine AW.seq fun _ k1 => ?_
  refine AW.seq fun _ k2 => AW.region [] Θ_ok ?_
  simp
  refine k2 _ ?_
  refine AW.block ?_
  refine AW.loopI (X := RK) (fun s => HN h [s.o, a] ∧ RI (nG next) from_ s.R s.T ∧ (∀ v : Nat, hasN s.R v = true → (v : Int) ∈ s.T) ∧ (∀ v, v < s.x → hasN from_ v = true → hasN s.R v = true) ∧ s.x ≤ next.length ∧ ∀ v, s.x ≤ v → hasN s.R v = false)
    (fun s => ⟨79, [(0, .ro false (rows next)), (1, .ro false (bools from_)), (2, .ro false (bools all)), (7, .mu a next.length), (8, .mu s.o s.T.length), (17, .int .i64 next.length), (18, .int .i64 s.x)], RKh h a s.o s.nn s.R s.T⟩)
    (fun s => next.length - s.x) ⟨o, false, List.replicate next.length false, [], 0⟩ ⟨N0, I0, fun v hv => ?_, fun v hv => absurd hv (Nat.not_lt_zero _), Nat.zero_le _, fun v _ => ?_⟩ (GStep.eq (by simp) (subH.refl _)) ?_
  · simp [hasN, List.getElem?_replicate] at hv
    split at hv <;> simp at hv
  · simp [hasN, List.getElem?_replicate]
    split <;> simp
  clear I0 N0
  rintro ⟨o, nn, R, T, x⟩ ⟨N, I, hT, hS, hx, hlate⟩
  simp only at N I hT hS hx hlate ⊢
  have lR : R.length = next.length := by rw [I.len]; simp
  refine AW.seq fun _ k2 => AW.region [] Θ_ok ?_
  simp
  refine k2 _ ?_
  by_cases hlt : x < next.length
  · have inc := wrap_succ (show x < 9223372036854775807 by omega)
    have hxR : x < R.length := by omega
    have sF := has_r9 from_ x
    have sA := has_r9 all x
    rw [hA x hlt] at sA
    have hbx : R[x] = false := by have := hlate x (Nat.le_refl _); simpa [hasN, hxR] using this
    refine AW.seq fun _ k2 => AW.cond true (by simp [Int.natCast_inj, hlt]) (fun _ => ?_) (fun h => by cases h)
    refine AW.skip ?_
    simp
    refine k2 _ ?_
    refine AW.seq fun _ k2 => ?_
    refine AW.block ?_
    refine AW.seq fun _ k3 => AW.region [] Θ_ok ?_
    simp
    refine k3 _ ?_
    cases hfr : hasN from_ x with
    | false =>
      rw [hfr] at sF
      refine AW.seq fun _ k3 => AW.regionAt 3 [] Θ_ok fun B hB => ?_
      simp
      refine sF.use (by simp) ?_
      refine hB _ ?_
      clear hB B
      simp
      refine k3 _ ?_
      refine AW.cond false (by simp [Int.natCast_inj]) (fun h => by cases h) (fun _ => ?_)
      refine AW.skip ?_
      simp
      refine k2 _ ?_
      refine AW.region [] Θ_ok ?_
      simp
      exact ⟨⟨o, nn, R, T, x + 1⟩, ⟨N, I, hT, fun v hv hw => by
        by_cases e : v = x
        · subst e; rw [hfr] at hw; cases hw
        · exact hS v (by simp only at hv; omega) hw, by simp only; omega, fun v hv => hlate v (by simp only at hv; omega)⟩, by simp only; omega, GStep.eq (by simp [inc]) (subH.refl _)⟩
    | true =>
      rw [hfr] at sF
      refine AW.seq fun _ k3 => AW.regionAt 3 [] Θ_ok fun B hB => ?_
      simp
      refine sF.use (by simp) ?_
      refine hB _ ?_
      clear hB B
      refine vcOps_split 4 fun B hB => ?_
      simp
      refine sA.use (by simp) ?_
      refine hB _ ?_
      clear hB B
      simp
      refine k3 _ ?_
      refine AW.cond true (by simp [Int.natCast_inj]) (fun _ => ?_) (fun h => by cases h)
      have ga := RKh.ga N nn R T
      have pa := RKh.pa N nn R T (R.set x true)
      have ms := mapk_set R x true
      have go := RKh.go N nn (R.set x true) T
      have szT := I.size
      have lT : T.length ≤ 12000 := by simp at szT; omega
      obtain ⟨R', hR'⟩ : ∃ R', R' = R.set x true := ⟨_, rfl⟩
      rw [← hR'] at go pa ms
      refine AW.seq fun _ k3 => AW.region [] Θ_ok ?_
      simp [ga, lR, hlt, ms, obBk_mk, pa]
      refine ⟨by omega, k3 _ ?_⟩
      clear pa ga ms
      refine AW.region [] Θ_ok ?_
      simp [go, appendA]
      refine ⟨rfl, ⟨by omega, by omega⟩, fun o' ho' => k2 _ ?_⟩
      obtain ⟨he, N'⟩ := RKh.grow N nn R' T ho' (T ++ [(x : Int)])
      rw [obTd_snoc, he]
      subst hR'
      refine AW.region [] Θ_ok ?_
      simp
      refine ⟨⟨o', true, R.set x true, T ++ [(x : Int)], x + 1⟩, ⟨N', I.meet hxR (.start x (by simpa using hlt) hfr) hbx, fun v hv => ?_, fun v hv hw => ?_, by simp only; omega, fun v hv => ?_⟩, by simp only; omega, GStep.eq (by simp [inc]) (subH.refl _)⟩
      · simp only at hv
        rw [hasN_set R x v hxR] at hv
        by_cases e : v = x
        · subst e; simp
        · rw [if_neg e] at hv
          exact List.mem_append.2 (.inl (hT v hv))
      · simp only at hv ⊢
        rw [hasN_set R x v hxR]
        split
        · rfl
        · exact hS v (by omega) hw
      · simp only at hv ⊢
        rw [hasN_set R x v hxR, if_neg (by omega)]
        exact hlate v (by omega)
  have hxx : x = next.length := by omega
  subst hxx
  refine AW.seq fun _ k2 => AW.cond false (by simp [Int.natCast_inj]) (fun h => by cases h) (fun _ => ?_)
  refine AW.exit ?_
  simp
  refine k1 _ ?_
  have C0 : Clo (nG next) R T fun _ => False := fun v hv _ hnt => absurd (hT v hv) hnt
  clear hT hlate
  refine AW.seq fun _ k1 => ?_
  refine AW.block ?_
  refine AW.loopI (X := RK) (fun s => HN h [s.o, a] ∧ RI (nG next) from_ s.R s.T ∧ Clo (nG next) s.R s.T (fun _ => False) ∧ (∀ v, v < next.length → hasN from_ v = true → hasN s.R v = true))
    (fun s => ⟨79, [(0, .ro false (rows next)), (2, .ro false (bools all)), (7, .mu a next.length), (8, .mu s.o s.T.length)], RKh h a s.o s.nn s.R s.T⟩)
    (fun s => 2 * s.R.count false + s.T.length) ⟨o, nn, R, T, 0⟩ ⟨N, I, C0, hS⟩ (GStep.eq (by simp) (subH.refl _)) ?_
  clear C0 hS lR I N hx T R nn o
  rintro ⟨o, nn, R, T, x⟩ ⟨N, I, C, hS⟩
  simp only at N I C hS ⊢
  have lR : R.length = next.length := by rw [I.len]; simp
  have szT := I.size
  have lT : T.length ≤ 12000 := by simp at szT; omega
  refine AW.seq fun _ k2 => ?_
  refine AW.seq fun _ k3 => AW.region [] Θ_ok ?_
  simp
  refine k3 _ ?_
  by_cases ht : T = []
  · subst ht
    refine AW.cond false (by simp [Int.natCast_inj]) (fun h => by cases h) (fun _ => ?_)
    refine AW.exit ?_
    simp
    refine k1 _ ?_
    refine AW.seq fun _ kr => AW.region [] Θ_ok ?_
    simp
    refine kr _ (AW.ret ?_)
    simp [Try.f81]
    have ga := RKh.ga N nn R []
    refine Fin.freeze (k := true) ga (fun _ => rfl) rfl (by simp [lR]) (fun u hu => by obtain ⟨z, _, rfl⟩ := List.mem_map.1 hu; rfl) h ?_ ⟨?_, rfl⟩
    · unfold RKh
      rw [HL.del (k := 1) N rfl]
      exact HL.sub (l := [(o, obTd [] nn)]) (HN.del (k := 1) N)
    · rw [I.done C (fun v hv hf => hS v (by simpa using hv) hf)]
      rfl
  · obtain ⟨t0, u, rfl⟩ : ∃ t0 u, T = t0 ++ [u] := ⟨T.dropLast, T.getLast ht, (List.dropLast_concat_getLast ht).symm⟩
    have ht' : (0 : Int) < ((t0 ++ [u]).length : Nat) := by simp
    refine AW.cond true (by simp [Int.natCast_inj]) (fun _ => ?_) (fun h => by cases h)
    refine AW.skip ?_
    simp
    refine k2 _ ?_
    refine AW.block ?_
    have l0 : t0.length ≤ 12000 := by simp at lT; omega
    have hwr := wrap_nat (show t0.length < 9223372036854775808 by omega)
    have go := RKh.go N nn R (t0 ++ [u])
    have dr : List.drop t0.length (ints (t0 ++ [u])) = [.int .i64 u] := by simp [ints]
    refine AW.seq fun _ k3 => AW.region [] Θ_ok ?_
    simp [hwr, go, dr]
    refine ⟨by omega, k3 _ ?_⟩
    refine AW.seq fun _ k3 => AW.region [] Θ_ok ?_
    simp [hwr, go, dr]
    refine ⟨by omega, k3 _ ?_⟩
    refine AW.ghost (GStep.trunc go t0.length) ?_
    rw [show (⟨(obTd (t0 ++ [u]) nn).cells.take t0.length, (obTd (t0 ++ [u]) nn).ty, (obTd (t0 ++ [u]) nn).sz, (obTd (t0 ++ [u]) nn).nn⟩ : Ob) = obTd t0 nn from by simp [obTd, ints]]
    simp only
    rw [RKh.pt N nn R (t0 ++ [u]) t0]
    clear go dr
    obtain ⟨v, rfl, hv, hvo⟩ := I.todoIn u (by simp)
    have hv' : v < next.length := by simpa using hv
    have hlr := ok.row _ (List.getElem_mem hv')
    have hrow := ok.lt _ (List.getElem_mem hv')
    have I1 : RI (nG next) from_ R t0 := ⟨I.len, I.sound, fun t ht => I.todoIn t (List.mem_append.2 (.inl ht)), by have := I.size; simp at this ⊢; omega⟩
    have C1 : Clo (nG next) R t0 (fun z => z = v) := fun z hz hzv hzt w hw => C z hz (fun h => h) (fun hmem => by
      rcases List.mem_append.1 hmem with h1 | h1
      · exact hzt h1
      · simp at h1; exact hzv (by omega)) w hw
    refine AW.seq fun _ k3 => AW.region [] Θ_ok ?_
    simp [hv']
    refine k3 _ ?_
    refine AW.block ?_
    refine AW.loopI (X := RK) (fun s => HN h [s.o, a] ∧ RI (nG next) from_ s.R s.T ∧ Clo (nG next) s.R s.T (fun z => z = v) ∧ (∀ w, w < next.length → hasN from_ w = true → hasN s.R w = true) ∧ hasN s.R v = true ∧
        (∀ w : Nat, (w : Int) ∈ next[v].take s.x → hasN s.R w = true) ∧ s.x ≤ next[v].length ∧ 2 * s.R.count false + s.T.length ≤ 2 * R.count false + t0.length)
      (fun s => ⟨79, [(0, .ro false (rows next)), (2, .ro false (bools all)), (7, .mu a next.length), (8, .mu s.o s.T.length), (54, .ro false (ints next[v])), (55, .int .i64 next[v].length), (56, .int .i64 s.x)], RKh h a s.o s.nn s.R s.T⟩)
      (fun s => next[v].length - s.x) ⟨o, nn, R, t0, 0⟩ ⟨N, I1, C1, hS, hvo, fun w hw => by simp at hw, Nat.zero_le _, Nat.le_refl _⟩ (GStep.eq (by simp) (subH.refl _)) ?_
    have hRv := I.sound v hvo
    have hM : 2 * R.count false + t0.length < 2 * R.count false + (t0 ++ [(v : Int)]).length := by simp
    generalize 2 * R.count false + t0.length = M at hM
    generalize 2 * R.count false + (t0 ++ [(v : Int)]).length = M' at hM
    clear C C1 I1 hvo hS N I lR szT lT ht ht' l0 hwr
    rintro ⟨o', nn', out', todo', y⟩ ⟨N, I2, C, hS, hvo, hY, hy, hle⟩
    simp only at N I2 C hS hvo hY hy hle ⊢
    refine AW.seq fun _ k4 => AW.region [] Θ_ok ?_
    simp
    refine k4 _ ?_
    by_cases hly : y < next[v].length
    · have inc := wrap_succ (show y < 9223372036854775807 by omega)
      obtain ⟨b0, b1⟩ := hrow _ (List.getElem_mem hly)
      obtain ⟨w, hw⟩ := Int.eq_ofNat_of_zero_le b0
      have hwn : w < next.length := by omega
      have lR : out'.length = next.length := by rw [I2.len]; simp
      have hwo : w < out'.length := by omega
      have szT := I2.size
      have lT : todo'.length ≤ 12000 := by simp at szT; omega
      have htk : ∀ z : Nat, (z : Int) ∈ next[v].take (y + 1) → (z : Int) ∈ next[v].take y ∨ z = w := by
        intro z hz
        rw [List.take_succ_eq_append_getElem hly] at hz
        rcases List.mem_append.1 hz with h1 | h1
        · exact .inl h1
        · simp at h1; exact .inr (by omega)
      have hgd : (nG next).next.getD v [] = next[v] := by simp [hv']
      have hrw : Reaches (nG next) from_ w := .step v w hRv (by rw [hgd, ← hw]; exact List.getElem_mem hly)
      have sA := has_r9 all w
      rw [hA w hwn] at sA
      have ga := RKh.ga N nn' out' todo'
      have dk := mapk_drop out' hwo
      refine AW.seq fun _ k4 => AW.cond true (by simp [Int.natCast_inj, hly]) (fun _ => ?_) (fun h => by cases h)
      refine AW.skip ?_
      simp
      refine k4 _ ?_
      refine AW.seq fun _ k4 => ?_
      refine AW.block ?_
      refine AW.seq fun _ k5 => AW.region [] Θ_ok ?_
      simp [hly, hw]
      refine k5 _ ?_
      cases hb : out'[w] with
      | true =>
        refine AW.seq fun _ k5 => AW.region [] Θ_ok ?_
        simp [ga, hwo, lR, dk, hb]
        refine ⟨hwn, k5 _ ?_⟩
        refine AW.cond false (by simp [Int.natCast_inj]) (fun h => by cases h) (fun _ => ?_)
        refine AW.skip ?_
        simp
        refine k4 _ ?_
        refine AW.region [] Θ_ok ?_
        simp
        refine ⟨⟨o', nn', out', todo', y + 1⟩, ⟨N, I2, C, hS, hvo, fun z hz => ?_, hly, hle⟩, by simp only; omega, GStep.eq (by simp [inc]) (subH.refl _)⟩
        rcases htk z hz with h1 | h1
        · exact hY z h1
        · subst h1; simp [hasN, hwo, hb]
      | false =>
        refine AW.seq fun _ k5 => AW.regionAt 9 [] Θ_ok fun B hB => ?_
        simp [ga, hwo, lR, dk, hb]
        refine ⟨hwn, sA.use (by simp) ?_⟩
        refine hB _ ?_
        clear hB B
        simp
        refine k5 _ ?_
        refine AW.cond true (by simp [Int.natCast_inj]) (fun _ => ?_) (fun h => by cases h)
        have pa := RKh.pa N nn' out' todo' (out'.set w true)
        have ms := mapk_set out' w true
        have go := RKh.go N nn' (out'.set w true) todo'
        have hcs := count_set out' w hwo hb
        obtain ⟨R', hR'⟩ : ∃ R', R' = out'.set w true := ⟨_, rfl⟩
        rw [← hR'] at go pa ms
        refine AW.seq fun _ k5 => AW.region [] Θ_ok ?_
        simp [ga, lR, hwn, ms, obBk_mk, pa]
        refine ⟨by omega, k5 _ ?_⟩
        clear pa ga ms
        refine AW.region [] Θ_ok ?_
        simp [go, appendA]
        refine ⟨rfl, ⟨by omega, by omega⟩, fun o2 ho2 => k4 _ ?_⟩
        obtain ⟨he, N'⟩ := RKh.grow N nn' R' todo' ho2 (todo' ++ [(w : Int)])
        rw [obTd_snoc, he]
        subst hR'
        refine AW.region [] Θ_ok ?_
        simp
        refine ⟨⟨o2, true, out'.set w true, todo' ++ [(w : Int)], y + 1⟩, ⟨N', I2.meet hwo hrw hb, C.meet hwo, fun z hz hf => ?_, ?_, fun z hz => ?_, hly, ?_⟩, by simp only; omega, GStep.eq (by simp [inc]) (subH.refl _)⟩
        · simp only
          rw [hasN_set out' w z hwo]
          split
          · rfl
          · exact hS z hz hf
        · simp only
          rw [hasN_set out' w v hwo]
          split
          · rfl
          · exact hvo
        · simp only at hz ⊢
          rw [hasN_set out' w z hwo]
          rcases htk z hz with h1 | h1
          · split
            · rfl
            · exact hY z h1
          · rw [if_pos h1]
        · simp only [List.length_append, List.length_cons, List.length_nil]; omega
    · obtain rfl : y = next[v].length := by omega
      refine AW.seq fun _ k4 => AW.cond false (by simp) (fun h => by cases h) (fun _ => ?_)
      refine AW.exit ?_
      simp
      have hgd : (nG next).next.getD v [] = next[v] := by simp [hv']
      refine ⟨⟨o', nn', out', todo', 0⟩, ⟨N, I2, fun z hz _ hzt w hw => ?_, hS⟩, by first | omega | (simp only; omega), GStep.eq (by simp) (subH.refl _)⟩
      by_cases e : z = v
      · subst e
        rw [hgd] at hw
        exact hY w (by rw [List.take_length]; exact hw)
      · exact C z hz e hzt w hw
end Go.Par

set_option linter.unusedSimpArgs false
set_option linter.unusedVariables false
namespace Go.Par

def kE (next : List (List Int)) (u v : Nat) : Prop := u < next.length ∧ (v : Int) ∈ next.getD u []
def kS (next : List (List Int)) (a : List Bool) (v : Nat) : Prop := v < next.length ∧ hasN a v = true
def kX (next : List (List Int)) (v i : Nat) : Option Nat := (next.getD v [])[i]?.map Int.toNat

/-! ### How much is left to go through -/
def leftU : List (List Int) → List Bool → Nat
  | l :: ls, b :: bs => (if b then 0 else l.length + 2) + leftU ls bs
  | _, _ => 0
theorem leftU_set : ∀ (next : List (List Int)) (R : List Bool) (w : Nat) (hw : w < next.length), w < R.length → R.getD w false = false → leftU next (R.set w true) + (next[w].length + 2) = leftU next R
  | [], R, w, hw, _, _ => by simp at hw
  | l :: ls, [], w, _, h, _ => by simp at h
  | l :: ls, b :: bs, 0, _, _, hb => by
    simp at hb; subst hb
    simp [leftU]; omega
  | l :: ls, b :: bs, w + 1, hw, h, hb => by
    have := leftU_set ls bs w (by simpa using hw) (by simpa using h) (by simpa using hb)
    simp only [List.set_cons_succ, leftU, List.getElem_cons_succ]
    omega
def leftK (next : List (List Int)) : List (Nat × Nat) → Nat
  | [] => 0
  | p :: K => ((next.getD p.1 []).length + 1 - p.2) + leftK next K
theorem leftK_snoc (next : List (List Int)) : ∀ (K : List (Nat × Nat)) (p : Nat × Nat), leftK next (K ++ [p]) = leftK next K + ((next.getD p.1 []).length + 1 - p.2)
  | [], p => by simp [leftK]
  | q :: K, p => by simp only [List.cons_append, leftK, leftK_snoc next K p]; omega

/-! ### Back rows -/
structure BigOk (next : List (List Int)) : Prop where
  len : next.length ≤ 12000
  row : ∀ l ∈ next, l.length ≤ 1000000000
  lt : ∀ l ∈ next, ∀ w ∈ l, 0 ≤ w ∧ w < next.length
theorem BigOk.ok {next : List (List Int)} (h : BigOk next) : NextOk next := ⟨h.len, fun l hl => Nat.le_trans (h.row l hl) (by decide), h.lt⟩

theorem befS_big {next : List (List Int)} (ok : BigOk next) (w : Nat) : ∀ {x : Nat}, x ≤ next.length → (befS (nG next) x 0 w).length ≤ x * 1000000000
  | 0, _ => by simp [befS]
  | x + 1, hx => by
    have hx' : x < (nG next).next.length := by simp; omega
    have ih := befS_big ok w (x := x) (by omega)
    rw [← befS_next (nG next) hx']
    have e : befS (nG next) x (nG next).next[x].length w = befS (nG next) x 0 w ++ ((nG next).next[x].filter (· == (w : Int))).map fun _ => (x : Int) := by
      simp [befS, show x < next.length by omega]
    rw [e, List.length_append, List.length_map]
    have h1 : ((nG next).next[x].filter (· == (w : Int))).length ≤ (nG next).next[x].length := List.length_filter_le _ _
    have h2 := ok.row _ (List.getElem_mem (show x < next.length by omega))
    have h3 : (nG next).next[x].length ≤ 1000000000 := h2
    omega
theorem befS_bigY {next : List (List Int)} (ok : BigOk next) (w : Nat) {x y : Nat} (hx : x < next.length) : (befS (nG next) x y w).length ≤ 12000000000000 := by
  have e : befS (nG next) x y w = befS (nG next) x 0 w ++ ((next[x].take y).filter (· == (w : Int))).map fun _ => (x : Int) := by
    simp [befS, hx]
  rw [e, List.length_append, List.length_map]
  have h0 := befS_big ok w (Nat.le_of_lt hx)
  have h1 : ((next[x].take y).filter (· == (w : Int))).length ≤ (next[x].take y).length := List.length_filter_le _ _
  have h2 : (next[x].take y).length ≤ next[x].length := by rw [List.length_take]; omega
  have h3 := ok.row _ (List.getElem_mem hx)
  have h4 := ok.len
  have : x * 1000000000 + 1000000000 ≤ 12000 * 1000000000 := by
    have : (x + 1) * 1000000000 ≤ 12000 * 1000000000 := Nat.mul_le_mul_right _ (by omega)
    omega
  omega
def bkL (next : List (List Int)) (w : Nat) : List Int := befS (nG next) next.length 0 w
theorem bkL_len {next : List (List Int)} (ok : BigOk next) (w : Nat) : (bkL next w).length ≤ 12000000000000 := by
  have := befS_big ok w (Nat.le_refl _)
  have := ok.len
  have : next.length * 1000000000 ≤ 12000 * 1000000000 := Nat.mul_le_mul_right _ (by omega)
  unfold bkL; omega
theorem bkL_mem {next : List (List Int)} {w : Nat} {z : Int} : z ∈ bkL next w ↔ ∃ u : Nat, z = u ∧ kE next u w := by
  unfold bkL befS kE
  simp only [nG_next, List.mem_append, List.mem_flatMap, List.mem_range, List.mem_map, List.mem_filter, beq_iff_eq, List.take_zero, List.filter_nil, List.map_nil, List.not_mem_nil, or_false]
  constructor
  · rintro ⟨u, hu, a, ⟨h1, h2⟩, rfl⟩
    exact ⟨u, rfl, hu, by rw [← h2]; exact h1⟩
  · rintro ⟨u, rfl, hu, h⟩
    exact ⟨u, hu, _, ⟨h, rfl⟩, rfl⟩

/-! ### Components -/
section
variable {E : Nat → Nat → Prop} {S : Nat → Prop}
def Same (E : Nat → Nat → Prop) (S : Nat → Prop) (u v : Nat) : Prop := u = v ∨ (Way E S u v ∧ Way E S v u)
theorem Same.refl (u : Nat) : Same E S u u := .inl rfl
theorem Same.symm {u v : Nat} (h : Same E S u v) : Same E S v u := by
  rcases h with rfl | ⟨a, b⟩
  · exact .inl rfl
  · exact .inr ⟨b, a⟩
theorem Same.trans {u v w : Nat} (h : Same E S u v) (k : Same E S v w) : Same E S u w := by
  rcases h with rfl | ⟨a, b⟩
  · exact k
  · rcases k with rfl | ⟨c, d⟩
    · exact .inr ⟨a, b⟩
    · exact .inr ⟨a.trans c, d.trans b⟩
theorem Same.loop {u v : Nat} (h : Same E S u v) (k : Way E S v v) : Way E S u u := by
  rcases h with rfl | ⟨a, b⟩
  · exact k
  · exact a.trans b
/-- A way there and back: all on it is in the same component. -/
theorem Way.same {u v : Nat} (h : Way E S u v) (k : Way E S v u) : Way E (fun x => S x ∧ Same E S x v) u v := by
  have key : ∀ a b, Way E S a b → Way E S b a → Way E (fun x => S x ∧ Same E S x b) a b := by
    intro a b h
    induction h with
    | one hu hv e => exact fun k => .one ⟨hu, .inr ⟨.one hu hv e, k⟩⟩ ⟨hv, .inl rfl⟩ e
    | @cons u w v hu e h ih => exact fun k => .cons ⟨hu, .inr ⟨.cons hu e h, k⟩⟩ e (ih (k.snoc e h.fst))
  exact key _ _ h k
end

structure P3 (E : Nat → Nat → Prop) (S : Nat → Prop) (n : Nat) (O : List Nat) (i : Nat) (D : List Bool) (C : List Int) : Prop where
  dlen : D.length = n
  clen : C.length = n
  d : ∀ v, hasN D v = true ↔ ∃ j r, i ≤ j ∧ O[j]? = some r ∧ Same E S v r
  yes : ∀ w, hasN D w = true → Way E S w w → ∃ r : Nat, C[w]? = some (r : Int) ∧ S r ∧ Same E S w r ∧ ∀ w', Same E S w w' → C[w']? = some (r : Int)
  no : ∀ w, w < n → ¬ (hasN D w = true ∧ Way E S w w) → C[w]? = some (-1)

structure CirOk (E : Nat → Nat → Prop) (S : Nat → Prop) (n : Nat) (C : List Int) : Prop where
  len : C.length = n
  yes : ∀ w, Way E S w w → ∃ r : Nat, C[w]? = some (r : Int) ∧ S r ∧ Same E S w r ∧ ∀ w', Same E S w w' → C[w']? = some (r : Int)
  no : ∀ w, w < n → ¬ Way E S w w → C[w]? = some (-1)

section
variable {E : Nat → Nat → Prop} {S : Nat → Prop} {n : Nat} {O : List Nat} {i : Nat} {D D' : List Bool} {C : List Int}
theorem P3.init (hD : D = List.replicate n false) (hC : C = List.replicate n (-1)) : P3 E S n O O.length D C := by
  subst hD hC
  have hf : ∀ v, hasN (List.replicate n false) v = false := fun v => by
    simp [hasN, List.getElem?_replicate]; split <;> simp
  refine ⟨by simp, by simp, fun v => ?_, fun w h => ?_, fun w hw _ => by simp [hw]⟩
  · rw [hf]
    constructor
    · intro h; cases h
    · rintro ⟨j, r, h1, h2, _⟩
      have := (List.getElem?_eq_some_iff.1 h2).1
      omega
  · rw [hf] at h; cases h
theorem P3.done (P : P3 E S n O 0 D C) (hO : ∀ v, S v → v ∈ O) : CirOk E S n C := by
  have hd : ∀ v, S v → hasN D v = true := fun v hv => (P.d v).2 (by
    obtain ⟨j, hj⟩ := List.mem_iff_getElem?.1 (hO v hv)
    exact ⟨j, v, Nat.zero_le _, hj, .inl rfl⟩)
  exact ⟨P.clen, fun w hw => P.yes w (hd w hw.fst) hw, fun w hw h => P.no w hw fun q => h q.2⟩
theorem P3.old (P : P3 E S n O (i + 1) D C) {v : Nat} (hv : O[i]? = some v) (h : hasN D v = true) : P3 E S n O i D C := by
  refine ⟨P.dlen, P.clen, fun u => ?_, P.yes, P.no⟩
  rw [P.d]
  constructor
  · rintro ⟨j, r, h1, h2, h3⟩; exact ⟨j, r, by omega, h2, h3⟩
  · rintro ⟨j, r, h1, h2, h3⟩
    by_cases e : j = i
    · subst e
      rw [hv] at h2; cases h2
      obtain ⟨j', r', g1, g2, g3⟩ := (P.d v).1 h
      exact ⟨j', r', g1, g2, h3.trans g3⟩
    · exact ⟨j, r, by omega, h2, h3⟩
theorem P3.comp (P : P3 E S n O (i + 1) D C) (ho : Ord E S O) (hS : ∀ v, S v → v ∈ O) {v : Nat} (hv : O[i]? = some v) (h : hasN D v = false) (u : Nat) :
    (u = v ∨ Way E (fun x => S x ∧ hasN D x = false) u v) ↔ Same E S u v := by
  constructor
  · rintro (rfl | q)
    · exact .inl rfl
    · have hb := ho.back hv (U := fun x => S x ∧ hasN D x = false) (fun x hx => by
        obtain ⟨j, hj⟩ := List.mem_iff_getElem?.1 (hS x hx.1)
        have : j ≤ i := by
          rcases Nat.lt_or_ge i j with q | q
          · exfalso
            have := (P.d x).2 ⟨j, x, q, hj, .inl rfl⟩
            rw [hx.2] at this; cases this
          · exact q
        exact List.mem_iff_getElem?.2 ⟨j, by rw [List.getElem?_take_of_lt (by omega)]; exact hj⟩) (fun x hx => hx.1) q
      rcases hb with rfl | hb
      · exact .inl rfl
      · exact .inr ⟨q.sub fun x hx => hx.1, hb⟩
  · rintro (rfl | ⟨a, b⟩)
    · exact .inl rfl
    · refine .inr ((a.same b).sub fun x hx => ⟨hx.1, ?_⟩)
      cases q : hasN D x with
      | false => rfl
      | true =>
        obtain ⟨j, r, h1, h2, h3⟩ := (P.d x).1 q
        have := (P.d v).2 ⟨j, r, h1, h2, hx.2.symm.trans h3⟩
        rw [h] at this; cases this
theorem P3.new (P : P3 E S n O (i + 1) D C) {v : Nat} (hv : O[i]? = some v) (hSv : S v) (h : hasN D v = false) {C' : List Int} (dl : D'.length = n) (cl : C'.length = n)
    (hD : ∀ u, hasN D' u = true ↔ hasN D u = true ∨ Same E S u v)
    (hC1 : ∀ u, u < n → Same E S u v → Way E S v v → C'[u]? = some (v : Int)) (hC2 : ∀ u, u < n → ¬ (Same E S u v ∧ Way E S v v) → C'[u]? = C[u]?) (hn : ∀ u, S u → u < n) : P3 E S n O i D' C' := by
  have sn : ∀ u w, Way E S u u → Same E S u w → w < n := fun u w hw hs => by
    rcases hs with rfl | ⟨a, _⟩
    · exact hn _ hw.fst
    · exact hn _ a.lst
  refine ⟨dl, cl, fun u => ?_, fun w hw hl => ?_, fun w hw hl => ?_⟩
  · rw [hD, P.d]
    constructor
    · rintro (⟨j, r, h1, h2, h3⟩ | q)
      · exact ⟨j, r, by omega, h2, h3⟩
      · exact ⟨i, v, Nat.le_refl _, hv, q⟩
    · rintro ⟨j, r, h1, h2, h3⟩
      by_cases e : j = i
      · subst e; rw [hv] at h2; cases h2; exact .inr h3
      · exact .inl ⟨j, r, by omega, h2, h3⟩
  · by_cases q : Same E S w v
    · have hvv : Way E S v v := q.symm.loop hl
      refine ⟨v, ?_, hSv, q, fun w' hw' => ?_⟩
      · exact hC1 w (hn _ hl.fst) q hvv
      · exact hC1 w' (sn _ _ hl hw') (hw'.symm.trans q) hvv
    · rcases (hD w).1 hw with z | z
      · obtain ⟨r, g1, g2, g3, g4⟩ := P.yes w z hl
        refine ⟨r, ?_, g2, g3, fun w' hw' => ?_⟩
        · rw [hC2 w (hn _ hl.fst) fun z => q z.1]; exact g1
        · rw [hC2 w' (sn _ _ hl hw') fun z => q (hw'.trans z.1)]; exact g4 w' hw'
      · exact absurd z q
  · by_cases q : Same E S w v
    · have hvv : ¬ Way E S v v := fun z => hl ⟨(hD w).2 (.inr q), q.loop z⟩
      rw [hC2 w hw fun z => hvv z.2]
      refine P.no w hw fun z => hvv (q.symm.loop z.2)
    · rw [hC2 w hw fun z => q z.1]
      exact P.no w hw fun z => hl ⟨(hD w).2 (.inl z.1), z.2⟩
end

/-! ### Going along -/
section
variable {E : Nat → Nat → Prop} {S : Nat → Prop} {nx : Nat → Nat → Option Nat} {O : List Nat} {B : Nat → Nat}
theorem Dfs.seeAt {K1 K2 : List (Nat × Nat)} {v a : Nat} (D : Dfs E S nx O (K1 ++ (v, a) :: K2) B) (h : ∀ y, nx v a = some y → S y → y ∈ O ∨ y ∈ (K1 ++ (v, a) :: K2).map Prod.fst) : Dfs E S nx O (K1 ++ (v, a + 1) :: K2) B := by
  have km : (K1 ++ (v, a + 1) :: K2).map Prod.fst = (K1 ++ (v, a) :: K2).map Prod.fst := by simp
  have kl : (K1 ++ (v, a + 1) :: K2).length = (K1 ++ (v, a) :: K2).length := by simp
  have ge : ∀ (k : Nat) (p : Nat × Nat), (K1 ++ (v, a + 1) :: K2)[k]? = some p → ∃ p', (K1 ++ (v, a) :: K2)[k]? = some p' ∧ p'.1 = p.1 := by
    intro k p hk
    have h1 : ((K1 ++ (v, a + 1) :: K2).map Prod.fst)[k]? = some p.1 := by rw [List.getElem?_map, hk]; rfl
    rw [km, List.getElem?_map] at h1
    cases q : (K1 ++ (v, a) :: K2)[k]? with
    | none => rw [q] at h1; cases h1
    | some p' => rw [q] at h1; exact ⟨p', rfl, Option.some.inj h1⟩
  have vin : (v, a) ∈ K1 ++ (v, a) :: K2 := by simp
  have mem : ∀ p ∈ K1 ++ (v, a + 1) :: K2, p ∈ K1 ++ (v, a) :: K2 ∨ p = (v, a + 1) := by
    intro p hp
    rcases List.mem_append.1 hp with q | q
    · exact .inl (List.mem_append_left _ q)
    · rcases List.mem_cons.1 q with q | q
      · exact .inr q
      · exact .inl (List.mem_append_right _ (List.mem_cons_of_mem _ q))
  refine ⟨D.ord, by rw [km]; exact D.nd, fun p hp => ?_, fun k hk => D.ble k (by rw [← kl]; exact hk), fun k p j x hk hb hj => ?_, fun k j x y hk hj hx hy e => ?_, fun k k' p p' hkk hk hk' => ?_, by rw [km]; exact D.bl, fun p hp i y hi hy hs => ?_⟩
  · rcases mem p hp with q | q
    · exact D.ins p q
    · subst q; exact D.ins (v, a) vin
  · obtain ⟨p', h1, h2⟩ := ge k p hk
    rw [← h2]; exact D.to k p' j x h1 hb hj
  · rw [km]; exact D.cl k j x y (by rw [← kl]; exact hk) hj hx hy e
  · obtain ⟨q, h1, h2⟩ := ge k p hk
    obtain ⟨q', h3, h4⟩ := ge k' p' hk'
    rw [← h2, ← h4]; exact D.ch k k' q q' hkk h1 h3
  · rw [km]
    rcases mem p hp with q | q
    · exact D.at_ p q i y hi hy hs
    · subst q
      by_cases z : i = a
      · subst z; exact h y hy hs
      · exact D.at_ (v, a) vin i y (by simp at hi; simp; omega) hy hs
end

structure DI (next : List (List Int)) (a R : List Bool) (O : List Nat) (K : List (Nat × Nat)) : Prop where
  dfs : ∃ B, Dfs (kE next) (kS next a) (kX next) O K B
  len : R.length = next.length
  r : ∀ v, hasN R v = true ↔ v ∈ O ∨ v ∈ K.map Prod.fst

section
variable {next : List (List Int)} {a R : List Bool} {O : List Nat} {K : List (Nat × Nat)}
theorem kX_lt {v i : Nat} (hv : v < next.length) (hi : i < next[v].length) (ok : BigOk next) {w : Nat} (hw : next[v][i] = (w : Int)) : kX next v i = some w := by
  unfold kX; simp [hv, hi, hw]
theorem DI.init (hR : R = List.replicate next.length false) : DI next a R [] [] := by
  subst hR
  refine ⟨⟨fun _ => 0, Dfs.init⟩, by simp, fun v => ?_⟩
  have : hasN (List.replicate next.length false) v = false := by simp [hasN, List.getElem?_replicate]; split <;> simp
  rw [this]; simp
theorem DI.push (I : DI next a R O K) {v : Nat} (hv : kS next a v) (hn : hasN R v = false) (hc : ∀ p, K.getLast? = some p → kE next p.1 v) : DI next a (R.set v true) O (K ++ [(v, 0)]) := by
  obtain ⟨B, D⟩ := I.dfs
  have hnot : v ∉ O ∧ v ∉ K.map Prod.fst := by
    constructor <;> intro q
    · have := (I.r v).2 (.inl q); rw [hn] at this; cases this
    · have := (I.r v).2 (.inr q); rw [hn] at this; cases this
  refine ⟨⟨_, D.push hv hnot hc⟩, by rw [List.length_set]; exact I.len, fun u => ?_⟩
  rw [hasN_set R v u (by rw [I.len]; exact hv.1)]
  by_cases e : u = v
  · subst e; simp
  · rw [if_neg e, I.r]; simp [e]
theorem DI.see {v i : Nat} (I : DI next a R O (K ++ [(v, i)])) (ok : BigOk next) (hv : v < next.length) (hi : i < next[v].length) {w : Nat} (hw : next[v][i] = (w : Int)) (h : kS next a w → hasN R w = true) : DI next a R O (K ++ [(v, i + 1)]) := by
  obtain ⟨B, D⟩ := I.dfs
  refine ⟨⟨B, D.seeAt (K2 := []) fun y hy hs => ?_⟩, I.len, fun u => ?_⟩
  · rw [kX_lt hv hi ok hw] at hy
    cases hy
    exact (I.r w).1 (h hs)
  · rw [I.r]; simp
theorem DI.seePush {v i : Nat} (I : DI next a R O (K ++ [(v, i)])) (ok : BigOk next) (hv : v < next.length) (hi : i < next[v].length) {w : Nat} (hw : next[v][i] = (w : Int)) (hs : kS next a w) (hn : hasN R w = false) : DI next a (R.set w true) O (K ++ [(v, i + 1)] ++ [(w, 0)]) := by
  have I' := I.push hs hn fun p hp => by
    simp at hp; subst hp
    refine ⟨hv, ?_⟩
    rw [← hw]; simp [hv]
  obtain ⟨B, D⟩ := I'.dfs
  rw [show K ++ [(v, i)] ++ [(w, 0)] = K ++ (v, i) :: [(w, 0)] by simp] at D
  rw [show K ++ [(v, i + 1)] ++ [(w, 0)] = K ++ (v, i + 1) :: [(w, 0)] by simp]
  refine ⟨⟨B, D.seeAt fun y hy hs' => ?_⟩, I'.len, fun u => ?_⟩
  · rw [kX_lt hv hi ok hw] at hy
    cases hy
    exact .inr (by simp)
  · rw [I'.r]; simp
theorem DI.leave {v i : Nat} (I : DI next a R O (K ++ [(v, i)])) (ok : BigOk next) (hv : v < next.length) (hi : i = next[v].length) : DI next a R (O ++ [v]) K := by
  obtain ⟨B, D⟩ := I.dfs
  refine ⟨⟨B, D.leave fun y hy he => ?_⟩, I.len, fun u => ?_⟩
  · have := he.2
    rw [show next.getD v [] = next[v] by simp [hv]] at this
    obtain ⟨j, hj, e⟩ := List.mem_iff_getElem.1 this
    exact ⟨j, by omega, kX_lt hv hj ok e⟩
  · rw [I.r]; simp only [List.map_append, List.map_cons, List.map_nil, List.mem_append, List.mem_singleton]
    constructor
    · rintro (q | q | q)
      · exact .inl (.inl q)
      · exact .inr q
      · exact .inl (.inr q)
    · rintro ((q | q) | q)
      · exact .inl q
      · exact .inr (.inr q)
      · exact .inr (.inl q)
theorem DI.ord (I : DI next a R O []) : Ord (kE next) (kS next a) O := by obtain ⟨B, D⟩ := I.dfs; exact D.ord
theorem DI.lt (I : DI next a R O K) {v : Nat} (h : v ∈ O ∨ v ∈ K.map Prod.fst) : v < next.length := by
  have := (I.r v).2 h
  rcases Nat.lt_or_ge v R.length with q | q
  · rw [← I.len]; exact q
  · simp [hasN, List.getElem?_eq_none q] at this
theorem nodup_lt_len : ∀ {n : Nat} {l : List Nat}, l.Nodup → (∀ x ∈ l, x < n) → l.length ≤ n
  | 0, [], _, _ => Nat.le_refl _
  | 0, x :: l, _, h => by have := h x (by simp); omega
  | n + 1, l, hn, h => by
    have h1 := nodup_lt_len (n := n) (l := l.erase n) (hn.erase n) (fun x hx => by
      have hx' := List.mem_of_mem_erase hx
      have := h x hx'
      have : x ≠ n := by rintro rfl; exact (List.Nodup.mem_erase_iff hn).1 hx |>.1 rfl
      omega)
    have : l.length ≤ (l.erase n).length + 1 := by rw [List.length_erase]; split <;> omega
    omega
theorem DI.few (I : DI next a R O K) : O.length + K.length ≤ next.length := by
  obtain ⟨B, D⟩ := I.dfs
  have := nodup_lt_len (n := next.length) D.nd fun x hx => I.lt (List.mem_append.1 hx)
  simpa using this

/-! ### Going back -/
structure Bf (next : List (List Int)) (a D0 : List Bool) (v : Nat) (D : List Bool) (L : List Nat) : Prop where
  len : D.length = next.length
  nd : L.Nodup
  h0 : L[0]? = some v
  mem : ∀ u ∈ L, u = v ∨ Way (kE next) (fun x => kS next a x ∧ hasN D0 x = false) u v
  d : ∀ u, hasN D u = true ↔ hasN D0 u = true ∨ u ∈ L
  s : ∀ u ∈ L, kS next a u
  old : ∀ u ∈ L, hasN D0 u = false
variable {D0 D : List Bool} {v : Nat} {L : List Nat}
theorem Bf.init (hl : D0.length = next.length) (hv : kS next a v) (hd : hasN D0 v = false) : Bf next a D0 v (D0.set v true) [v] := by
  refine ⟨by simp [hl], by simp, rfl, fun u hu => .inl (by simpa using hu), fun u => ?_, fun u hu => by simp at hu; subst hu; exact hv, fun u hu => by simp at hu; subst hu; exact hd⟩
  rw [hasN_set D0 v u (by rw [hl]; exact hv.1)]
  by_cases e : u = v
  · subst e; simp
  · simp [e]
theorem Bf.add (I : Bf next a D0 v D L) {x w : Nat} (hx : x ∈ L) (he : kE next w x) (hs : kS next a w) (hd : hasN D w = false) : Bf next a D0 v (D.set w true) (L ++ [w]) := by
  have hd0 : hasN D0 w = false := by
    cases q : hasN D0 w with
    | false => rfl
    | true => have := (I.d w).2 (.inl q); rw [hd] at this; cases this
  have hnl : w ∉ L := fun q => by have := (I.d w).2 (.inr q); rw [hd] at this; cases this
  refine ⟨by simp [I.len], ?_, ?_, fun u hu => ?_, fun u => ?_, fun u hu => ?_, fun u hu => ?_⟩
  · rw [List.nodup_append]
    refine ⟨I.nd, by simp, fun p hp q hq => ?_⟩
    simp at hq; subst hq
    rintro rfl; exact hnl hp
  · have h0 := I.h0
    have : 0 < L.length := (List.getElem?_eq_some_iff.1 h0).1
    rw [List.getElem?_append_left this]; exact h0
  · rcases List.mem_append.1 hu with q | q
    · exact I.mem u q
    · simp at q; subst q
      rcases I.mem x hx with rfl | z
      · exact .inr (.one ⟨hs, hd0⟩ ⟨I.s x hx, I.old x hx⟩ he)
      · exact .inr (.cons ⟨hs, hd0⟩ he z)
  · rw [hasN_set D w u (by rw [I.len]; exact hs.1)]
    by_cases e : u = w
    · subst e; simp
    · simp [e, I.d]
  · rcases List.mem_append.1 hu with q | q
    · exact I.s u q
    · simp at q; subst q; exact hs
  · rcases List.mem_append.1 hu with q | q
    · exact I.old u q
    · simp at q; subst q; exact hd0
theorem Bf.done (I : Bf next a D0 v D L) (h : ∀ x ∈ L, ∀ u, kE next u x → kS next a u → hasN D u = true) (u : Nat) : u ∈ L ↔ (u = v ∨ Way (kE next) (fun x => kS next a x ∧ hasN D0 x = false) u v) := by
  constructor
  · exact I.mem u
  · have vin : v ∈ L := List.mem_of_getElem? I.h0
    rintro (rfl | q)
    · exact vin
    · have step : ∀ p x, (kS next a p ∧ hasN D0 p = false) → kE next p x → x ∈ L → p ∈ L := fun p x hp he hx => by
        rcases (I.d p).1 (h x hx p he hp.1) with z | z
        · rw [hp.2] at z; cases z
        · exact z
      have key : ∀ p y, Way (kE next) (fun x => kS next a x ∧ hasN D0 x = false) p y → y ∈ L → p ∈ L := by
        intro p y w
        induction w with
        | one hu hv e => exact fun q => step _ _ hu e q
        | cons hu e _ ih => exact fun q => step _ _ hu e (ih q)
      exact key u v q vin
theorem Bf.few (I : Bf next a D0 v D L) : L.length ≤ next.length := nodup_lt_len I.nd fun x hx => (I.s x hx).1
/-- Does one come round? -/
theorem Bf.loop (I : Bf next a D0 v D L) (h : ∀ u, u ∈ L ↔ Same (kE next) (kS next a) u v) : Way (kE next) (kS next a) v v ↔ (1 < L.length ∨ kE next v v) := by
  have hv : kS next a v := I.s v (List.mem_of_getElem? I.h0)
  constructor
  · intro w
    cases w with
    | one hu hv e => exact .inr e
    | @cons _ x _ hu e k =>
      by_cases q : x = v
      · subst q; exact .inr e
      · left
        have hx : x ∈ L := (h x).2 (.inr ⟨k, .one hv k.fst e⟩)
        have vin : v ∈ L := List.mem_of_getElem? I.h0
        match L, hx, vin with
        | [p], hx, vin => simp at hx vin; exact absurd (hx.trans vin.symm) q
        | p :: p' :: l, _, _ => simp
  · rintro (w | w)
    · have h1 : L[1]? = some L[1] := List.getElem?_eq_getElem w
      have hm : L[1] ∈ L := List.getElem_mem w
      rcases (h _).1 hm with q | ⟨q1, q2⟩
      · exfalso
        have h0 := I.h0
        have e := (List.getElem?_inj (i := 0) (j := 1) (by omega) I.nd).1 (by rw [h0, h1, q])
        omega
      · exact q2.trans q1
    · exact .one hv hv w
end
end Go.Par

set_option linter.unusedSimpArgs false
set_option linter.unusedVariables false
set_option maxRecDepth 8000
set_option maxHeartbeats 4000000
namespace Go.Par
open Go.Proofs

theorem FN.base {h0 : Heap} {o c : Nat} {f : Nat → Nat} {n : Nat} (N : FN h0 o f n) {A : Ob} (hc : h0 c = some A) (X : Ob) : FN (upd h0 c (some X)) o f n ∧ (∀ C R, upd (FH h0 o C f n R) c (some X) = FH (upd h0 c (some X)) o C f n R) ∧ ∀ C R, FH h0 o C f n R c = some A := by
  have h1 : c ≠ o := fun e => by have := N.out; rw [← e, hc] at this; cases this
  have h2 : ∀ i, i < n → f i ≠ c := fun i hi e => by have := N.free i hi; rw [e, hc] at this; cases this
  refine ⟨⟨N.inj, N.ne, fun i hi => by rw [upd_ne _ _ (h2 i hi)]; exact N.free i hi, by rw [upd_ne _ _ (Ne.symm h1)]; exact N.out⟩, fun C R => ?_, fun C R => by rw [FN.at_else h1 h2]; exact hc⟩
  funext x
  by_cases e : x = c
  · subst e
    rw [upd_same, FN.at_else h1 h2, upd_same]
  · rw [upd_ne _ _ e]
    unfold FH
    split
    · rfl
    · split
      · rfl
      · rw [upd_ne _ _ e]

def outS (n x : Nat) : List Int := tab n fun i => if i < x then -1 else 0
@[simp] theorem outS_len (n x : Nat) : (outS n x).length = n := length_tab _ _
theorem outS_zero (n : Nat) : outS n 0 = List.replicate n 0 := by unfold outS; rw [replicate_tab]; simp
theorem outS_all (n : Nat) : outS n n = List.replicate n (-1) := by unfold outS; rw [replicate_tab]; exact tab_congr fun i hi => by rw [if_pos hi]
theorem outS_set (n x : Nat) : (outS n x).set x (-1) = outS n (x + 1) := by
  unfold outS; rw [set_tab]
  refine tab_congr fun i hi => ?_
  by_cases e : i = x
  · subst e; simp
  · rw [if_neg e]
    by_cases q : i < x
    · rw [if_pos q, if_pos (by omega)]
    · rw [if_neg q, if_neg (by omega)]
theorem mapi_set (R : List Int) (v : Nat) (x : Int) : (ints R).set v (.int .i64 x) = ints (R.set v x) := by rw [ints, ints, List.map_set]
theorem obTd_snocK (l : List Int) (k : Nat) (w : Int) (hk : k = l.length) : (⟨List.take k (ints l) ++ [.int .i64 w], 3, 1, true⟩ : Ob) = obTd (l ++ [w]) true := by
  subst hk; exact obTd_snoc l w
theorem obTd_cut (l : List Int) (w : Int) (nn : Bool) : (⟨(obTd (l ++ [w]) nn).cells.take l.length, (obTd (l ++ [w]) nn).ty, (obTd (l ++ [w]) nn).sz, (obTd (l ++ [w]) nn).nn⟩ : Ob) = obTd l nn := by simp [obTd, ints]
theorem obTd_mk (L : List Int) (nn : Bool) : (⟨ints L, 3, 1, nn⟩ : Ob) = obTd L nn := rfl

structure KB where
  f : Nat → Nat
  nn : Nat → Bool
  x : Nat
  y : Nat

/-! Lists by name -/
def nI (L : List Nat) : List Int := L.map fun n : Nat => (n : Int)
def kF (K : List (Nat × Nat)) : List Int := K.map fun p => (p.1 : Int)
def kG (K : List (Nat × Nat)) : List Int := K.map fun p => (p.2 : Int)
@[simp] theorem nI_len (L : List Nat) : (nI L).length = L.length := by simp [nI]
@[simp] theorem kF_len (K : List (Nat × Nat)) : (kF K).length = K.length := by simp [kF]
@[simp] theorem kG_len (K : List (Nat × Nat)) : (kG K).length = K.length := by simp [kG]
theorem nI_snoc (L : List Nat) (v : Nat) : nI (L ++ [v]) = nI L ++ [(v : Int)] := by simp [nI]
theorem kF_snoc (K : List (Nat × Nat)) (v i : Nat) : kF (K ++ [(v, i)]) = kF K ++ [(v : Int)] := by simp [kF]
theorem kG_snoc (K : List (Nat × Nat)) (v i : Nat) : kG (K ++ [(v, i)]) = kG K ++ [(i : Int)] := by simp [kG]
theorem kF_drop (K : List (Nat × Nat)) (v i : Nat) : List.drop K.length (ints (kF (K ++ [(v, i)]))) = [.int .i64 v] := by simp [kF, ints]
theorem kG_drop (K : List (Nat × Nat)) (v i : Nat) : List.drop K.length (ints (kG (K ++ [(v, i)]))) = [.int .i64 i] := by simp [kG, ints]
theorem kG_set (K : List (Nat × Nat)) (v i : Nat) : (ints (kG (K ++ [(v, i)]))).set K.length (.int .i64 ((i : Int) + 1)) = ints (kG (K ++ [(v, i + 1)])) := by simp [kG, ints]
theorem kF_up (K : List (Nat × Nat)) (v i j : Nat) : kF (K ++ [(v, i)]) = kF (K ++ [(v, j)]) := by simp [kF]

/-- The memory of the second loop. -/
def KH (h : Heap) (k2 k1 q s c : Nat) (G F Q : List Int) (nn : Bool) (R : List Bool) (C : List Int) : Heap := HL h [(k2, obTd G true), (k1, obTd F true), (q, obTd Q nn), (s, obBk R), (c, obTd C true)]
section
variable {h : Heap} {k2 k1 q s c : Nat} (N : HN h [k2, k1, q, s, c]) (G F Q : List Int) (nn : Bool) (R : List Bool) (C : List Int)
include N
theorem KH.a2 : KH h k2 k1 q s c G F Q nn R C k2 = some (obTd G true) := HL.at (k := 0) N.nd rfl
theorem KH.a1 : KH h k2 k1 q s c G F Q nn R C k1 = some (obTd F true) := HL.at (k := 1) N.nd rfl
theorem KH.aq : KH h k2 k1 q s c G F Q nn R C q = some (obTd Q nn) := HL.at (k := 2) N.nd rfl
theorem KH.as : KH h k2 k1 q s c G F Q nn R C s = some (obBk R) := HL.at (k := 3) N.nd rfl
theorem KH.p2 (G' : List Int) : upd (KH h k2 k1 q s c G F Q nn R C) k2 (some (obTd G' true)) = KH h k2 k1 q s c G' F Q nn R C := HL.put (k := 0) N.nd rfl
theorem KH.p1 (F' : List Int) : upd (KH h k2 k1 q s c G F Q nn R C) k1 (some (obTd F' true)) = KH h k2 k1 q s c G F' Q nn R C := HL.put (k := 1) N.nd rfl
theorem KH.ps (R' : List Bool) : upd (KH h k2 k1 q s c G F Q nn R C) s (some (obBk R')) = KH h k2 k1 q s c G F Q nn R' C := HL.put (k := 3) N.nd rfl
theorem KH.g1 {o' : Nat} (ho : KH h k2 k1 q s c G F Q nn R C o' = none) (F' : List Int) : upd (upd (KH h k2 k1 q s c G F Q nn R C) k1 none) o' (some (obTd F' true)) = KH h k2 o' q s c G F' Q nn R C ∧ HN h [k2, o', q, s, c] :=
  HL.ren (h0 := h) (A' := obTd F' true) (l := [(k2, obTd G true), (k1, obTd F true), (q, obTd Q nn), (s, obBk R), (c, obTd C true)]) (k := 1) N rfl ho
theorem KH.g2 {o' : Nat} (ho : KH h k2 k1 q s c G F Q nn R C o' = none) (G' : List Int) : upd (upd (KH h k2 k1 q s c G F Q nn R C) k2 none) o' (some (obTd G' true)) = KH h o' k1 q s c G' F Q nn R C ∧ HN h [o', k1, q, s, c] :=
  HL.ren (h0 := h) (A' := obTd G' true) (l := [(k2, obTd G true), (k1, obTd F true), (q, obTd Q nn), (s, obBk R), (c, obTd C true)]) (k := 0) N rfl ho
theorem KH.gq {o' : Nat} (ho : KH h k2 k1 q s c G F Q nn R C o' = none) (Q' : List Int) : upd (upd (KH h k2 k1 q s c G F Q nn R C) q none) o' (some (obTd Q' true)) = KH h k2 k1 o' s c G F Q' true R C ∧ HN h [k2, k1, o', s, c] :=
  HL.ren (h0 := h) (A' := obTd Q' true) (l := [(k2, obTd G true), (k1, obTd F true), (q, obTd Q nn), (s, obBk R), (c, obTd C true)]) (k := 2) N rfl ho
end
theorem KH.cut {h : Heap} {k2 k1 q s c : Nat} (N : HN h [k2, k1, q, s, c]) (K : List (Nat × Nat)) (v i : Nat) (Q : List Int) (nn : Bool) (R : List Bool) (C : List Int) (n : Nat) (tm : Tm) :
    GStep ⟨n, tm, KH h k2 k1 q s c (kG (K ++ [(v, i)])) (kF (K ++ [(v, i)])) Q nn R C⟩ ⟨n, tm, KH h k2 k1 q s c (kG K) (kF K) Q nn R C⟩ := by
  rw [kG_snoc, kF_snoc]
  have t2 := GStep.trunc (S := ⟨n, tm, KH h k2 k1 q s c (kG K ++ [(i : Int)]) (kF K ++ [(v : Int)]) Q nn R C⟩) (KH.a2 N _ _ _ _ _ _) (kG K).length
  rw [obTd_cut] at t2
  simp only at t2
  rw [KH.p2 N] at t2
  have t1 := GStep.trunc (S := ⟨n, tm, KH h k2 k1 q s c (kG K) (kF K ++ [(v : Int)]) Q nn R C⟩) (KH.a1 N _ _ _ _ _ _) (kF K).length
  rw [obTd_cut] at t1
  simp only at t1
  rw [KH.p1 N] at t1
  exact t2.trans t1
theorem HL.tl {h0 : Heap} {l : List (Nat × Ob)} {a : Nat} {A : Ob} (N : HN h0 (nms ((a, A) :: l))) : subH (HL h0 l) (HL h0 ((a, A) :: l)) := by
  intro x X hx
  have hn : x ≠ a := by
    rintro rfl
    have h1 : x ∉ nms l := (List.nodup_cons.1 N.nd).1
    rw [HL.out h1, N.free x (by simp)] at hx
    cases hx
  rw [HL, upd_ne _ _ hn]; exact hx

structure KO where
  q : Nat
  nn : Bool
  R : List Bool
  O : List Nat
  x : Nat
structure KI where
  k2 : Nat
  k1 : Nat
  q : Nat
  nn : Bool
  R : List Bool
  O : List Nat
  K : List (Nat × Nat)

structure K3 where
  D : List Bool
  C : List Int
  x : Nat
structure KL where
  l : Nat
  D : List Bool
  L : List Nat
  k : Nat
structure KLok (next : List (List Int)) (a D0 : List Bool) (v : Nat) (h : Heap) (d c : Nat) (t : KL) : Prop where
  N : HN h [t.l, d, c]
  B : Bf next a D0 v t.D t.L
  k : t.k ≤ t.L.length
  cl : ∀ x ∈ t.L.take t.k, ∀ u, kE next u x → kS next a u → hasN t.D u = true
structure KLy (next : List (List Int)) (a D0 : List Bool) (v : Nat) (h : Heap) (d c k x : Nat) (t : KL) : Prop where
  N : HN h [t.l, d, c]
  B : Bf next a D0 v t.D t.L
  hk : k < t.L.length
  at_ : t.L[k]? = some x
  cl : ∀ x ∈ t.L.take k, ∀ u, kE next u x → kS next a u → hasN t.D u = true
  y : t.k ≤ (bkL next x).length
  cy : ∀ u : Nat, (u : Int) ∈ (bkL next x).take t.k → kS next a u → hasN t.D u = true

/-- The memory of the third loop. -/
def K3H (h : Heap) (l d c : Nat) (L : List Int) (D : List Bool) (C : List Int) : Heap := HL h [(l, obTd L true), (d, obBk D), (c, obTd C true)]
section
variable {h : Heap} {l d c : Nat} (N : HN h [l, d, c]) (L : List Int) (D : List Bool) (C : List Int)
include N
theorem K3H.al : K3H h l d c L D C l = some (obTd L true) := HL.at (k := 0) N.nd rfl
theorem K3H.ad : K3H h l d c L D C d = some (obBk D) := HL.at (k := 1) N.nd rfl
theorem K3H.pd (D' : List Bool) : upd (K3H h l d c L D C) d (some (obBk D')) = K3H h l d c L D' C := HL.put (k := 1) N.nd rfl
theorem K3H.gl {o' : Nat} (ho : K3H h l d c L D C o' = none) (L' : List Int) : upd (upd (K3H h l d c L D C) l none) o' (some (obTd L' true)) = K3H h o' d c L' D C ∧ HN h [o', d, c] :=
  HL.ren (h0 := h) (A' := obTd L' true) (l := [(l, obTd L true), (d, obBk D), (c, obTd C true)]) (k := 0) N rfl ho
theorem K3H.dl : upd (K3H h l d c L D C) l none = HL h [(d, obBk D), (c, obTd C true)] := HL.del (h0 := h) (l := [(l, obTd L true), (d, obBk D), (c, obTd C true)]) (k := 0) N rfl
end
theorem nI_at {L : List Nat} {k x : Nat} (h : L[k]? = some x) : ∃ r, List.drop k (ints (nI L)) = .int .i64 (x : Int) :: r := by
  have hk := (List.getElem?_eq_some_iff.1 h).1
  refine ⟨(ints (nI L)).drop (k + 1), ?_⟩
  rw [List.drop_eq_getElem_cons (by simpa using hk)]
  have := (List.getElem?_eq_some_iff.1 h).2
  simp [ints, nI, this]
theorem nI_get {L : List Nat} {k x : Nat} (h : L[k]? = some x) : (nI L)[k]? = some (x : Int) := by simp [nI, h]

def lpB (n : Nat) (row : List Int) (v : Nat) (y : Nat) : Bool := decide (1 < n) || (row.take y).contains (v : Int)
theorem lpB_zero (n : Nat) (row : List Int) (v : Nat) : lpB n row v 0 = decide ((1 : Int) < (n : Int)) := by
  unfold lpB; simp only [List.take_zero, List.contains_nil, Bool.or_false]; congr 1; simp only [eq_iff_iff]; omega
theorem lpB_step (n : Nat) (row : List Int) (v : Nat) {y : Nat} (hy : y < row.length) : lpB n row v (y + 1) = (lpB n row v y || (row[y] == (v : Int))) := by
  unfold lpB
  rw [List.take_succ_eq_append_getElem hy, Bool.or_assoc]
  congr 1
  rw [Bool.eq_iff_iff]
  simp only [List.contains_iff_mem, List.mem_append, List.mem_singleton, Bool.or_eq_true, beq_iff_eq]
  exact or_congr Iff.rfl ⟨fun e => e.symm, fun e => e.symm⟩
theorem lpB_all (n : Nat) (row : List Int) (v : Nat) : lpB n row v row.length = true ↔ 1 < n ∨ (v : Int) ∈ row := by
  unfold lpB; simp
structure CWok (L : List Nat) (C : List Int) (v n : Nat) (t : K3) : Prop where
  len : t.C.length = n
  x : t.x ≤ L.length
  g : ∀ u, u < n → t.C[u]? = if u ∈ L.take t.x then some (v : Int) else C[u]?

structure KJ (next : List (List Int)) (a : List Bool) (h : Heap) (s c x : Nat) (t : KI) : Prop where
  N : HN h [t.k2, t.k1, t.q, s, c]
  I : DI next a t.R t.O t.K
  b : ∀ p ∈ t.K, p.1 < next.length ∧ p.2 ≤ (next.getD p.1 []).length
  S : ∀ v, v < x + 1 → hasN a v = true → hasN t.R v = true

theorem r9_circles (next : List (List Int)) (ok : BigOk next) (a : List Bool) : ∀ h, AC Try.prog 82 [.ro false (rows next), .ro false (bools a)] h fun r h' => ∃ c, r = .ro true (ints c) ∧ CirOk (kE next) (kS next a) next.length c ∧ h' = h := by
  have hl := ok.len
  have b1 : (next.length : Int) ≤ 17592186044416 := by omega
  have b2 : next.length * 24 ≤ 140737488355328 := by omega
  intro h
  refine AC.body Θ_ok Try.func82 rfl rfl (Nat.le_of_ble_eq_true rfl) ?_
  refine AW.seq fun _ k1 => AW.region [] Θ_ok ?_
  simp
  refine k1 _ ?_
  refine AW.seq fun _ k1 => AW.region [33] Θ_ok ?_
  simp [newA]
  have e1 : List.flatMap AV.flat (List.replicate next.length (AV.int .i64 0)) = ints (outS next.length 0) := by
    rw [outS_zero, flat_ones (fun u hu => by rw [(List.mem_replicate.1 hu).2]; rfl)]; simp
  rw [e1, obTd_mk]
  refine ⟨by omega, fun c hc => k1 _ ?_⟩
  clear e1
  refine AW.seq fun _ k1 => AW.region [36] Θ_ok ?_
  simp [newA]
  refine ⟨by omega, fun o ho => k1 _ ?_⟩
  rw [replicate_tab, flat_tab (fun _ _ => rfl)]
  refine AW.family 3 1 ho fun f N => ?_
  have hcc : upd h c (some (obTd (outS next.length 0) true)) c = some (obTd (outS next.length 0) true) := upd_same _ _ _
  have hst : FH (upd h c (some (obTd (outS next.length 0) true))) o ⟨tab next.length fun i => .mu (f i) 0, 22, 1, true⟩ f next.length (fun _ => ⟨[], 3, 1, false⟩) = FH (upd h c (some (obTd (outS next.length 0) true))) o (befC (nG next) f 0 0) f next.length (befR (nG next) (fun _ => false) 0 0) := by
    have e : befR (nG next) (fun _ => false) 0 0 = fun _ => ⟨[], 3, 1, false⟩ := by funext w; simp [befR, befS_zero]
    rw [e]; simp [befC, befS_zero]
  rw [hst]
  clear hst
  refine AW.seqTo ⟨247, [(0, .ro false (rows next)), (1, .ro false (bools a)), (5, .mu c next.length), (6, .ro true (rows (tab next.length fun w => bkL next w)))], HL h [(c, obTd (List.replicate next.length (-1)) true)]⟩ (fun _ k1 => ?_) ?_
  · refine AW.seq fun _ k2 => AW.region [] Θ_ok ?_
    simp
    refine k2 _ ?_
    refine AW.block ?_
    refine AW.loopI (X := KB) (fun s => FN (upd h c (some (obTd (outS next.length s.x) true))) o s.f next.length ∧ s.x ≤ next.length)
      (fun s => ⟨247, [(0, .ro false (rows next)), (1, .ro false (bools a)), (5, .mu c next.length), (6, .mu o next.length), (37, .ro false (rows next)), (38, .int .i64 next.length), (39, .int .i64 s.x)], FH (upd h c (some (obTd (outS next.length s.x) true))) o (befC (nG next) s.f s.x 0) s.f next.length (befR (nG next) s.nn s.x 0)⟩)
      (fun s => next.length - s.x) ⟨f, fun _ => false, 0, 0⟩ ⟨N, Nat.zero_le _⟩ (GStep.eq (by simp) (subH.refl _)) ?_
    clear N hcc f
    rintro ⟨f, nn, x, _⟩ ⟨N, hx⟩
    simp only at N hx ⊢
    refine AW.seq fun _ k2 => AW.region [] Θ_ok ?_
    simp
    refine k2 _ ?_
    by_cases hlt : x < next.length
    · have hr := ok.lt _ (List.getElem_mem hlt)
      have hlr := ok.row _ (List.getElem_mem hlt)
      have inc := wrap_succ (show x < 9223372036854775807 by omega)
      obtain ⟨N1, ep, ea⟩ := N.base (upd_same _ _ _) (obTd (outS next.length (x + 1)) true)
      rw [upd_upd] at N1 ep
      replace ea := ea (befC (nG next) f x 0) (befR (nG next) nn x 0)
      replace ep := ep (befC (nG next) f x 0) (befR (nG next) nn x 0)
      have os := mapi_set (outS next.length x) x (-1)
      rw [outS_set] at os
      refine AW.seq fun _ k2 => AW.cond true (by simp [Int.natCast_inj, hlt]) (fun _ => ?_) (fun h => by cases h)
      refine AW.skip ?_
      simp
      refine k2 _ ?_
      refine AW.seq fun _ k2 => ?_
      refine AW.block ?_
      refine AW.seq fun _ k3 => AW.region [] Θ_ok ?_
      simp [hlt]
      refine k3 _ ?_
      refine AW.seq fun _ k3 => AW.region [] Θ_ok ?_
      simp [ea, hlt, os, obTd_mk, ep]
      refine ⟨by omega, k3 _ ?_⟩
      clear ea ep os N
      refine AW.seq fun _ k3 => AW.region [] Θ_ok ?_
      simp
      refine k3 _ ?_
      refine AW.block ?_
      obtain ⟨hb, ehb⟩ : ∃ hb, hb = upd h c (some (obTd (outS next.length (x + 1)) true)) := ⟨_, rfl⟩
      rw [← ehb] at N1 ⊢
      refine AW.loopI (X := KB) (fun s => FN hb o s.f next.length ∧ s.y ≤ next[x].length)
        (fun s => ⟨247, [(0, .ro false (rows next)), (1, .ro false (bools a)), (5, .mu c next.length), (6, .mu o next.length), (7, .int .i64 x), (37, .ro false (rows next)), (38, .int .i64 next.length), (39, .int .i64 x), (47, .ro false (ints next[x])), (48, .int .i64 next[x].length), (49, .int .i64 s.y)], FH hb o (befC (nG next) s.f x s.y) s.f next.length (befR (nG next) s.nn x s.y)⟩)
        (fun s => next[x].length - s.y) ⟨f, nn, x, 0⟩ ⟨N1, Nat.zero_le _⟩ (GStep.eq (by simp) (subH.refl _)) ?_
      clear N1 f nn
      rintro ⟨f, nn, _, y⟩ ⟨N, hy⟩
      simp only at N hy ⊢
      refine AW.seq fun _ k3 => AW.region [] Θ_ok ?_
      simp
      refine k3 _ ?_
      by_cases hly : y < next[x].length
      · obtain ⟨w, hw⟩ : ∃ w : Nat, next[x][y] = (w : Int) := ⟨next[x][y].toNat, by have := (hr _ (List.getElem_mem hly)).1; omega⟩
        have hwn : w < next.length := by have := (hr _ (List.getElem_mem hly)).2; omega
        have hwn' : w < (nG next).owner.length := by simpa using hwn
        have incy := wrap_succ (show y < 9223372036854775807 by omega)
        have hO : FH hb o (befC (nG next) f x y) f next.length (befR (nG next) nn x y) o = some (befC (nG next) f x y) := FN.at_out
        have hW := N.at_row (C := befC (nG next) f x y) (R := befR (nG next) nn x y) hwn
        have hbl := befS_bigY ok w (y := y) hlt
        have hC : (befC (nG next) f x y).cells[w]? = some (.mu (f w) (befS (nG next) x y w).length) := by simp [befC, getElem?_tab, hwn]
        have hL : (befC (nG next) f x y).cells.drop w = .mu (f w) (befS (nG next) x y w).length :: (befC (nG next) f x y).cells.drop (w + 1) := by
          have hh : w < (befC (nG next) f x y).cells.length := by simp [befC, hwn]
          rw [List.drop_eq_getElem_cons hh]
          rw [List.getElem?_eq_getElem hh] at hC
          rw [Option.some.inj hC]
        have hCl : (befC (nG next) f x y).cells.length = next.length := by simp [befC]
        refine AW.seq fun _ k3 => AW.cond true (by simp [Int.natCast_inj, hly]) (fun _ => ?_) (fun h => by cases h)
        refine AW.skip ?_
        simp
        refine k3 _ ?_
        refine AW.seq fun _ k3 => ?_
        refine AW.block ?_
        refine AW.seq fun _ k4 => AW.region [] Θ_ok ?_
        simp [hly, hw]
        refine k4 _ ?_
        refine AW.region [] Θ_ok ?_
        simp [hO, hL, hwn, hW, appendA, befR]
        refine ⟨rfl, by omega, fun n' hn' => ?_⟩
        have hft : List.take (befS (nG next) x y w).length (ints (befS (nG next) x y w)) = ints (befS (nG next) x y w) := List.take_of_length_le (by simp)
        have hg : ∀ i, befS (nG next) x (y + 1) i = befS (nG next) x y i ++ if (w : Int) = (i : Int) then [(x : Int)] else [] := fun i => by
          have := befS_step (nG next) (x := x) (y := y) hlt hly i
          rw [this]; simp [hw]
        have stepC : (⟨(befC (nG next) f x y).cells.set w (.mu n' ((befS (nG next) x y w).length + 1)), (befC (nG next) f x y).ty, (befC (nG next) f x y).sz, (befC (nG next) f x y).nn⟩ : Ob) = befC (nG next) (fun i => if i = w then n' else f i) x (y + 1) := by
          simp only [befC, set_tab]
          congr 1
          refine tab_congr fun i _ => ?_
          rw [hg]
          by_cases e : i = w
          · subst e; simp
          · have e' : ¬ (w : Int) = (i : Int) := by omega
            simp [e, e']
        have stepR : (fun i => if i = w then (⟨ints (befS (nG next) x y w) ++ [.int .i64 x], 3, 1, true⟩ : Ob) else befR (nG next) nn x y i) = befR (nG next) (fun i => if i = w then true else nn i) x (y + 1) := by
          funext i
          simp only [befR]
          rw [hg]
          by_cases e : i = w
          · subst e; simp
          · have e' : ¬ (w : Int) = (i : Int) := by omega
            simp [e, e']
        obtain ⟨N', he⟩ := N.grow (C' := befC (nG next) (fun i => if i = w then n' else f i) x (y + 1)) hwn ⟨ints (befS (nG next) x y w) ++ [.int .i64 x], 3, 1, true⟩ hn'
        obtain ⟨q1, q2, q3⟩ := N.fresh hn'
        rw [hft]
        have hno : upd (upd (FH hb o (befC (nG next) f x y) f next.length (befR (nG next) nn x y)) (f w) none) n' (some ⟨ints (befS (nG next) x y w) ++ [.int .i64 x], 3, 1, true⟩) o = some (befC (nG next) f x y) := by
          rw [upd_ne _ _ (Ne.symm q1), upd_ne _ _ (Ne.symm (N.ne w hwn))]; exact hO
        rw [hno]
        simp only
        refine ⟨⟨trivial, by rw [hCl]; exact hwn⟩, k3 _ ?_⟩
        rw [stepC, he, stepR]
        refine AW.region [] Θ_ok ?_
        simp
        exact ⟨⟨_, _, 0, y + 1⟩, ⟨N', hly⟩, by simp only; omega, GStep.eq (by simp [incy]) (subH.refl _)⟩
      · obtain rfl : y = next[x].length := by omega
        refine AW.seq fun _ k3 => AW.cond false (by simp [Int.natCast_inj]) (fun h => by cases h) (fun _ => ?_)
        refine AW.exit ?_
        simp
        refine k2 _ ?_
        have g1 := befC_next (nG next) f (x := x) hlt
        have g2 := befR_next (nG next) nn (x := x) hlt
        simp only [nG_next] at g1 g2
        rw [g1, g2]
        refine AW.region [] Θ_ok ?_
        simp
        subst ehb
        exact ⟨⟨f, nn, x + 1, 0⟩, ⟨N, hlt⟩, by simp only; omega, GStep.eq (by simp [inc]) (subH.refl _)⟩
    · obtain rfl : x = next.length := by omega
      refine AW.seq fun _ k2 => AW.cond false (by simp [Int.natCast_inj]) (fun h => by cases h) (fun _ => ?_)
      refine AW.exit ?_
      simp
      refine k1 _ ?_
      rw [outS_all] at N ⊢
      have hA : befC (nG next) f next.length 0 = ⟨tab next.length fun i => if i < next.length then .mu (f i) (befS (nG next) next.length 0 i).length else .ro false (ints (bkL next i)), 22, 1, true⟩ := by
        simp only [befC, nG_len]
        congr 1
        exact tab_congr fun i hi => by simp [hi]
      rw [hA]
      refine GStep.trans (GStep.rows N (R := befR (nG next) nn next.length 0) (fun _ _ => rfl) (fun i _ => by simp [befR]) (fun i _ u hu => ?_) (fun i _ => ?_) next.length (Nat.le_refl _)) ?_
      · simp only [befR, List.mem_map] at hu; obtain ⟨_, _, rfl⟩ := hu; rfl
      · simp only [befR, bkL]
      refine GStep.trans (GStep.freeze (t := 6) (n := next.length) (k := true) (by simp) (upd_same _ _ _) (fun _ => rfl) rfl (by simp) (fun u hu => ?_)) ?_
      · simp only [mem_tab] at hu
        obtain ⟨i, _, rfl⟩ := hu
        rfl
      simp only
      rw [upd_upd, upd_none_id (h := upd h c _) N.out]
      exact GStep.eq (by simp) (subH.refl _)
  clear hcc N ho o f
  obtain ⟨BK, hBK⟩ : ∃ BK, BK = tab next.length fun w => bkL next w := ⟨_, rfl⟩
  obtain ⟨C0, hC0⟩ : ∃ C0, C0 = List.replicate next.length (-1 : Int) := ⟨_, rfl⟩
  rw [← hBK, ← hC0]
  -- R13
  refine AW.seq fun _ k1 => AW.region [67] Θ_ok ?_
  simp [newA]
  have e1 : List.flatMap AV.flat (List.replicate next.length (AV.bool false)) = (List.replicate next.length false).map AV.bool := by
    rw [flat_ones (fun u hu => by rw [(List.mem_replicate.1 hu).2]; rfl)]; simp
  rw [e1, obBk_mk]
  have Nc : HN h [c] := HL.new (l := []) ⟨List.nodup_nil, fun o ho => by cases ho⟩ hc
  refine ⟨by omega, fun s hs => k1 _ ?_⟩
  clear e1
  refine AW.seq fun _ k1 => AW.region [] Θ_ok ?_
  simp
  refine k1 _ ?_
  refine AW.mine 12 3 1 rfl fun q hq => ?_
  simp only at hq ⊢
  have Ns : HN h [s, c] := HL.new (l := [(c, obTd C0 true)]) Nc hs
  obtain ⟨R0, hR0⟩ : ∃ R0, R0 = List.replicate next.length false := ⟨_, rfl⟩
  rw [← hR0] at hq ⊢
  have Nq : HN h [q, s, c] := HL.new (l := [(s, obBk R0), (c, obTd C0 true)]) Ns hq
  have I0 : DI next a R0 [] [] := DI.init hR0
  have f0 : ∀ v, hasN R0 v = true → False := fun v hv => by have := (I0.r v).1 hv; simp at this
  refine AW.seqEx (X := KO) (fun t => HN h [t.q, s, c] ∧ DI next a t.R t.O [] ∧ ∀ v, v < next.length → hasN a v = true → hasN t.R v = true)
    (fun t => ⟨247, [(0, .ro false (rows next)), (1, .ro false (bools a)), (5, .mu c next.length), (6, .ro true (rows BK)), (12, .mu t.q t.O.length)], HL h [(t.q, obTd (nI t.O) t.nn), (c, obTd C0 true)]⟩) (fun _ k1 => ?_) ?_
  · refine AW.seq fun _ k2 => AW.region [] Θ_ok ?_
    simp
    refine k2 _ ?_
    refine AW.block ?_
    refine AW.loopI (X := KO) (fun t => HN h [t.q, s, c] ∧ DI next a t.R t.O [] ∧ (∀ v, v < t.x → hasN a v = true → hasN t.R v = true) ∧ t.x ≤ next.length)
      (fun t => ⟨247, [(0, .ro false (rows next)), (1, .ro false (bools a)), (5, .mu c next.length), (6, .ro true (rows BK)), (11, .mu s next.length), (12, .mu t.q t.O.length), (69, .int .i64 next.length), (70, .int .i64 t.x)], HL h [(t.q, obTd (nI t.O) t.nn), (s, obBk t.R), (c, obTd C0 true)]⟩)
      (fun t => next.length - t.x) ⟨q, false, R0, [], 0⟩ ⟨Nq, I0, fun v hv => absurd hv (Nat.not_lt_zero _), Nat.zero_le _⟩ (GStep.eq (by simp) (subH.refl _)) ?_
    clear Nq I0 f0 hq hR0 R0 Ns hs Nc q
    rintro ⟨q, nn, R, O, x⟩ ⟨N, I, hS, hx⟩
    simp only at N I hS hx ⊢
    refine AW.seq fun _ k2 => AW.region [] Θ_ok ?_
    simp
    refine k2 _ ?_
    by_cases hlt : x < next.length
    · have inc := wrap_succ (show x < 9223372036854775807 by omega)
      have lR := I.len
      have hxR : x < R.length := by omega
      have sA := has_r9 a x
      refine AW.seq fun _ k2 => AW.cond true (by simp [Int.natCast_inj, hlt]) (fun _ => ?_) (fun h => by cases h)
      refine AW.skip ?_
      simp
      refine k2 _ ?_
      refine AW.seq fun _ k2 => ?_
      refine AW.block ?_
      refine AW.seq fun _ k3 => AW.region [] Θ_ok ?_
      simp
      refine k3 _ ?_
      refine AW.seq fun _ k3 => ?_
      have gs : HL h [(q, obTd (nI O) nn), (s, obBk R), (c, obTd C0 true)] s = some (obBk R) := HL.at (k := 1) N.nd rfl
      have dk := mapk_drop R hxR
      cases ha : hasN a x with
      | false =>
        rw [ha] at sA
        refine AW.seq fun _ k4 => AW.regionAt 3 [] Θ_ok fun B hB => ?_
        simp
        refine sA.use (by simp) ?_
        refine hB _ ?_
        clear hB B
        simp
        refine k4 _ ?_
        refine AW.cond true (by simp [Int.natCast_inj]) (fun _ => ?_) (fun h => by cases h)
        refine AW.exit ?_
        simp
        refine k2 _ ?_
        refine AW.region [] Θ_ok ?_
        simp
        exact ⟨⟨q, nn, R, O, x + 1⟩, ⟨N, I, fun v hv hw => by
          by_cases e : v = x
          · subst e; rw [ha] at hw; cases hw
          · exact hS v (by simp only at hv; omega) hw, hlt⟩, by simp only; omega, GStep.eq (by simp [inc]) (subH.refl _)⟩
      | true =>
        rw [ha] at sA
        have hxl : (x : Nat) < next.length := hlt
        refine AW.seq fun _ k4 => AW.regionAt 3 [] Θ_ok fun B hB => ?_
        simp
        refine sA.use (by simp) ?_
        cases hb : R[x] with
        | true =>
          refine hB _ ?_
          clear hB B
          simp [gs, hlt, lR, dk, hb]
          refine k4 _ ?_
          refine AW.cond true (by simp [Int.natCast_inj]) (fun _ => ?_) (fun h => by cases h)
          refine AW.exit ?_
          simp
          refine k2 _ ?_
          refine AW.region [] Θ_ok ?_
          simp
          exact ⟨⟨q, nn, R, O, x + 1⟩, ⟨N, I, fun v hv hw => by
            by_cases e : v = x
            · subst e; simp [hasN, hxR, hb]
            · exact hS v (by simp only at hv; omega) hw, hlt⟩, by simp only; omega, GStep.eq (by simp [inc]) (subH.refl _)⟩
        | false =>
          refine hB _ ?_
          clear hB B
          simp [gs, hlt, lR, dk, hb]
          refine k4 _ ?_
          refine AW.cond false (by simp [Int.natCast_inj]) (fun h => by cases h) (fun _ => ?_)
          refine AW.skip ?_
          simp
          refine k3 _ ?_
          refine AW.seq fun _ k3 => AW.region [84, 85] Θ_ok ?_
          simp [newA]
          refine fun k1' hk1 k2' hk2 => k3 _ ?_
          have N1 := HL.new (l := [(q, obTd (nI O) nn), (s, obBk R), (c, obTd C0 true)]) N hk1
          have N2 : HN h [k2', k1', q, s, c] := HL.new (l := [(k1', obTd (kF [(x, 0)]) true), (q, obTd (nI O) nn), (s, obBk R), (c, obTd C0 true)]) N1 hk2
          have hst : upd (upd (HL h [(q, obTd (nI O) nn), (s, obBk R), (c, obTd C0 true)]) k1' (some ⟨[.int .i64 (x : Int)], 3, 1, true⟩)) k2' (some ⟨[.int .i64 0], 3, 1, true⟩) = KH h k2' k1' q s c (kG [(x, 0)]) (kF [(x, 0)]) (nI O) nn R C0 := rfl
          rw [hst]
          clear hst gs hk1 hk2 N1
          have gs := KH.as N2 (kG [(x, 0)]) (kF [(x, 0)]) (nI O) nn R C0
          have ps := KH.ps N2 (kG [(x, 0)]) (kF [(x, 0)]) (nI O) nn R C0 (R.set x true)
          have ms := mapk_set R x true
          have hnR : hasN R x = false := by simp [hasN, hxR, hb]
          have I1 : DI next a (R.set x true) O [(x, 0)] := I.push (K := []) ⟨hlt, ha⟩ hnR fun p hp => by simp at hp
          obtain ⟨R', hR'⟩ : ∃ R', R' = R.set x true := ⟨_, rfl⟩
          have hS' : ∀ v, v < x + 1 → hasN a v = true → hasN R' v = true := fun v hv hw => by
            rw [hR', hasN_set R x v hxR]
            split
            · rfl
            · exact hS v (by omega) hw
          rw [← hR'] at ps ms I1
          refine AW.seq fun _ k3 => AW.region [] Θ_ok ?_
          simp [gs, hlt, lR, ms, obBk_mk, ps]
          refine ⟨by omega, k3 _ ?_⟩
          clear gs ps ms dk
          refine AW.block ?_
          refine AW.loopI (X := KI) (KJ next a h s c x)
            (fun t => ⟨247, [(0, .ro false (rows next)), (1, .ro false (bools a)), (5, .mu c next.length), (6, .ro true (rows BK)), (11, .mu s next.length), (12, .mu t.q t.O.length), (14, .mu t.k1 t.K.length), (15, .mu t.k2 t.K.length), (69, .int .i64 next.length), (70, .int .i64 x)], KH h t.k2 t.k1 t.q s c (kG t.K) (kF t.K) (nI t.O) t.nn t.R C0⟩)
            (fun t => leftU next t.R + leftK next t.K) ⟨k2', k1', q, nn, R', O, [(x, 0)]⟩ ⟨N2, I1, fun p hp => by simp at hp; subst hp; exact ⟨hlt, Nat.zero_le _⟩, hS'⟩ (GStep.eq (by simp) (subH.refl _)) ?_
          clear N2 I1 hS' hS hR' R' hnR hb I N lR hxR hx R O nn q k1' k2'
          rintro ⟨k2', k1', q, nn, R, O, K⟩ ⟨N, I, hK, hS⟩
          simp only at N I hK hS ⊢
          have few := I.few
          have lR := I.len
          refine AW.seq fun _ k3 => ?_
          refine AW.seq fun _ k4 => AW.region [] Θ_ok ?_
          simp
          refine k4 _ ?_
          by_cases hK0 : K = []
          · subst hK0
            refine AW.cond false (by simp [Int.natCast_inj]) (fun h => by cases h) (fun _ => ?_)
            refine AW.exit ?_
            simp
            refine k2 _ ?_
            refine AW.region [] Θ_ok ?_
            simp
            refine ⟨⟨q, nn, R, O, x + 1⟩, ⟨(HN.del (k := 0) (HN.del (k := 0) N)), I, hS, hlt⟩, by simp only; omega, GStep.eq (by simp [inc]) ?_⟩
            exact fun o z hz => HL.tl (l := [(k1', obTd (kF []) true), (q, obTd (nI O) nn), (s, obBk R), (c, obTd C0 true)]) (A := obTd (kG []) true) N o z (HL.tl (l := [(q, obTd (nI O) nn), (s, obBk R), (c, obTd C0 true)]) (A := obTd (kF []) true) (HN.del (k := 0) N) o z hz)
          · obtain ⟨K', p, rfl⟩ : ∃ K' p, K = K' ++ [p] := ⟨K.dropLast, K.getLast hK0, (List.dropLast_concat_getLast hK0).symm⟩
            obtain ⟨v, i⟩ := p
            obtain ⟨hv, hi⟩ := hK (v, i) (by simp)
            simp only at hv hi
            rw [show next.getD v [] = next[v] by simp [hv]] at hi
            have hlr := ok.row _ (List.getElem_mem hv)
            have hpos : (0 : Int) < ((K' ++ [(v, i)]).length : Nat) := by simp
            have hwr := wrap_nat (show K'.length < 9223372036854775808 by simp at few; omega)
            have g1 := KH.a1 N (kG (K' ++ [(v, i)])) (kF (K' ++ [(v, i)])) (nI O) nn R C0
            have g2 := KH.a2 N (kG (K' ++ [(v, i)])) (kF (K' ++ [(v, i)])) (nI O) nn R C0
            have d1 := kF_drop K' v i
            have d2 := kG_drop K' v i
            refine AW.cond true (by simp [Int.natCast_inj]) (fun _ => ?_) (fun h => by cases h)
            refine AW.skip ?_
            simp
            refine k3 _ ?_
            refine AW.block ?_
            refine AW.seq fun _ k4 => AW.region [] Θ_ok ?_
            simp [hwr]
            refine k4 _ ?_
            refine AW.seq fun _ k4 => AW.region [] Θ_ok ?_
            simp [hwr, g1, d1]
            refine ⟨by omega, k4 _ ?_⟩
            refine AW.seq fun _ k4 => ?_
            by_cases hil : i < next[v].length
            · have inci := wrap_succ (show i < 9223372036854775807 by omega)
              obtain ⟨w, hw⟩ : ∃ w : Nat, next[v][i] = (w : Int) := ⟨next[v][i].toNat, by have := (ok.lt _ (List.getElem_mem hv) _ (List.getElem_mem hil)).1; omega⟩
              have hwn : w < next.length := by have := (ok.lt _ (List.getElem_mem hv) _ (List.getElem_mem hil)).2; omega
              have hwR : w < R.length := by omega
              have hwl := ok.row _ (List.getElem_mem hwn)
              have sA := has_r9 a w
              refine AW.seq fun _ k5 => AW.draw [] 10 [] Θ_ok mixed (by kernel_rfl) (by kernel_rfl) ?_
              simp [vcDraw, vcPre, vcTail, callA, isAlloc, isLoad, effOp, obl, obA, mkOK, valA, hwr, g2, d2, hv, hil]
              refine ⟨by omega, k5 _ ?_⟩
              refine AW.cond true (by simp [Int.natCast_inj]) (fun _ => ?_) (fun h => by cases h)
              refine AW.seq fun _ k5 => AW.draw [] 11 [] Θ_ok mixed (by kernel_rfl) (by kernel_rfl) ?_
              simp [vcDraw, vcPre, vcTail, callA, isAlloc, isLoad, effOp, obl, obA, mkOK, valA, hwr, g2, d2, hv, hil, hw]
              refine ⟨by omega, k5 _ ?_⟩
              have sG := kG_set K' v i
              have p2 := KH.p2 N (kG (K' ++ [(v, i)])) (kF (K' ++ [(v, i)])) (nI O) nn R C0 (kG (K' ++ [(v, i + 1)]))
              rw [kF_up K' v i (i + 1)] at p2 g2 g1 ⊢
              refine AW.seq fun _ k5 => AW.region [] Θ_ok ?_
              simp [hwr, g2, d2, inci, sG, obTd_mk, p2]
              refine ⟨by omega, k5 _ ?_⟩
              clear g1 g2 d1 d2 sG p2
              have gv : (next.getD v []).length = next[v].length := by simp [hv]
              have hK1 : ∀ p ∈ K' ++ [(v, i + 1)], p.1 < next.length ∧ p.2 ≤ (next.getD p.1 []).length := fun p hp => by
                rcases List.mem_append.1 hp with z | z
                · exact hK p (List.mem_append_left _ z)
                · simp at z; subst z; exact ⟨hv, by simp only; rw [gv]; omega⟩
              have gs := KH.as N (kG (K' ++ [(v, i + 1)])) (kF (K' ++ [(v, i + 1)])) (nI O) nn R C0
              have dk := mapk_drop R hwR
              refine AW.seq fun _ k5 => ?_
              cases ha' : hasN a w with
              | false =>
                rw [ha'] at sA
                refine AW.seq fun _ k6 => AW.regionAt 3 [] Θ_ok fun B hB => ?_
                simp
                refine sA.use (by simp) ?_
                refine hB _ ?_
                clear hB B
                simp
                refine k6 _ ?_
                refine AW.cond false (by simp [Int.natCast_inj]) (fun h => by cases h) (fun _ => ?_)
                refine AW.skip ?_
                simp
                refine k5 _ ?_
                refine AW.exit ?_
                simp
                refine ⟨⟨k2', k1', q, nn, R, O, K' ++ [(v, i + 1)]⟩, ⟨N, I.see ok hv hil hw fun z => (by rw [z.2] at ha'; cases ha'), hK1, hS⟩, ?_, GStep.eq (by simp) (subH.refl _)⟩
                simp only [leftK_snoc, gv]
                omega
              | true =>
                rw [ha'] at sA
                refine AW.seq fun _ k6 => AW.regionAt 3 [] Θ_ok fun B hB => ?_
                simp
                refine sA.use (by simp) ?_
                cases hb' : R[w] with
                | true =>
                  refine hB _ ?_
                  clear hB B
                  simp [gs, hwn, lR, dk, hb']
                  refine k6 _ ?_
                  refine AW.cond false (by simp [Int.natCast_inj]) (fun h => by cases h) (fun _ => ?_)
                  refine AW.skip ?_
                  simp
                  refine k5 _ ?_
                  refine AW.exit ?_
                  simp
                  refine ⟨⟨k2', k1', q, nn, R, O, K' ++ [(v, i + 1)]⟩, ⟨N, I.see ok hv hil hw fun z => (by simp [hasN, hwR, hb']), hK1, hS⟩, ?_, GStep.eq (by simp) (subH.refl _)⟩
                  simp only [leftK_snoc, gv]
                  omega
                | false =>
                  refine hB _ ?_
                  clear hB B
                  simp [gs, hwn, lR, dk, hb']
                  refine k6 _ ?_
                  refine AW.cond true (by simp [Int.natCast_inj]) (fun _ => ?_) (fun h => by cases h)
                  have hnR : hasN R w = false := by simp [hasN, hwR, hb']
                  have I1 := I.seePush ok hv hil hw ⟨hwn, ha'⟩ hnR
                  have lU := leftU_set next R w hwn hwR (by simp [hwR, hb'])
                  have ps := KH.ps N (kG (K' ++ [(v, i + 1)])) (kF (K' ++ [(v, i + 1)])) (nI O) nn R C0 (R.set w true)
                  have ms := mapk_set R w true
                  have hS' : ∀ u, u < x + 1 → hasN a u = true → hasN (R.set w true) u = true := fun u hu hz => by
                    rw [hasN_set R w u hwR]
                    split
                    · rfl
                    · exact hS u hu hz
                  obtain ⟨R', hR'⟩ : ∃ R', R' = R.set w true := ⟨_, rfl⟩
                  rw [← hR'] at ps ms I1 lU hS'
                  refine AW.seq fun _ k6 => AW.region [] Θ_ok ?_
                  simp [gs, hwn, lR, ms, obBk_mk, ps]
                  refine ⟨by omega, k6 _ ?_⟩
                  clear gs ps ms dk
                  have g1 := KH.a1 N (kG (K' ++ [(v, i + 1)])) (kF (K' ++ [(v, i + 1)])) (nI O) nn R' C0
                  obtain ⟨F, hF⟩ : ∃ F, F = kF (K' ++ [(v, i + 1)]) := ⟨_, rfl⟩
                  obtain ⟨G, hG⟩ : ∃ G, G = kG (K' ++ [(v, i + 1)]) := ⟨_, rfl⟩
                  rw [← hF, ← hG] at g1 ⊢
                  have lF : F.length = K'.length + 1 := by rw [hF]; simp
                  have lG : G.length = K'.length + 1 := by rw [hG]; simp
                  have kl : K'.length + 1 ≤ 12000 := by simp at few; omega
                  refine AW.region [] Θ_ok ?_
                  simp [g1, appendA, lF]
                  refine ⟨rfl, ⟨by omega, by omega⟩, fun o1 ho1 => ⟨rfl, ?_⟩⟩
                  obtain ⟨he, N1⟩ := KH.g1 N G F (nI O) nn R' C0 ho1 (F ++ [(w : Int)])
                  rw [obTd_snocK _ _ _ lF.symm, he, KH.a2 N1 G (F ++ [(w : Int)]) (nI O) nn R' C0]
                  refine ⟨⟨rfl, rfl, by simp [lG], by omega, by omega⟩, fun o2 ho2 => k5 _ ?_⟩
                  obtain ⟨he2, N2⟩ := KH.g2 N1 G (F ++ [(w : Int)]) (nI O) nn R' C0 ho2 (G ++ [0])
                  simp only [obTd_cells]
                  rw [obTd_snocK _ _ _ lG.symm, he2]
                  obtain ⟨K2, hK2⟩ : ∃ K2, K2 = K' ++ [(v, i + 1)] ++ [(w, 0)] := ⟨_, rfl⟩
                  have hF2 : F ++ [(w : Int)] = kF K2 := by rw [hF, hK2, ← kF_snoc]
                  have hG2 : G ++ [0] = kG K2 := by rw [hG, hK2]; exact (kG_snoc _ _ _).symm
                  have lK2 : K2.length = K'.length + 1 + 1 := by rw [hK2]; simp
                  rw [hF2, hG2]
                  rw [← hK2] at I1
                  refine AW.exit ?_
                  simp
                  refine ⟨⟨o2, o1, q, nn, R', O, K2⟩, ⟨N2, I1, fun p hp => ?_, hS'⟩, ?_, GStep.eq (by simp [lK2]) (subH.refl _)⟩
                  · rw [hK2] at hp
                    rcases List.mem_append.1 hp with z | z
                    · exact hK1 p z
                    · simp at z; subst z; exact ⟨hwn, Nat.zero_le _⟩
                  · rw [hK2]; simp only [leftK_snoc, gv]
                    have : (next.getD w []).length = next[w].length := by simp [hwn]
                    omega
            · have hie : i = next[v].length := by omega
              refine AW.seq fun _ k5 => AW.draw [] 10 [] Θ_ok mixed (by kernel_rfl) (by kernel_rfl) ?_
              simp [vcDraw, vcPre, vcTail, callA, isAlloc, isLoad, effOp, obl, obA, mkOK, valA, hwr, g2, d2, hv, hil]
              refine ⟨by omega, k5 _ ?_⟩
              refine AW.cond false (by simp [Int.natCast_inj]) (fun h => by cases h) (fun _ => ?_)
              refine AW.skip ?_
              simp
              refine k4 _ ?_
              have gq := KH.aq N (kG (K' ++ [(v, i)])) (kF (K' ++ [(v, i)])) (nI O) nn R C0
              have lO : O.length ≤ 12000 := by omega
              clear g1 g2 d1 d2
              refine AW.seq fun _ k4 => AW.region [] Θ_ok ?_
              simp [gq, appendA]
              refine ⟨rfl, ⟨by omega, by omega⟩, fun q' hq' => k4 _ ?_⟩
              obtain ⟨he, N'⟩ := KH.gq N (kG (K' ++ [(v, i)])) (kF (K' ++ [(v, i)])) (nI O) nn R C0 hq' (nI (O ++ [v]))
              rw [nI_snoc] at he
              rw [obTd_snocK _ _ _ (by simp), he, ← nI_snoc]
              clear he hq' gq
              have I1 := I.leave ok hv hie
              have g1 := KH.a1 N' (kG (K' ++ [(v, i)])) (kF (K' ++ [(v, i)])) (nI (O ++ [v])) true R C0
              have g2 := KH.a2 N' (kG (K' ++ [(v, i)])) (kF (K' ++ [(v, i)])) (nI (O ++ [v])) true R C0
              refine AW.draw [] 8 [] Θ_ok mixed (by kernel_rfl) (by kernel_rfl) ?_
              simp [vcDraw, vcPre, vcTail, callA, isAlloc, isLoad, effOp, obl, obA, mkOK, valA, hwr, g1, g2]
              refine ⟨by omega, ⟨k2', k1', q', true, R, O ++ [v], K'⟩, ⟨N', I1, fun p hp => hK p (List.mem_append_left _ hp), hS⟩, ?_, GStep.trans (KH.cut N' K' v i _ _ _ _ _ _) (GStep.eq (by simp) (subH.refl _))⟩
              simp only [leftK_snoc]
              rw [show (next.getD v []).length = next[v].length by simp [hv]]
              omega
    · obtain rfl : x = next.length := by omega
      refine AW.seq fun _ k2 => AW.cond false (by simp [Int.natCast_inj]) (fun h => by cases h) (fun _ => ?_)
      refine AW.exit ?_
      simp
      refine k1 _ ⟨q, nn, R, O, 0⟩ ⟨N, I, hS⟩ (GStep.eq (by simp) ?_)
      simp only
      rw [show HL h [(q, obTd (nI O) nn), (c, obTd C0 true)] = upd (HL h [(q, obTd (nI O) nn), (s, obBk R), (c, obTd C0 true)]) s none from (HL.del (h0 := h) (l := [(q, obTd (nI O) nn), (s, obBk R), (c, obTd C0 true)]) (k := 1) N rfl).symm]
      exact upd_none_sub _ _
  · rintro ⟨q, nn, R, O, _⟩ ⟨N, I, hS⟩
    simp only at N I hS ⊢
    have hO := I.ord
    have hOS : ∀ v, kS next a v → v ∈ O := fun v hv => by
      rcases (I.r v).1 (hS v hv.1 hv.2) with z | z
      · exact z
      · simp at z
    have hSO : ∀ v ∈ O, kS next a v := hO.2.1
    have lO : O.length ≤ 12000 := by have := I.few; simp at this; omega
    have Nqc : HN h [q, c] := HN.del (k := 1) N
    refine AW.freeze 12 false (o := q) (n := O.length) (x := obTd (nI O) nn) (by simp) (HL.at (k := 0) Nqc.nd rfl) (fun z => by cases z) rfl (by simp) (fun u hu => by obtain ⟨z, _, rfl⟩ := List.mem_map.1 hu; rfl) ?_
    simp only [obTd_cells]
    rw [HL.del (h0 := h) (l := [(q, obTd (nI O) nn), (c, obTd C0 true)]) (k := 0) Nqc rfl]
    have Nc : HN h [c] := HN.del (k := 0) Nqc
    simp only [List.eraseIdx_cons_zero]
    clear Nqc N hS I R nn
    refine AW.seq fun _ k1 => AW.region [158] Θ_ok ?_
    simp [newA]
    have e1 : List.flatMap AV.flat (List.replicate next.length (AV.bool false)) = (List.replicate next.length false).map AV.bool := by
      rw [flat_ones (fun u hu => by rw [(List.mem_replicate.1 hu).2]; rfl)]; simp
    rw [e1, obBk_mk]
    refine ⟨by omega, fun d hd => k1 _ ?_⟩
    clear e1
    have Nd : HN h [d, c] := HL.new (l := [(c, obTd C0 true)]) Nc hd
    have P0 := P3.init (E := kE next) (S := kS next a) (n := next.length) (O := O) (D := List.replicate next.length false) (C := C0) rfl hC0
    have wO : IntKind.i64.wrap ((O.length : Int) - 1) = (O.length : Int) - 1 := wrap_id (by omega) (by omega)
    obtain ⟨OI, hOI⟩ : ∃ OI, OI = nI O := ⟨_, rfl⟩
    have lOI : OI.length = O.length := by rw [hOI]; simp
    rw [← hOI]
    refine AW.seqEx (X := List Int) (fun C => CirOk (kE next) (kS next a) next.length C) (fun C => ⟨247, [(5, .mu c next.length)], HL h [(c, obTd C true)]⟩) (fun _ k1 => ?_) ?_
    · refine AW.seq fun _ k2 => AW.region [] Θ_ok ?_
      simp [wO, lOI]
      refine k2 _ ?_
      refine AW.block ?_
      refine AW.loopI (X := K3) (fun t => P3 (kE next) (kS next a) next.length O t.x t.D t.C ∧ t.x ≤ O.length)
        (fun t => ⟨247, [(0, .ro false (rows next)), (1, .ro false (bools a)), (5, .mu c next.length), (6, .ro true (rows BK)), (12, .ro false (ints OI)), (19, .mu d next.length), (20, .int .i64 ((t.x : Int) - 1))], HL h [(d, obBk t.D), (c, obTd t.C true)]⟩)
        (fun t => t.x) ⟨List.replicate next.length false, C0, O.length⟩ ⟨P0, Nat.le_refl _⟩ (GStep.eq (by simp) (subH.refl _)) ?_
      clear P0 wO hd
      rintro ⟨D, C, x⟩ ⟨P, hx⟩
      simp only at P hx ⊢
      refine AW.seq fun _ k2 => ?_
      refine AW.seq fun _ k3 => AW.region [] Θ_ok ?_
      simp
      refine k3 _ ?_
      cases x with
      | zero =>
        refine AW.cond false (by simp [Int.natCast_inj]) (fun h => by cases h) (fun _ => ?_)
        refine AW.exit ?_
        simp
        refine k1 _ C (P.done hOS) (GStep.eq (by simp) ?_)
        simp only
        exact HL.tl (l := [(c, obTd C true)]) (A := obBk D) Nd
      | succ i =>
        obtain ⟨v, hv⟩ : ∃ v, O[i]? = some v := ⟨O[i], List.getElem?_eq_getElem (by omega)⟩
        have hvm : v ∈ O := List.mem_of_getElem? hv
        have hSv := hSO v hvm
        have hvn : v < next.length := hSv.1
        have hOIi : OI[i]? = some (v : Int) := by rw [hOI]; exact nI_get hv
        have hiO : i < O.length := by omega
        have e1 : ((i + 1 : Nat) : Int) - 1 = (i : Int) := by omega
        have hvD : v < D.length := by rw [P.dlen]; exact hvn
        have gd : HL h [(d, obBk D), (c, obTd C true)] d = some (obBk D) := HL.at (k := 0) Nd.nd rfl
        have dk := mapk_drop D hvD
        have lD := P.dlen
        have e2 : IntKind.i64.wrap ((i : Int) - 1) = (i : Int) - 1 := wrap_id (by omega) (by omega)
        have e3 : (1 : Int) ≤ (i : Int) + 1 := by omega
        have hiO' : i < OI.length := by omega
        have hOIg : OI[i] = (v : Int) := by rw [List.getElem?_eq_getElem hiO'] at hOIi; exact Option.some.inj hOIi
        rw [e1]
        refine AW.cond true (by simp [Int.natCast_inj, e3]) (fun _ => ?_) (fun h => by cases h)
        refine AW.skip ?_
        simp
        refine k2 _ ?_
        refine AW.seq fun _ k2 => ?_
        refine AW.block ?_
        refine AW.seq fun _ k3 => AW.region [] Θ_ok ?_
        simp [hOIg, lOI, hiO]
        refine k3 _ ?_
        refine AW.seq fun _ k3 => ?_
        cases hb : D[v] with
        | true =>
          refine AW.seq fun _ k4 => AW.region [] Θ_ok ?_
          simp [gd, lD, hvn, dk, hb]
          refine k4 _ ?_
          refine AW.cond true (by simp [Int.natCast_inj]) (fun _ => ?_) (fun h => by cases h)
          refine AW.exit ?_
          simp
          refine k2 _ ?_
          refine AW.region [] Θ_ok ?_
          simp [e2]
          exact ⟨⟨D, C, i⟩, ⟨P.old hv (by simp [hasN, hvD, hb]), by simp only; omega⟩, by simp only; omega, GStep.eq (by simp) (subH.refl _)⟩
        | false =>
          refine AW.seq fun _ k4 => AW.region [] Θ_ok ?_
          simp [gd, lD, hvn, dk, hb]
          refine k4 _ ?_
          refine AW.cond false (by simp [Int.natCast_inj]) (fun h => by cases h) (fun _ => ?_)
          refine AW.skip ?_
          simp
          refine k3 _ ?_
          have hnD : hasN D v = false := by simp [hasN, hvD, hb]
          have comp := P.comp hO hOS hv hnD
          have ms := mapk_set D v true
          have pd : upd (HL h [(d, obBk D), (c, obTd C true)]) d (some (obBk (D.set v true))) = HL h [(d, obBk (D.set v true)), (c, obTd C true)] := HL.put (k := 0) Nd.nd rfl
          have B0 := Bf.init (next := next) (a := a) P.dlen hSv hnD
          obtain ⟨D', hD'⟩ : ∃ D', D' = D.set v true := ⟨_, rfl⟩
          rw [← hD'] at ms pd B0
          refine AW.seq fun _ k3 => AW.region [] Θ_ok ?_
          simp [gd, lD, hvn, ms, obBk_mk, pd]
          refine ⟨by omega, k3 _ ?_⟩
          clear gd dk ms pd hD' 
          refine AW.seq fun _ k3 => AW.region [178] Θ_ok ?_
          simp [newA]
          refine fun l hl' => k3 _ ?_
          have Nl : HN h [l, d, c] := HL.new (l := [(d, obBk D'), (c, obTd C true)]) Nd hl'
          rw [show upd (HL h [(d, obBk D'), (c, obTd C true)]) l (some ⟨[.int .i64 (v : Int)], 3, 1, true⟩) = K3H h l d c (nI [v]) D' C from rfl]
          clear hl'
          refine AW.seqEx (X := KL) (fun t => HN h [t.l, d, c] ∧ Bf next a D v t.D t.L ∧ ∀ x ∈ t.L, ∀ u, kE next u x → kS next a u → hasN t.D u = true)
            (fun t => ⟨247, [(0, .ro false (rows next)), (1, .ro false (bools a)), (5, .mu c next.length), (6, .ro true (rows BK)), (12, .ro false (ints OI)), (19, .mu d next.length), (20, .int .i64 (i : Int)), (21, .int .i64 (v : Int)), (22, .mu t.l t.L.length)], K3H h t.l d c (nI t.L) t.D C⟩) (fun _ k4 => ?_) ?_
          · refine AW.seq fun _ k5 => AW.region [] Θ_ok ?_
            simp
            refine k5 _ ?_
            refine AW.block ?_
            refine AW.loopI (X := KL) (KLok next a D v h d c)
              (fun t => ⟨247, [(0, .ro false (rows next)), (1, .ro false (bools a)), (5, .mu c next.length), (6, .ro true (rows BK)), (12, .ro false (ints OI)), (19, .mu d next.length), (20, .int .i64 (i : Int)), (21, .int .i64 (v : Int)), (22, .mu t.l t.L.length), (23, .int .i64 (t.k : Int))], K3H h t.l d c (nI t.L) t.D C⟩)
              (fun t => next.length - t.k) ⟨l, D', [v], 0⟩ ⟨Nl, B0, Nat.zero_le _, fun x hx => by simp at hx⟩ (GStep.eq (by simp) (subH.refl _)) ?_
            clear Nl B0 D' l
            rintro ⟨l, D', L, k⟩ ⟨N, B, hk, hcl⟩
            simp only at N B hk hcl ⊢
            have fewL := B.few
            refine AW.seq fun _ k3 => ?_
            refine AW.seq fun _ k5 => AW.region [] Θ_ok ?_
            simp
            refine k5 _ ?_
            by_cases hkl : k < L.length
            · have hkl' : (k : Int) < L.length := by omega
              refine AW.cond true (by simp [Int.natCast_inj, hkl]) (fun _ => ?_) (fun h => by cases h)
              refine AW.skip ?_
              simp
              refine k3 _ ?_
              obtain ⟨xk, hxk⟩ : ∃ x, L[k]? = some x := ⟨L[k], List.getElem?_eq_getElem hkl⟩
              have hxL : xk ∈ L := List.mem_of_getElem? hxk
              have hxn : xk < next.length := (B.s xk hxL).1
              obtain ⟨rt, hrt⟩ := nI_at hxk
              have al := K3H.al N (nI L) D' C
              have inck := wrap_succ (show k < 9223372036854775807 by omega)
              have hBKx : xk < BK.length := by rw [hBK]; simpa using hxn
              have hBKg : BK[xk] = bkL next xk := by simp [hBK]
              have hbl := bkL_len ok xk
              refine AW.seq fun _ k3 => ?_
              refine AW.block ?_
              refine AW.seq fun _ k5 => AW.region [] Θ_ok ?_
              simp [al, hkl, hrt, hBKx, hBKg, hxn]
              refine k5 _ ?_
              refine AW.block ?_
              refine AW.loopI (X := KL) (KLy next a D v h d c k xk)
                (fun t => ⟨247, [(0, .ro false (rows next)), (1, .ro false (bools a)), (5, .mu c next.length), (6, .ro true (rows BK)), (12, .ro false (ints OI)), (19, .mu d next.length), (20, .int .i64 (i : Int)), (21, .int .i64 (v : Int)), (22, .mu t.l t.L.length), (23, .int .i64 (k : Int)), (191, .ro false (ints (bkL next xk))), (192, .int .i64 ((bkL next xk).length : Int)), (193, .int .i64 (t.k : Int))], K3H h t.l d c (nI t.L) t.D C⟩)
                (fun t => (bkL next xk).length - t.k) ⟨l, D', L, 0⟩ ⟨N, B, hkl, hxk, hcl, Nat.zero_le _, fun u hu => by simp at hu⟩ (GStep.eq (by simp) (subH.refl _)) ?_
              clear al hrt rt N B hcl hk hkl hkl' hxk hxL fewL D' l L
              rintro ⟨l, D', L, y⟩ ⟨N, Bq, hkl, hxk, hcl, hy, hcy⟩
              simp only at N Bq hkl hxk hcl hy hcy ⊢
              have fewL := Bq.few
              have lD' := Bq.len
              have hxL : xk ∈ L := List.mem_of_getElem? hxk
              refine AW.seq fun _ k5 => AW.region [] Θ_ok ?_
              simp
              refine k5 _ ?_
              by_cases hly : y < (bkL next xk).length
              · have incy := wrap_succ (show y < 9223372036854775807 by omega)
                obtain ⟨w, hw, hwe⟩ := bkL_mem.1 (List.getElem_mem hly)
                have hwn : w < next.length := hwe.1
                have hwD : w < D'.length := by omega
                have sA := has_r9 a w
                have ad := K3H.ad N (nI L) D' C
                have dk := mapk_drop D' hwD
                have htk : ∀ z : Nat, (z : Int) ∈ (bkL next xk).take (y + 1) → (z : Int) ∈ (bkL next xk).take y ∨ z = w := by
                  intro z hz
                  rw [List.take_succ_eq_append_getElem hly, hw] at hz
                  rcases List.mem_append.1 hz with h1 | h1
                  · exact .inl h1
                  · simp at h1; exact .inr (by omega)
                refine AW.seq fun _ k5 => AW.cond true (by simp [Int.natCast_inj, hly]) (fun _ => ?_) (fun h => by cases h)
                refine AW.skip ?_
                simp
                refine k5 _ ?_
                refine AW.seq fun _ k5 => ?_
                refine AW.block ?_
                refine AW.seq fun _ k6 => AW.region [] Θ_ok ?_
                simp [hly, hw]
                refine k6 _ ?_
                cases ha : hasN a w with
                | false =>
                  rw [ha] at sA
                  refine AW.seq fun _ k6 => AW.regionAt 3 [] Θ_ok fun B hB => ?_
                  simp
                  refine sA.use (by simp) ?_
                  refine hB _ ?_
                  clear hB B
                  simp
                  refine k6 _ ?_
                  refine AW.cond false (by simp [Int.natCast_inj]) (fun h => by cases h) (fun _ => ?_)
                  refine AW.skip ?_
                  simp
                  refine k5 _ ?_
                  refine AW.region [] Θ_ok ?_
                  simp
                  refine ⟨⟨l, D', L, y + 1⟩, ⟨N, Bq, hkl, hxk, hcl, hly, fun z hz hs => ?_⟩, by simp only; omega, GStep.eq (by simp [incy]) (subH.refl _)⟩
                  rcases htk z hz with q | q
                  · exact hcy z q hs
                  · subst q; have := hs.2; rw [ha] at this; cases this
                | true =>
                  rw [ha] at sA
                  refine AW.seq fun _ k6 => AW.regionAt 3 [] Θ_ok fun B hB => ?_
                  simp
                  refine sA.use (by simp) ?_
                  cases hb' : D'[w] with
                  | true =>
                    refine hB _ ?_
                    clear hB
                    simp [ad, hwn, lD', dk, hb']
                    refine k6 _ ?_
                    refine AW.cond false (by simp [Int.natCast_inj]) (fun h => by cases h) (fun _ => ?_)
                    refine AW.skip ?_
                    simp
                    refine k5 _ ?_
                    refine AW.region [] Θ_ok ?_
                    simp
                    refine ⟨⟨l, D', L, y + 1⟩, ⟨N, Bq, hkl, hxk, hcl, hly, fun z hz hs => ?_⟩, by simp only; omega, GStep.eq (by simp [incy]) (subH.refl _)⟩
                    rcases htk z hz with q | q
                    · exact hcy z q hs
                    · subst q; simp [hasN, hwD, hb']
                  | false =>
                    refine hB _ ?_
                    clear hB
                    simp [ad, hwn, lD', dk, hb']
                    refine k6 _ ?_
                    refine AW.cond true (by simp [Int.natCast_inj]) (fun _ => ?_) (fun h => by cases h)
                    have hnw : hasN D' w = false := by simp [hasN, hwD, hb']
                    have B2 := Bq.add hxL hwe ⟨hwn, ha⟩ hnw
                    have grow : ∀ u, hasN D' u = true → hasN (D'.set w true) u = true := fun u hu => by
                      rw [hasN_set D' w u hwD]; split
                      · rfl
                      · exact hu
                    have self : hasN (D'.set w true) w = true := by rw [hasN_set D' w w hwD, if_pos rfl]
                    have ms := mapk_set D' w true
                    have pd := K3H.pd N (nI L) D' C (D'.set w true)
                    have al := K3H.al N (nI L) (D'.set w true) C
                    obtain ⟨D2, hD2⟩ : ∃ D2, D2 = D'.set w true := ⟨_, rfl⟩
                    rw [← hD2] at B2 grow self ms pd al
                    refine AW.seq fun _ k6 => AW.region [] Θ_ok ?_
                    simp [ad, hwn, lD', ms, obBk_mk, pd]
                    refine ⟨by omega, k6 _ ?_⟩
                    refine AW.region [] Θ_ok ?_
                    simp [al, appendA]
                    refine ⟨rfl, ⟨by omega, by omega⟩, fun l2 hl2 => k5 _ ?_⟩
                    obtain ⟨he, N2⟩ := K3H.gl N (nI L) D2 C hl2 (nI (L ++ [w]))
                    rw [nI_snoc] at he
                    rw [obTd_snocK _ _ _ (by simp), he, ← nI_snoc]
                    refine AW.region [] Θ_ok ?_
                    simp
                    have tk : (L ++ [w]).take k = L.take k := List.take_append_of_le_length (by omega)
                    refine ⟨⟨l2, D2, L ++ [w], y + 1⟩, ⟨N2, B2, by simp; omega, by rw [List.getElem?_append_left hkl]; exact hxk, fun x hx u he hs => ?_, hly, fun z hz hs => ?_⟩, by simp only; omega, GStep.eq (by simp [incy]) (subH.refl _)⟩
                    · simp only at hx ⊢
                      rw [tk] at hx
                      exact grow u (hcl x hx u he hs)
                    · simp only at hz ⊢
                      rcases htk z hz with q | q
                      · exact grow z (hcy z q hs)
                      · subst q; exact self
              · obtain rfl : y = (bkL next xk).length := by omega
                refine AW.seq fun _ k5 => AW.cond false (by simp) (fun h => by cases h) (fun _ => ?_)
                refine AW.exit ?_
                simp
                refine k3 _ ?_
                refine AW.region [] Θ_ok ?_
                simp
                refine ⟨⟨l, D', L, k + 1⟩, ⟨N, Bq, by simp only; omega, fun x hx u he hs => ?_⟩, by simp only; omega, GStep.eq (by simp [inck]) (subH.refl _)⟩
                simp only at hx ⊢
                rw [List.take_add_one, hxk] at hx
                rcases List.mem_append.1 hx with q | q
                · exact hcl x q u he hs
                · simp at q; subst q
                  exact hcy u (by rw [List.take_length]; exact bkL_mem.2 ⟨u, rfl, he⟩) hs
            · have hke : k = L.length := by omega
              subst hke
              refine AW.cond false (by simp [Int.natCast_inj]) (fun h => by cases h) (fun _ => ?_)
              refine AW.exit ?_
              simp
              refine k4 _ ⟨l, D', L, 0⟩ ⟨N, B, fun x hx => hcl x (by rw [List.take_length]; exact hx)⟩ (GStep.eq (by simp) (subH.refl _))
          · rintro ⟨l, D', L, _⟩ ⟨N, Bq, hcl⟩
            simp only at N Bq hcl ⊢
            have hL : ∀ u, u ∈ L ↔ Same (kE next) (kS next a) u v := fun u => (Bq.done hcl u).trans (comp u)
            have hloop := Bq.loop hL
            have fewL := Bq.few
            have hd' : ∀ u, hasN D' u = true ↔ hasN D u = true ∨ Same (kE next) (kS next a) u v := fun u => (Bq.d u).trans (or_congr Iff.rfl (hL u))
            have lC := P.clen
            have hrv := ok.row _ (List.getElem_mem hvn)
            have hgv : next.getD v [] = next[v] := by simp [hvn]
            refine AW.freeze 22 true (o := l) (n := L.length) (x := obTd (nI L) true) (by simp) (K3H.al N _ _ _) (fun _ => rfl) rfl (by simp) (fun u hu => by obtain ⟨z, _, rfl⟩ := List.mem_map.1 hu; rfl) ?_
            simp only [obTd_cells]
            rw [K3H.dl N]
            obtain ⟨LI, hLI⟩ : ∃ LI, LI = nI L := ⟨_, rfl⟩
            have lLI : LI.length = L.length := by rw [hLI]; simp
            rw [← hLI]
            have lz := lpB_zero L.length next[v] v
            refine AW.seq fun _ k3 => AW.region [] Θ_ok ?_
            simp [lLI, ← lz]
            refine k3 _ ?_
            refine AW.seqTo ⟨247, [(0, .ro false (rows next)), (1, .ro false (bools a)), (5, .mu c next.length), (6, .ro true (rows BK)), (12, .ro false (ints OI)), (19, .mu d next.length), (20, .int .i64 (i : Int)), (21, .int .i64 (v : Int)), (22, .ro true (ints LI)), (26, .bool (lpB L.length next[v] v next[v].length))], HL h [(d, obBk D'), (c, obTd C true)]⟩ (fun _ k4 => ?_) ?_
            · refine AW.seq fun _ k5 => AW.region [] Θ_ok ?_
              simp [hvn]
              refine k5 _ ?_
              refine AW.block ?_
              refine AW.loopI (X := Nat) (fun y => y ≤ next[v].length)
                (fun y => ⟨247, [(0, .ro false (rows next)), (1, .ro false (bools a)), (5, .mu c next.length), (6, .ro true (rows BK)), (12, .ro false (ints OI)), (19, .mu d next.length), (20, .int .i64 (i : Int)), (21, .int .i64 (v : Int)), (22, .ro true (ints LI)), (26, .bool (lpB L.length next[v] v y)), (221, .ro false (ints next[v])), (222, .int .i64 next[v].length), (223, .int .i64 (y : Int))], HL h [(d, obBk D'), (c, obTd C true)]⟩)
                (fun y => next[v].length - y) 0 (Nat.zero_le _) (GStep.eq (by simp) (subH.refl _)) fun y hy => ?_
              refine AW.seq fun _ k5 => AW.region [] Θ_ok ?_
              simp
              refine k5 _ ?_
              by_cases hly : y < next[v].length
              · have incy := wrap_succ (show y < 9223372036854775807 by omega)
                have st := lpB_step L.length next[v] v hly
                refine AW.seq fun _ k5 => AW.cond true (by simp [Int.natCast_inj, hly]) (fun _ => ?_) (fun h => by cases h)
                refine AW.skip ?_
                simp
                refine k5 _ ?_
                refine AW.seq fun _ k5 => ?_
                refine AW.block ?_
                refine AW.seq fun _ k6 => AW.region [] Θ_ok ?_
                simp [hly]
                refine k6 _ ?_
                cases hlp : lpB L.length next[v] v y with
                | true =>
                  rw [hlp, Bool.true_or] at st
                  refine AW.region [] Θ_ok ?_
                  simp
                  refine k5 _ ?_
                  refine AW.region [] Θ_ok ?_
                  simp
                  exact ⟨y + 1, hly, by omega, GStep.eq (by simp [incy, st]) (subH.refl _)⟩
                | false =>
                  rw [hlp, Bool.false_or] at st
                  refine AW.region [] Θ_ok ?_
                  simp
                  refine k5 _ ?_
                  refine AW.region [] Θ_ok ?_
                  simp
                  exact ⟨y + 1, hly, by omega, GStep.eq (by simp [incy, st]) (subH.refl _)⟩
              · obtain rfl : y = next[v].length := by omega
                refine AW.seq fun _ k5 => AW.cond false (by simp) (fun h => by cases h) (fun _ => ?_)
                refine AW.exit ?_
                simp
                exact k4 _ (GStep.eq (by simp) (subH.refl _))
            have hlw : lpB L.length next[v] v next[v].length = true ↔ Way (kE next) (kS next a) v v := by
              rw [lpB_all, hloop]
              refine or_congr Iff.rfl ⟨fun q => ⟨hvn, by rw [hgv]; exact q⟩, fun q => by have := q.2; rwa [hgv] at this⟩
            clear lz
            refine AW.seq fun _ k3 => AW.region [] Θ_ok ?_
            simp
            refine k3 _ ?_
            cases hlp : lpB L.length next[v] v next[v].length with
            | false =>
              have nw : ¬ Way (kE next) (kS next a) v v := fun q => by have := hlw.2 q; rw [hlp] at this; cases this
              refine AW.cond false (by simp [Int.natCast_inj]) (fun h => by cases h) (fun _ => ?_)
              refine AW.skip ?_
              simp
              refine k2 _ ?_
              refine AW.region [] Θ_ok ?_
              simp [e2]
              exact ⟨⟨D', C, i⟩, ⟨P.new hv hSv hnD Bq.len lC hd' (fun u _ _ q => absurd q nw) (fun u _ _ => rfl) (fun u hu => hu.1), by simp only; omega⟩, by simp only; omega, GStep.eq (by simp) (subH.refl _)⟩
            | true =>
              have yw := hlw.1 hlp
              refine AW.cond true (by simp [Int.natCast_inj]) (fun _ => ?_) (fun h => by cases h)
              refine AW.seq fun _ k3 => AW.region [] Θ_ok ?_
              simp [lLI]
              refine k3 _ ?_
              refine AW.block ?_
              refine AW.loopI (X := K3) (CWok L C v next.length)
                (fun t => ⟨247, [(0, .ro false (rows next)), (1, .ro false (bools a)), (5, .mu c next.length), (6, .ro true (rows BK)), (12, .ro false (ints OI)), (19, .mu d next.length), (20, .int .i64 (i : Int)), (21, .int .i64 (v : Int)), (235, .ro true (ints LI)), (236, .int .i64 (L.length : Int)), (237, .int .i64 (t.x : Int))], HL h [(d, obBk D'), (c, obTd t.C true)]⟩)
                (fun t => L.length - t.x) ⟨[], C, 0⟩ ⟨lC, Nat.zero_le _, fun u hu => by simp⟩ (GStep.eq (by simp) (subH.refl _)) ?_
              rintro ⟨J, C', y⟩ ⟨lC', hy, hg⟩
              simp only at lC' hy hg ⊢
              refine AW.seq fun _ k3 => AW.region [] Θ_ok ?_
              simp
              refine k3 _ ?_
              by_cases hly : y < L.length
              · have incy := wrap_succ (show y < 9223372036854775807 by omega)
                obtain ⟨u, hu⟩ : ∃ u, L[y]? = some u := ⟨L[y], List.getElem?_eq_getElem hly⟩
                have huL : u ∈ L := List.mem_of_getElem? hu
                have hun : u < next.length := (Bq.s u huL).1
                have hyL : y < LI.length := by omega
                have hLg : LI[y] = (u : Int) := by
                  have := nI_get hu
                  rw [← hLI, List.getElem?_eq_getElem hyL] at this
                  exact Option.some.inj this
                have gc : HL h [(d, obBk D'), (c, obTd C' true)] c = some (obTd C' true) := HL.at (k := 1) Nd.nd rfl
                have os := mapi_set C' u (v : Int)
                have pc : upd (HL h [(d, obBk D'), (c, obTd C' true)]) c (some (obTd (C'.set u (v : Int)) true)) = HL h [(d, obBk D'), (c, obTd (C'.set u (v : Int)) true)] := HL.put (k := 1) Nd.nd rfl
                have lC2 : (C'.set u (v : Int)).length = next.length := by rw [List.length_set]; exact lC'
                have hg2 : ∀ z, z < next.length → (C'.set u (v : Int))[z]? = if z ∈ L.take (y + 1) then some (v : Int) else C[z]? := fun z hz => by
                  rw [List.take_add_one, hu]
                  simp only [Option.toList_some, List.mem_append, List.mem_singleton]
                  by_cases e : z = u
                  · subst e
                    rw [if_pos (.inr rfl), List.getElem?_set_self (by omega)]
                  · rw [List.getElem?_set_ne (Ne.symm e), hg z hz]
                    simp [e]
                obtain ⟨C2, hC2⟩ : ∃ C2, C2 = C'.set u (v : Int) := ⟨_, rfl⟩
                rw [← hC2] at os pc lC2 hg2
                refine AW.seq fun _ k3 => AW.cond true (by simp [Int.natCast_inj, hly]) (fun _ => ?_) (fun h => by cases h)
                refine AW.skip ?_
                simp
                refine k3 _ ?_
                refine AW.seq fun _ k3 => ?_
                refine AW.block ?_
                refine AW.seq fun _ k4 => AW.region [] Θ_ok ?_
                simp [hyL, hLg]
                refine k4 _ ?_
                refine AW.region [] Θ_ok ?_
                simp [gc, lC', hun, os, obTd_mk, pc]
                refine ⟨by omega, k3 _ ?_⟩
                refine AW.region [] Θ_ok ?_
                simp
                exact ⟨⟨[], C2, y + 1⟩, ⟨lC2, hly, hg2⟩, by simp only; omega, GStep.eq (by simp [incy]) (subH.refl _)⟩
              · obtain rfl : y = L.length := by omega
                refine AW.seq fun _ k3 => AW.cond false (by simp) (fun h => by cases h) (fun _ => ?_)
                refine AW.exit ?_
                simp
                refine k2 _ ?_
                refine AW.region [] Θ_ok ?_
                simp [e2]
                rw [List.take_length] at hg
                exact ⟨⟨D', C', i⟩, ⟨P.new hv hSv hnD Bq.len lC' hd' (fun u hu q _ => by rw [hg u hu, if_pos ((hL u).2 q)]) (fun u hu q => by rw [hg u hu, if_neg fun z => q ⟨(hL u).1 z, yw⟩]) (fun u hu => hu.1), by simp only; omega⟩, by simp only; omega, GStep.eq (by simp) (subH.refl _)⟩
    · rintro C hC
      refine AW.seq fun _ kr => AW.region [] Θ_ok ?_
      simp
      refine kr _ (AW.ret ?_)
      simp [Try.f82]
      refine Fin.freeze (k := true) (x := obTd C true) (HL.at (k := 0) Nc.nd rfl) (fun _ => rfl) rfl (by simp [hC.len]) (fun u hu => by obtain ⟨z, _, rfl⟩ := List.mem_map.1 hu; rfl) h ?_ ⟨C, rfl, hC, rfl⟩
      rw [HL.del (h0 := h) (l := [(c, obTd C true)]) (k := 0) Nc rfl]
      exact subH.refl _
end Go.Par

set_option linter.unusedSimpArgs false
set_option linter.unusedVariables false
set_option maxRecDepth 8000
set_option maxHeartbeats 4000000
namespace Go.Par
open Go.Proofs

def fullL (next : List (List Int)) : List Bool := tab next.length fun _ => true
def wiL (next : List (List Int)) (r : List Bool) : List Bool := tab next.length fun v => !hasN r v

theorem r9_full (next : List (List Int)) (ok : BigOk next) : Pure Try.prog 61 [.ro false (rows next)] (.ro true (bools (fullL next))) := by
  have hl := ok.len
  intro h
  refine AC.body Θ_ok Try.func61 rfl rfl (Nat.le_of_ble_eq_true rfl) ?_
  refine AW.seq fun _ k1 => AW.region [] Θ_ok ?_
  simp
  refine k1 _ ?_
  refine AW.seq fun _ k1 => AW.region [7] Θ_ok ?_
  simp
  refine ⟨by omega, fun o ho => k1 _ ?_⟩
  rw [replicate_tab, flat_tab (fun _ _ => rfl)]
  refine AW.seq fun _ k1 => ?_
  refine AW.seq fun _ k2 => AW.region [] Θ_ok ?_
  simp
  refine k2 _ ?_
  refine AW.block ?_
  refine AW.loopI (X := Nat) (fun x => x ≤ next.length) (fun x => ⟨18, [(3, .mu o next.length), (9, .int .i64 next.length), (10, .int .i64 x)], upd h o (some ⟨tab next.length fun i => .bool (decide (i < x)), 4, 1, true⟩)⟩) (fun x => next.length - x) 0 (Nat.zero_le _) (GStep.eq (by simp) ?_) fun x hx => ?_
  · simp; exact subH.refl _
  refine AW.seq fun _ k2 => AW.region [] Θ_ok ?_
  simp
  refine k2 _ ?_
  by_cases hlt : x < next.length
  · have inc := wrap_succ (show x < 9223372036854775807 by omega)
    have hset : (tab next.length fun i => AV.bool (decide (i < x))).set x (.bool true) = tab next.length fun i => .bool (decide (i < x + 1)) := by
      rw [set_tab]
      refine tab_congr fun i hi => ?_
      by_cases e : i = x
      · subst e; simp
      · by_cases h1 : i < x
        · simp [e, h1, show i < x + 1 by omega]
        · simp [e, h1, show ¬ i < x + 1 by omega]
    refine AW.seq fun _ k2 => AW.cond true (by simp [Int.natCast_inj, hlt]) (fun _ => ?_) (fun h => by cases h)
    refine AW.skip ?_
    simp
    refine k2 _ ?_
    refine AW.seq fun _ k2 => ?_
    refine AW.block ?_
    refine AW.seq fun _ k3 => AW.region [] Θ_ok ?_
    simp
    refine k3 _ ?_
    refine AW.region [] Θ_ok ?_
    simp [hlt]
    refine ⟨by omega, k2 _ ?_⟩
    refine AW.region [] Θ_ok ?_
    simp
    exact ⟨x + 1, by omega, by omega, GStep.eq (by simp [inc]) (subH_of_eq (congrArg (fun c => upd h o (some ⟨c, 4, 1, true⟩)) hset))⟩
  obtain rfl : x = next.length := by omega
  refine AW.seq fun _ k2 => AW.cond false (by simp [Int.natCast_inj]) (fun h => by cases h) (fun _ => ?_)
  refine AW.exit ?_
  simp
  refine k1 _ ?_
  refine AW.seq fun _ kr => AW.region [] Θ_ok ?_
  simp
  refine kr _ (AW.ret ?_)
  simp [Try.f61]
  refine Fin.freeze (k := true) (upd_same _ _ _) (fun _ => rfl) rfl (by simp) (ones_bools _ _) h (by simp [upd_none_id ho]; exact subH.refl _) ⟨?_, rfl⟩
  simp only [bools, fullL, map_tab]
  congr 1
  exact tab_congr fun i hi => by simp [hi]

theorem r9_without (next : List (List Int)) (ok : BigOk next) (r : List Bool) : Pure Try.prog 53 [.ro false (rows next), .ro false (bools r)] (.ro true (bools (wiL next r))) := by
  have hl := ok.len
  intro h
  refine AC.body Θ_ok Try.func53 rfl rfl (Nat.le_of_ble_eq_true rfl) ?_
  refine AW.seq fun _ k1 => AW.region [] Θ_ok ?_
  simp
  refine k1 _ ?_
  refine AW.seq fun _ k1 => AW.region [9] Θ_ok ?_
  simp
  refine ⟨by omega, fun o ho => k1 _ ?_⟩
  rw [replicate_tab, flat_tab (fun _ _ => rfl)]
  refine AW.seq fun _ k1 => ?_
  refine AW.seq fun _ k2 => AW.region [] Θ_ok ?_
  simp
  refine k2 _ ?_
  refine AW.block ?_
  refine AW.loopI (X := Nat) (fun x => x ≤ next.length) (fun x => ⟨24, [(1, .ro false (bools r)), (5, .mu o next.length), (11, .int .i64 next.length), (12, .int .i64 x)], upd h o (some ⟨tab next.length fun i => .bool (decide (i < x) && !hasN r i), 4, 1, true⟩)⟩) (fun x => next.length - x) 0 (Nat.zero_le _) (GStep.eq (by simp) ?_) fun x hx => ?_
  · simp; exact subH.refl _
  refine AW.seq fun _ k2 => AW.region [] Θ_ok ?_
  simp
  refine k2 _ ?_
  by_cases hlt : x < next.length
  · have inc := wrap_succ (show x < 9223372036854775807 by omega)
    have sA := has_r9 r x
    have hset : (tab next.length fun i => AV.bool (decide (i < x) && !hasN r i)).set x (.bool (!hasN r x)) = tab next.length fun i => .bool (decide (i < x + 1) && !hasN r i) := by
      rw [set_tab]
      refine tab_congr fun i hi => ?_
      by_cases e : i = x
      · subst e; simp
      · by_cases h1 : i < x
        · simp [e, h1, show i < x + 1 by omega]
        · simp [e, h1, show ¬ i < x + 1 by omega]
    generalize hasN r x = b at sA hset
    refine AW.seq fun _ k2 => AW.cond true (by simp [Int.natCast_inj, hlt]) (fun _ => ?_) (fun h => by cases h)
    refine AW.skip ?_
    simp
    refine k2 _ ?_
    refine AW.seq fun _ k2 => ?_
    refine AW.block ?_
    refine AW.seq fun _ k3 => AW.region [] Θ_ok ?_
    simp
    refine k3 _ ?_
    refine AW.regionAt 5 [] Θ_ok fun B hB => ?_
    simp
    refine sA.use (by simp) ?_
    refine hB _ ?_
    clear hB B
    simp [hlt]
    refine ⟨by omega, k2 _ ?_⟩
    refine AW.region [] Θ_ok ?_
    simp
    exact ⟨x + 1, by omega, by omega, GStep.eq (by simp [inc]) (subH_of_eq (congrArg (fun c => upd h o (some ⟨c, 4, 1, true⟩)) hset))⟩
  obtain rfl : x = next.length := by omega
  refine AW.seq fun _ k2 => AW.cond false (by simp [Int.natCast_inj]) (fun h => by cases h) (fun _ => ?_)
  refine AW.exit ?_
  simp
  refine k1 _ ?_
  refine AW.seq fun _ kr => AW.region [] Θ_ok ?_
  simp
  refine kr _ (AW.ret ?_)
  simp [Try.f53]
  refine Fin.freeze (k := true) (upd_same _ _ _) (fun _ => rfl) rfl (by simp) (ones_bools _ _) h (by simp [upd_none_id ho]; exact subH.refl _) ⟨?_, rfl⟩
  simp only [bools, wiL, map_tab]
  congr 1
  exact tab_congr fun i hi => by simp [hi]

theorem r9_mayNext (next : List (List Int)) (ok : BigOk next) : Pure Try.prog 51 [.ro false (rows next)] (.bool true) := by
  have hl := ok.len
  have c1 : ¬ (12000 : Int) < next.length := by omega
  have c2 : (next.length : Int) ≤ 12000 := by omega
  intro h
  refine AC.body Θ_ok Try.func51 rfl rfl (Nat.le_of_ble_eq_true rfl) ?_
  refine AW.seq fun _ k1 => AW.region [] Θ_ok ?_
  simp
  refine k1 _ ?_
  refine AW.seq fun _ k2 => ?_
  refine AW.seq fun _ k3 => AW.region [] Θ_ok ?_
  simp [c1, c2]
  refine k3 _ ?_
  refine AW.cond false (by simp [Int.natCast_inj]) (fun h => by cases h) (fun _ => ?_)
  refine AW.skip ?_
  simp
  refine k2 _ ?_
  refine AW.seq fun _ k4 => ?_
  refine AW.seq fun _ k5 => AW.region [] Θ_ok ?_
  simp
  refine k5 _ ?_
  refine AW.block ?_
  refine AW.loopI (X := Nat) (fun x => x ≤ next.length) (fun x => ⟨32, [(0, .ro false (rows next)), (10, .ro false (rows next)), (11, .int .i64 next.length), (12, .int .i64 x)], h⟩) (fun x => next.length - x) 0 (Nat.zero_le _) (GStep.eq (by simp) (subH.refl _)) fun x hx => ?_
  refine AW.seq fun _ k6 => AW.region [] Θ_ok ?_
  simp
  refine k6 _ ?_
  by_cases hlt : x < next.length
  · have inc := wrap_succ (show x < 9223372036854775807 by omega)
    have hr := ok.row _ (List.getElem_mem hlt)
    refine AW.seq fun _ k7 => AW.cond true (by simp [Int.natCast_inj, hlt]) (fun _ => ?_) (fun h => by cases h)
    refine AW.skip ?_
    simp
    refine k7 _ ?_
    refine AW.seq fun _ k8 => ?_
    refine AW.block ?_
    refine AW.seq fun _ k9 => AW.region [] Θ_ok ?_
    simp [hlt]
    refine k9 _ ?_
    refine AW.seq fun _ k10 => AW.region [] Θ_ok ?_
    simp
    refine k10 _ ?_
    refine AW.block ?_
    refine AW.loopI (X := Nat) (fun y => y ≤ next[x].length) (fun y => ⟨32, [(0, .ro false (rows next)), (10, .ro false (rows next)), (11, .int .i64 next.length), (12, .int .i64 x), (16, .ro false (ints next[x])), (17, .int .i64 next[x].length), (18, .int .i64 y)], h⟩) (fun y => next[x].length - y) 0 (Nat.zero_le _) (GStep.eq (by simp) (subH.refl _)) fun y hy => ?_
    refine AW.seq fun _ k11 => AW.region [] Θ_ok ?_
    simp
    refine k11 _ ?_
    by_cases hly : y < next[x].length
    · have incy := wrap_succ (show y < 9223372036854775807 by omega)
      obtain ⟨b0, b1⟩ := ok.lt _ (List.getElem_mem hlt) _ (List.getElem_mem hly)
      refine AW.seq fun _ k12 => AW.cond true (by simp [Int.natCast_inj, hly]) (fun _ => ?_) (fun h => by cases h)
      refine AW.skip ?_
      simp
      refine k12 _ ?_
      refine AW.seq fun _ k13 => ?_
      refine AW.block ?_
      refine AW.seq fun _ k14 => AW.region [] Θ_ok ?_
      simp [hly]
      refine k14 _ ?_
      refine AW.seq fun _ k15 => AW.region [] Θ_ok ?_
      simp [Int.not_lt.2 b0, b0, Int.not_le.2 b1, b1]
      refine k15 _ ?_
      refine AW.cond false (by simp [Int.natCast_inj]) (fun h => by cases h) (fun _ => ?_)
      refine AW.skip ?_
      simp
      refine k13 _ ?_
      refine AW.region [] Θ_ok ?_
      simp
      exact ⟨y + 1, by omega, by omega, GStep.eq (by simp [incy]) (subH.refl _)⟩
    · obtain rfl : y = next[x].length := by omega
      refine AW.seq fun _ k12 => AW.cond false (by simp [Int.natCast_inj]) (fun h => by cases h) (fun _ => ?_)
      refine AW.exit ?_
      simp
      refine k8 _ ?_
      refine AW.region [] Θ_ok ?_
      simp
      exact ⟨x + 1, by omega, by omega, GStep.eq (by simp [inc]) (subH.refl _)⟩
  · obtain rfl : x = next.length := by omega
    refine AW.seq fun _ k7 => AW.cond false (by simp [Int.natCast_inj]) (fun h => by cases h) (fun _ => ?_)
    refine AW.exit ?_
    simp
    refine k4 _ ?_
    refine AW.seq fun _ kr => AW.region [] Θ_ok ?_
    simp
    refine kr _ (AW.ret ?_)
    simp [Try.f51]
    exact Fin.refl ⟨rfl, rfl⟩
end Go.Par

set_option linter.unusedSimpArgs false
set_option linter.unusedVariables false
set_option maxRecDepth 8000
set_option maxHeartbeats 4000000
namespace Go.Par
open Go.Proofs

/-- Is there a circle within, that meets each row? -/
def MeetsP (next : List (List Int)) (from_ in_ : List Bool) (rs : List (List Bool)) : Prop :=
  ∃ v, Way (kE next) (kS next (r9andL (reachL (nG next) from_) in_)) v v ∧ ∀ r ∈ rs, ∃ w, hasN r w = true ∧ Same (kE next) (kS next (r9andL (reachL (nG next) from_) in_)) w v
open Classical in
noncomputable def meetsB (next : List (List Int)) (from_ in_ : List Bool) (rs : List (List Bool)) : Bool := decide (MeetsP next from_ in_ rs)

def anyW (C : List Int) (r : List Bool) (v y : Nat) : Bool := (List.range y).any fun w => C.getD w 0 == (v : Int) && hasN r w
def okR (C : List Int) (rs : List (List Bool)) (v n y : Nat) : Bool := (rs.take y).all fun r => anyW C r v n
theorem anyW_zero (C : List Int) (r : List Bool) (v : Nat) : anyW C r v 0 = false := rfl
theorem anyW_step (C : List Int) (r : List Bool) (v y : Nat) : anyW C r v (y + 1) = (anyW C r v y || (C.getD y 0 == (v : Int) && hasN r y)) := by simp [anyW, List.range_succ]
theorem anyW_iff (C : List Int) (r : List Bool) (v n : Nat) : anyW C r v n = true ↔ ∃ w, w < n ∧ C.getD w 0 = (v : Int) ∧ hasN r w = true := by simp [anyW]
theorem okR_zero (C : List Int) (rs : List (List Bool)) (v n : Nat) : okR C rs v n 0 = true := rfl
theorem okR_step (C : List Int) (rs : List (List Bool)) (v n : Nat) {y : Nat} (hy : y < rs.length) : okR C rs v n (y + 1) = (okR C rs v n y && anyW C rs[y] v n) := by
  simp only [okR]
  rw [List.take_succ_eq_append_getElem hy, List.all_append]; simp
theorem okR_iff (C : List Int) (rs : List (List Bool)) (v n : Nat) : okR C rs v n rs.length = true ↔ ∀ r ∈ rs, ∃ w, w < n ∧ C.getD w 0 = (v : Int) ∧ hasN r w = true := by
  simp only [okR, List.take_length, List.all_eq_true, anyW_iff]
theorem meets_iff {E : Nat → Nat → Prop} {S : Nat → Prop} {n : Nat} {C : List Int} (hC : CirOk E S n C) (hn : ∀ u, S u → u < n) (rs : List (List Bool)) :
    (∃ v, Way E S v v ∧ ∀ r ∈ rs, ∃ w, hasN r w = true ∧ Same E S w v) ↔ ∃ v, v < n ∧ C.getD v 0 = (v : Int) ∧ okR C rs v n rs.length = true := by
  have gd : ∀ {w : Nat} {z : Int}, C[w]? = some z → C.getD w 0 = z := fun h => by rw [List.getD_eq_getElem?_getD, h]; rfl
  have low : ∀ {w v : Nat}, w < n → C.getD w 0 = (v : Int) → Way E S w w ∧ Same E S w v := fun {w v} hw h => by
    by_cases q : Way E S w w
    · obtain ⟨r, h1, h2, h3, _⟩ := hC.yes w q
      rw [gd h1] at h
      have : r = v := by omega
      subst this; exact ⟨q, h3⟩
    · have := hC.no w hw q
      rw [gd this] at h; omega
  constructor
  · rintro ⟨v, hv, hr⟩
    obtain ⟨r, h1, h2, h3, h4⟩ := hC.yes v hv
    refine ⟨r, hn r h2, gd (h4 r h3), (okR_iff _ _ _ _).2 fun row hrow => ?_⟩
    obtain ⟨w, g1, g2⟩ := hr row hrow
    have hw : C[w]? = some (r : Int) := h4 w g2.symm
    have hlt : w < n := by
      have := (List.getElem?_eq_some_iff.1 hw).1
      rw [hC.len] at this; exact this
    exact ⟨w, hlt, gd hw, g1⟩
  · rintro ⟨v, hv, hc, hr⟩
    refine ⟨v, (low hv hc).1, fun row hrow => ?_⟩
    obtain ⟨w, g0, g1, g2⟩ := (okR_iff _ _ _ _).1 hr row hrow
    exact ⟨w, g2, (low g0 g1).2⟩

def noG (C : List Int) (rs : List (List Bool)) (n x : Nat) : Prop := ∀ v, v < x → ¬ (C.getD v 0 = (v : Int) ∧ okR C rs v n rs.length = true)

theorem r9_meets (next : List (List Int)) (ok : BigOk next) (from_ in_ : List Bool) (rs : List (List Bool)) (hrs : rs.length ≤ 17592186044416) : Pure Try.prog 52 [.ro false (rows next), .ro false (bools from_), .ro false (bools in_), .ro false (bools2 rs)] (.bool (meetsB next from_ in_ rs)) := by
  have hl := ok.len
  have sR := r9_reach next ok.ok from_
  have lRe : (reachL (nG next) from_).length = next.length := by simp [reachL]
  have sN := r9_and (reachL (nG next) from_) in_ (by omega)
  have sC := r9_circles next ok (r9andL (reachL (nG next) from_) in_)
  have lS : ∀ u, kS next (r9andL (reachL (nG next) from_) in_) u → u < next.length := fun u hu => hu.1
  obtain ⟨S, hS⟩ : ∃ S, S = kS next (r9andL (reachL (nG next) from_) in_) := ⟨_, rfl⟩
  have hM : MeetsP next from_ in_ rs ↔ ∃ v, Way (kE next) S v v ∧ ∀ r ∈ rs, ∃ w, hasN r w = true ∧ Same (kE next) S w v := by rw [hS]; rfl
  rw [← hS] at sC lS
  clear hS
  generalize r9andL (reachL (nG next) from_) in_ = AN at *
  generalize reachL (nG next) from_ = RE at *
  obtain ⟨all, hall⟩ : ∃ all, all = tab next.length fun _ => true := ⟨_, rfl⟩
  rw [← hall] at sR
  intro h
  refine AC.body Θ_ok Try.func52 rfl rfl (Nat.le_of_ble_eq_true rfl) ?_
  refine AW.seq fun _ k1 => AW.region [] Θ_ok ?_
  simp
  refine k1 _ ?_
  refine AW.seq fun _ k1 => AW.region [23] Θ_ok ?_
  simp
  refine ⟨by omega, fun o ho => k1 _ ?_⟩
  rw [replicate_tab, flat_tab (fun _ _ => rfl)]
  refine AW.seqTo ⟨84, [(0, .ro false (rows next)), (1, .ro false (bools from_)), (2, .ro false (bools in_)), (3, .ro false (bools2 rs)), (9, .ro true (bools all))], h⟩ (fun _ k1 => ?_) ?_
  · refine AW.seq fun _ k2 => AW.region [] Θ_ok ?_
    simp
    refine k2 _ ?_
    refine AW.block ?_
    refine AW.loopI (X := Nat) (fun x => x ≤ next.length) (fun x => ⟨84, [(0, .ro false (rows next)), (1, .ro false (bools from_)), (2, .ro false (bools in_)), (3, .ro false (bools2 rs)), (9, .mu o next.length), (25, .int .i64 next.length), (26, .int .i64 x)], upd h o (some ⟨tab next.length fun i => .bool (decide (i < x)), 4, 1, true⟩)⟩) (fun x => next.length - x) 0 (Nat.zero_le _) (GStep.eq (by simp) ?_) fun x hx => ?_
    · simp; exact subH.refl _
    refine AW.seq fun _ k2 => AW.region [] Θ_ok ?_
    simp
    refine k2 _ ?_
    by_cases hlt : x < next.length
    · have inc := wrap_succ (show x < 9223372036854775807 by omega)
      have hset : (tab next.length fun i => AV.bool (decide (i < x))).set x (.bool true) = tab next.length fun i => .bool (decide (i < x + 1)) := by
        rw [set_tab]
        refine tab_congr fun i hi => ?_
        by_cases e : i = x
        · subst e; simp
        · by_cases h1 : i < x
          · simp [e, h1, show i < x + 1 by omega]
          · simp [e, h1, show ¬ i < x + 1 by omega]
      refine AW.seq fun _ k2 => AW.cond true (by simp [Int.natCast_inj, hlt]) (fun _ => ?_) (fun h => by cases h)
      refine AW.skip ?_
      simp
      refine k2 _ ?_
      refine AW.seq fun _ k2 => ?_
      refine AW.block ?_
      refine AW.seq fun _ k3 => AW.region [] Θ_ok ?_
      simp
      refine k3 _ ?_
      refine AW.region [] Θ_ok ?_
      simp [hlt]
      refine ⟨by omega, k2 _ ?_⟩
      refine AW.region [] Θ_ok ?_
      simp
      exact ⟨x + 1, by omega, by omega, GStep.eq (by simp [inc]) (subH_of_eq (congrArg (fun c => upd h o (some ⟨c, 4, 1, true⟩)) hset))⟩
    obtain rfl : x = next.length := by omega
    refine AW.seq fun _ k2 => AW.cond false (by simp [Int.natCast_inj]) (fun h => by cases h) (fun _ => ?_)
    refine AW.exit ?_
    simp
    have ea : (tab next.length fun i => AV.bool (decide (i < next.length))) = bools all := by
      rw [hall]; simp only [bools, map_tab]; exact tab_congr fun i hi => by simp [hi]
    rw [ea]
    refine k1 _ (GStep.trans (GStep.freeze (t := 9) (n := next.length) (k := true) (by simp) (upd_same _ _ _) (fun _ => rfl) rfl (by simp [hall]) (fun u hu => by obtain ⟨z, _, rfl⟩ := List.mem_map.1 hu; rfl)) (GStep.eq (by simp) ?_))
    simp only
    rw [upd_upd, upd_none_id ho]; exact subH.refl _
  clear hall ho o
  refine AW.seq fun _ k1 => AW.region [] Θ_ok ?_
  simp
  refine sR.use (by simp) ?_
  refine k1 _ ?_
  refine AW.seq fun _ k1 => AW.regionAt 4 [] Θ_ok fun B hB => ?_
  simp
  refine sN.use (by simp) ?_
  refine hB _ ?_
  clear hB
  simp
  refine ((sC h).wk (by simp)).mono fun r h' hq => ?_
  obtain ⟨C, rfl, hC, rfl⟩ := hq
  refine k1 _ ?_
  have lC := hC.len
  have hiff := hM.trans (meets_iff hC lS rs)
  refine AW.seq fun _ k1 => ?_
  refine AW.seq fun _ k2 => AW.region [] Θ_ok ?_
  simp [lC]
  refine k2 _ ?_
  refine AW.block ?_
  refine AW.loopI (X := Nat) (fun x => x ≤ next.length ∧ noG C rs next.length x) (fun x => ⟨84, [(3, .ro false (bools2 rs)), (12, .ro true (ints C)), (42, .ro true (ints C)), (43, .int .i64 next.length), (44, .int .i64 x)], h'⟩) (fun x => next.length - x) 0 ⟨Nat.zero_le _, fun v hv => absurd hv (Nat.not_lt_zero _)⟩ (GStep.eq (by simp) (subH.refl _)) fun x hx => ?_
  obtain ⟨hx, hno⟩ := hx
  refine AW.seq fun _ k2 => AW.region [] Θ_ok ?_
  simp
  refine k2 _ ?_
  by_cases hlt : x < next.length
  · have inc := wrap_succ (show x < 9223372036854775807 by omega)
    have hxC : x < C.length := by omega
    have hgx : C.getD x 0 = C[x] := by simp [hxC]
    have adv : ¬ (C.getD x 0 = (x : Int) ∧ okR C rs x next.length rs.length = true) → noG C rs next.length (x + 1) := fun q v hv => by
      by_cases e : v = x
      · subst e; exact q
      · exact hno v (by omega)
    refine AW.seq fun _ k2 => AW.cond true (by simp [Int.natCast_inj, hlt]) (fun _ => ?_) (fun h => by cases h)
    refine AW.skip ?_
    simp
    refine k2 _ ?_
    refine AW.seq fun _ k2 => ?_
    refine AW.block ?_
    refine AW.seq fun _ k3 => AW.region [] Θ_ok ?_
    simp [hxC]
    refine k3 _ ?_
    refine AW.seq fun _ k3 => ?_
    by_cases hc : C[x] = (x : Int)
    · refine AW.seq fun _ k4 => AW.region [] Θ_ok ?_
      simp [hc]
      refine k4 _ ?_
      refine AW.cond false (by simp [Int.natCast_inj]) (fun h => by cases h) (fun _ => ?_)
      refine AW.skip ?_
      simp
      refine k3 _ ?_
      refine AW.seq fun _ k3 => AW.region [] Θ_ok ?_
      simp
      refine k3 _ ?_
      refine AW.seqTo ⟨84, [(3, .ro false (bools2 rs)), (12, .ro true (ints C)), (13, .int .i64 x), (15, .bool (okR C rs x next.length rs.length)), (42, .ro true (ints C)), (43, .int .i64 next.length), (44, .int .i64 x)], h'⟩ (fun _ k4 => ?_) ?_
      · refine AW.seq fun _ k5 => AW.region [] Θ_ok ?_
        simp
        refine k5 _ ?_
        refine AW.block ?_
        refine AW.loopI (X := Nat) (fun y => y ≤ rs.length) (fun y => ⟨84, [(3, .ro false (bools2 rs)), (12, .ro true (ints C)), (13, .int .i64 x), (15, .bool (okR C rs x next.length y)), (42, .ro true (ints C)), (43, .int .i64 next.length), (44, .int .i64 x), (52, .ro false (bools2 rs)), (53, .int .i64 rs.length), (54, .int .i64 y)], h'⟩) (fun y => rs.length - y) 0 (Nat.zero_le _) (GStep.eq (by simp [okR_zero]) (subH.refl _)) fun y hy => ?_
        refine AW.seq fun _ k5 => AW.region [] Θ_ok ?_
        simp
        refine k5 _ ?_
        by_cases hly : y < rs.length
        · have incy := wrap_succ (show y < 9223372036854775807 by omega)
          have st := okR_step C rs x next.length hly
          generalize okR C rs x next.length y = oky at st ⊢
          refine AW.seq fun _ k5 => AW.cond true (by simp [Int.natCast_inj, hly]) (fun _ => ?_) (fun h => by cases h)
          refine AW.skip ?_
          simp
          refine k5 _ ?_
          refine AW.seq fun _ k5 => ?_
          refine AW.block ?_
          refine AW.seq fun _ k6 => AW.region [] Θ_ok ?_
          simp [hly]
          refine k6 _ ?_
          refine AW.seq fun _ k6 => AW.region [] Θ_ok ?_
          simp
          refine k6 _ ?_
          generalize rs[y] = rw_ at st ⊢
          refine AW.seqTo ⟨84, [(3, .ro false (bools2 rs)), (12, .ro true (ints C)), (13, .int .i64 x), (15, .bool oky), (18, .bool (anyW C rw_ x next.length)), (42, .ro true (ints C)), (43, .int .i64 next.length), (44, .int .i64 x), (52, .ro false (bools2 rs)), (53, .int .i64 rs.length), (54, .int .i64 y)], h'⟩ (fun _ k7 => ?_) ?_
          · refine AW.seq fun _ k8 => AW.region [] Θ_ok ?_
            simp [lC]
            refine k8 _ ?_
            refine AW.block ?_
            refine AW.loopI (X := Nat) (fun z => z ≤ next.length) (fun z => ⟨84, [(3, .ro false (bools2 rs)), (12, .ro true (ints C)), (13, .int .i64 x), (15, .bool oky), (17, .ro false (bools rw_)), (18, .bool (anyW C rw_ x z)), (42, .ro true (ints C)), (43, .int .i64 next.length), (44, .int .i64 x), (52, .ro false (bools2 rs)), (53, .int .i64 rs.length), (54, .int .i64 y), (58, .ro true (ints C)), (59, .int .i64 next.length), (60, .int .i64 z)], h'⟩) (fun z => next.length - z) 0 (Nat.zero_le _) (GStep.eq (by simp [anyW_zero]) (subH.refl _)) fun z hz => ?_
            refine AW.seq fun _ k8 => AW.region [] Θ_ok ?_
            simp
            refine k8 _ ?_
            by_cases hlz : z < next.length
            · have incz := wrap_succ (show z < 9223372036854775807 by omega)
              have hzC : z < C.length := by omega
              have sH := has_r9 rw_ z
              have sz := anyW_step C rw_ x z
              have hgz : C.getD z 0 = C[z] := by simp [hzC]
              rw [hgz] at sz
              generalize hasN rw_ z = hz' at sH sz
              generalize anyW C rw_ x z = az at sz ⊢
              refine AW.seq fun _ k8 => AW.cond true (by simp [Int.natCast_inj, hlz]) (fun _ => ?_) (fun h => by cases h)
              refine AW.skip ?_
              simp
              refine k8 _ ?_
              refine AW.seq fun _ k8 => ?_
              refine AW.block ?_
              refine AW.seq fun _ k9 => AW.region [] Θ_ok ?_
              simp [hzC]
              refine k9 _ ?_
              cases az with
              | true =>
                rw [Bool.true_or] at sz
                refine AW.region [] Θ_ok ?_
                simp
                refine k8 _ ?_
                refine AW.region [] Θ_ok ?_
                simp
                exact ⟨z + 1, hlz, by omega, GStep.eq (by simp [incz, sz]) (subH.refl _)⟩
              | false =>
                rw [Bool.false_or] at sz
                by_cases hcz : C[z] = (x : Int)
                · have e : (C[z] == (x : Int)) = true := by simpa using hcz
                  rw [e, Bool.true_and] at sz
                  refine AW.regionAt 9 [] Θ_ok fun B hB => ?_
                  simp [hcz]
                  refine sH.use (by simp) ?_
                  refine hB _ ?_
                  clear hB
                  simp
                  refine k8 _ ?_
                  refine AW.region [] Θ_ok ?_
                  simp
                  exact ⟨z + 1, hlz, by omega, GStep.eq (by simp [incz, sz]) (subH.refl _)⟩
                · have e : (C[z] == (x : Int)) = false := by simpa using hcz
                  rw [e, Bool.false_and] at sz
                  refine AW.region [] Θ_ok ?_
                  simp [hcz]
                  refine k8 _ ?_
                  refine AW.region [] Θ_ok ?_
                  simp
                  exact ⟨z + 1, hlz, by omega, GStep.eq (by simp [incz, sz]) (subH.refl _)⟩
            · obtain rfl : z = next.length := by omega
              refine AW.seq fun _ k8 => AW.cond false (by simp [Int.natCast_inj]) (fun h => by cases h) (fun _ => ?_)
              refine AW.exit ?_
              simp
              exact k7 _ (GStep.eq (by simp) (subH.refl _))
          · cases oky with
            | true =>
              rw [Bool.true_and] at st
              refine AW.region [] Θ_ok ?_
              simp
              refine k5 _ ?_
              refine AW.region [] Θ_ok ?_
              simp
              exact ⟨y + 1, hly, by omega, GStep.eq (by simp [incy, st]) (subH.refl _)⟩
            | false =>
              rw [Bool.false_and] at st
              refine AW.region [] Θ_ok ?_
              simp
              refine k5 _ ?_
              refine AW.region [] Θ_ok ?_
              simp
              exact ⟨y + 1, hly, by omega, GStep.eq (by simp [incy, st]) (subH.refl _)⟩
        · obtain rfl : y = rs.length := by omega
          refine AW.seq fun _ k5 => AW.cond false (by simp [Int.natCast_inj]) (fun h => by cases h) (fun _ => ?_)
          refine AW.exit ?_
          simp
          exact k4 _ (GStep.eq (by simp) (subH.refl _))
      refine AW.seq fun _ k3 => AW.region [] Θ_ok ?_
      simp
      refine k3 _ ?_
      cases hok : okR C rs x next.length rs.length with
      | true =>
        refine AW.cond true (by simp [Int.natCast_inj]) (fun _ => ?_) (fun h => by cases h)
        refine AW.seq fun _ kr => AW.region [] Θ_ok ?_
        simp
        refine kr _ (AW.ret ?_)
        simp [Try.f52]
        refine Fin.refl ⟨?_, rfl⟩
        have : MeetsP next from_ in_ rs := hiff.2 ⟨x, hlt, by rw [hgx]; exact hc, hok⟩
        simp [meetsB, this]
      | false =>
        refine AW.cond false (by simp [Int.natCast_inj]) (fun h => by cases h) (fun _ => ?_)
        refine AW.skip ?_
        simp
        refine k2 _ ?_
        refine AW.region [] Θ_ok ?_
        simp
        exact ⟨x + 1, ⟨hlt, adv fun q => by rw [hok] at q; cases q.2⟩, by omega, GStep.eq (by simp [inc]) (subH.refl _)⟩
    · refine AW.seq fun _ k4 => AW.region [] Θ_ok ?_
      simp [hc]
      refine k4 _ ?_
      refine AW.cond true (by simp [Int.natCast_inj, hc]) (fun _ => ?_) (fun h => by cases h)
      refine AW.exit ?_
      simp
      refine k2 _ ?_
      refine AW.region [] Θ_ok ?_
      simp
      exact ⟨x + 1, ⟨hlt, adv fun q => hc (by rw [← hgx]; exact q.1)⟩, by omega, GStep.eq (by simp [inc]) (subH.refl _)⟩
  · obtain rfl : x = next.length := by omega
    refine AW.seq fun _ k2 => AW.cond false (by simp [Int.natCast_inj]) (fun h => by cases h) (fun _ => ?_)
    refine AW.exit ?_
    simp
    refine k1 _ ?_
    refine AW.seq fun _ kr => AW.region [] Θ_ok ?_
    simp
    refine kr _ (AW.ret ?_)
    simp [Try.f52]
    refine Fin.refl ⟨?_, rfl⟩
    have : ¬ MeetsP next from_ in_ rs := fun q => by
      obtain ⟨v, h1, h2, h3⟩ := hiff.1 q
      exact hno v h1 ⟨h2, h3⟩
    simp [meetsB, this]
end Go.Par

set_option linter.unusedSimpArgs false
set_option linter.unusedVariables false
set_option maxRecDepth 8000
set_option maxHeartbeats 4000000
namespace Go.Par
open Go.Proofs

noncomputable def metA (next : List (List Int)) (from_ : List Bool) (A E : List (List Bool)) (y : Nat) : Bool := (E.take y).any fun r => meetsB next from_ (wiL next r) A
theorem metA_zero (next : List (List Int)) (from_ : List Bool) (A E : List (List Bool)) : metA next from_ A E 0 = false := rfl
theorem metA_step (next : List (List Int)) (from_ : List Bool) (A E : List (List Bool)) {y : Nat} (hy : y < E.length) : metA next from_ A E (y + 1) = (metA next from_ A E y || meetsB next from_ (wiL next E[y]) A) := by
  simp only [metA]; rw [List.take_succ_eq_append_getElem hy, List.any_append]; simp
theorem metA_mono {next : List (List Int)} {from_ : List Bool} {A E : List (List Bool)} {y : Nat} (hy : y < E.length) (h : meetsB next from_ (wiL next E[y]) A = true) : metA next from_ A E E.length = true := by
  simp only [metA, List.take_length, List.any_eq_true]
  exact ⟨_, List.getElem_mem hy, h⟩
noncomputable def fairB (next : List (List Int)) (from_ : List Bool) (A E : List (List Bool)) : Bool := !metA next from_ A E E.length
noncomputable def unfairB (next : List (List Int)) (from_ : List Bool) (A E : List (List Bool)) : Bool := !meetsB next from_ (fullL next) E && !metA next from_ [] A A.length

theorem r9_Fair (next : List (List Int)) (ok : BigOk next) (from_ : List Bool) (A E : List (List Bool)) (hA : A.length ≤ 17592186044416) (hE : E.length ≤ 17592186044416) : Pure Try.prog 19 [.ro false (rows next), .ro false (bools from_), .ro false (bools2 A), .ro false (bools2 E)] (.bool (fairB next from_ A E)) := by
  have sM := r9_mayNext next ok
  intro h
  refine AC.body Θ_ok Try.func19 rfl rfl (Nat.le_of_ble_eq_true rfl) ?_
  refine AW.seq fun _ k1 => AW.region [] Θ_ok ?_
  simp
  refine k1 _ ?_
  refine AW.seq fun _ k1 => ?_
  refine AW.seq fun _ k2 => AW.region [] Θ_ok ?_
  simp
  refine sM.use (by simp) ?_
  refine k2 _ ?_
  refine AW.cond false (by simp [Int.natCast_inj]) (fun h => by cases h) (fun _ => ?_)
  refine AW.skip ?_
  simp
  refine k1 _ ?_
  refine AW.seq fun _ k1 => ?_
  refine AW.seq fun _ k2 => AW.region [] Θ_ok ?_
  simp
  refine k2 _ ?_
  refine AW.block ?_
  refine AW.loopI (X := Nat) (fun x => x ≤ E.length ∧ metA next from_ A E x = false) (fun x => ⟨28, [(0, .ro false (rows next)), (1, .ro false (bools from_)), (2, .ro false (bools2 A)), (14, .ro false (bools2 E)), (15, .int .i64 E.length), (16, .int .i64 x)], h⟩) (fun x => E.length - x) 0 ⟨Nat.zero_le _, metA_zero _ _ _ _⟩ (GStep.eq (by simp) (subH.refl _)) fun x hx => ?_
  obtain ⟨hx, hno⟩ := hx
  refine AW.seq fun _ k2 => AW.region [] Θ_ok ?_
  simp
  refine k2 _ ?_
  by_cases hlt : x < E.length
  · have inc := wrap_succ (show x < 9223372036854775807 by omega)
    have st := metA_step next from_ A E hlt
    have sW := r9_without next ok E[x]
    have sT := r9_meets next ok from_ (wiL next E[x]) A hA
    have mono := metA_mono (next := next) (from_ := from_) (A := A) hlt
    rw [hno, Bool.false_or] at st
    generalize meetsB next from_ (wiL next E[x]) A = b at st sT mono
    generalize wiL next E[x] = WL at sW sT
    refine AW.seq fun _ k2 => AW.cond true (by simp [Int.natCast_inj, hlt]) (fun _ => ?_) (fun h => by cases h)
    refine AW.skip ?_
    simp
    refine k2 _ ?_
    refine AW.seq fun _ k2 => ?_
    refine AW.block ?_
    refine AW.seq fun _ k3 => AW.region [] Θ_ok ?_
    simp [hlt]
    refine k3 _ ?_
    refine AW.seq fun _ k3 => AW.regionAt 5 [] Θ_ok fun B hB => ?_
    simp
    refine sW.use (by simp) ?_
    refine hB _ ?_
    clear hB B
    refine vcOps_split 2 fun B hB => ?_
    simp
    refine sT.use (by simp) ?_
    refine hB _ ?_
    clear hB B
    simp
    refine k3 _ ?_
    cases b with
    | true =>
      refine AW.cond true (by simp [Int.natCast_inj]) (fun _ => ?_) (fun h => by cases h)
      refine AW.seq fun _ kr => AW.region [] Θ_ok ?_
      simp
      refine kr _ (AW.ret ?_)
      simp [Try.f19]
      exact Fin.refl ⟨by simp [fairB, mono rfl], rfl⟩
    | false =>
      refine AW.cond false (by simp [Int.natCast_inj]) (fun h => by cases h) (fun _ => ?_)
      refine AW.skip ?_
      simp
      refine k2 _ ?_
      refine AW.region [] Θ_ok ?_
      simp
      exact ⟨x + 1, ⟨hlt, st⟩, by omega, GStep.eq (by simp [inc]) (subH.refl _)⟩
  · obtain rfl : x = E.length := by omega
    refine AW.seq fun _ k2 => AW.cond false (by simp [Int.natCast_inj]) (fun h => by cases h) (fun _ => ?_)
    refine AW.exit ?_
    simp
    refine k1 _ ?_
    refine AW.seq fun _ kr => AW.region [] Θ_ok ?_
    simp
    refine kr _ (AW.ret ?_)
    simp [Try.f19]
    exact Fin.refl ⟨by simp [fairB, hno], rfl⟩

theorem r9_Unfair (next : List (List Int)) (ok : BigOk next) (from_ : List Bool) (A E : List (List Bool)) (hA : A.length ≤ 17592186044416) (hE : E.length ≤ 17592186044416) : Pure Try.prog 32 [.ro false (rows next), .ro false (bools from_), .ro false (bools2 A), .ro false (bools2 E)] (.bool (unfairB next from_ A E)) := by
  have sM := r9_mayNext next ok
  have sF := r9_full next ok
  have sE := r9_meets next ok from_ (fullL next) E hE
  obtain ⟨FL, hFL⟩ : ∃ FL, FL = fullL next := ⟨_, rfl⟩
  rw [← hFL] at sF sE
  intro h
  refine AC.body Θ_ok Try.func32 rfl rfl (Nat.le_of_ble_eq_true rfl) ?_
  refine AW.seq fun _ k1 => AW.region [] Θ_ok ?_
  simp
  refine k1 _ ?_
  refine AW.seq fun _ k1 => ?_
  refine AW.seq fun _ k2 => AW.regionAt 2 [] Θ_ok fun B hB => ?_
  simp
  refine sM.use (by simp) ?_
  refine hB _ ?_
  clear hB B
  refine vcOps_split 6 fun B hB => ?_
  simp
  refine sF.use (by simp) ?_
  refine hB _ ?_
  clear hB B
  refine vcOps_split 2 fun B hB => ?_
  simp
  refine sE.use (by simp) ?_
  refine hB _ ?_
  clear hB B
  simp
  refine k2 _ ?_
  cases hb0 : meetsB next from_ FL E with
  | true =>
    refine AW.cond true (by simp [Int.natCast_inj, hb0]) (fun _ => ?_) (fun h => by cases h)
    refine AW.seq fun _ kr => AW.region [] Θ_ok ?_
    simp
    refine kr _ (AW.ret ?_)
    simp [Try.f32]
    exact Fin.refl ⟨by simp [unfairB, ← hFL, hb0], rfl⟩
  | false =>
  refine AW.cond false (by simp [Int.natCast_inj, hb0]) (fun h => by cases h) (fun _ => ?_)
  refine AW.skip ?_
  simp
  refine k1 _ ?_
  refine AW.seq fun _ k1 => ?_
  refine AW.seq fun _ k2 => AW.region [] Θ_ok ?_
  simp
  refine k2 _ ?_
  refine AW.block ?_
  refine AW.loopI (X := Nat) (fun x => x ≤ A.length ∧ metA next from_ [] A x = false) (fun x => ⟨35, [(0, .ro false (rows next)), (1, .ro false (bools from_)), (22, .ro false (bools2 A)), (23, .int .i64 A.length), (24, .int .i64 x)], h⟩) (fun x => A.length - x) 0 ⟨Nat.zero_le _, metA_zero _ _ _ _⟩ (GStep.eq (by simp) (subH.refl _)) fun x hx => ?_
  obtain ⟨hx, hno⟩ := hx
  refine AW.seq fun _ k2 => AW.region [] Θ_ok ?_
  simp
  refine k2 _ ?_
  by_cases hlt : x < A.length
  · have inc := wrap_succ (show x < 9223372036854775807 by omega)
    have st := metA_step next from_ [] A hlt
    have sW := r9_without next ok A[x]
    have sT := r9_meets next ok from_ (wiL next A[x]) [] (by simp)
    have mono := metA_mono (next := next) (from_ := from_) (A := []) hlt
    rw [hno, Bool.false_or] at st
    generalize meetsB next from_ (wiL next A[x]) [] = b at st sT mono
    generalize wiL next A[x] = WL at sW sT
    refine AW.seq fun _ k2 => AW.cond true (by simp [Int.natCast_inj, hlt]) (fun _ => ?_) (fun h => by cases h)
    refine AW.skip ?_
    simp
    refine k2 _ ?_
    refine AW.seq fun _ k2 => ?_
    refine AW.block ?_
    refine AW.seq fun _ k3 => AW.region [] Θ_ok ?_
    simp [hlt]
    refine k3 _ ?_
    refine AW.seq fun _ k3 => AW.regionAt 5 [] Θ_ok fun B hB => ?_
    simp
    refine sW.use (by simp) ?_
    refine hB _ ?_
    clear hB B
    refine vcOps_split 1 fun B hB => ?_
    simp
    refine sT.use (by simp) ?_
    refine hB _ ?_
    clear hB B
    simp
    refine k3 _ ?_
    cases b with
    | true =>
      refine AW.cond true (by simp [Int.natCast_inj]) (fun _ => ?_) (fun h => by cases h)
      refine AW.seq fun _ kr => AW.region [] Θ_ok ?_
      simp
      refine kr _ (AW.ret ?_)
      simp [Try.f32]
      exact Fin.refl ⟨by simp [unfairB, mono rfl], rfl⟩
    | false =>
      refine AW.cond false (by simp [Int.natCast_inj]) (fun h => by cases h) (fun _ => ?_)
      refine AW.skip ?_
      simp
      refine k2 _ ?_
      refine AW.region [] Θ_ok ?_
      simp
      exact ⟨x + 1, ⟨hlt, st⟩, by omega, GStep.eq (by simp [inc]) (subH.refl _)⟩
  · obtain rfl : x = A.length := by omega
    refine AW.seq fun _ k2 => AW.cond false (by simp [Int.natCast_inj]) (fun h => by cases h) (fun _ => ?_)
    refine AW.exit ?_
    simp
    refine k1 _ ?_
    refine AW.seq fun _ kr => AW.region [] Θ_ok ?_
    simp
    refine kr _ (AW.ret ?_)
    simp [Try.f32]
    exact Fin.refl ⟨by simp [unfairB, ← hFL, hb0, hno], rfl⟩
end Go.Par

set_option linter.unusedSimpArgs false
set_option linter.unusedVariables false
set_option maxRecDepth 8000
set_option maxHeartbeats 2000000
namespace Go.Par

def sprL (N K : Nat) (r : List Bool) : List Bool := tab N fun p => hasN r (p / K)
theorem meetsB_true {next : List (List Int)} {f i : List Bool} {rs : List (List Bool)} (h : meetsB next f i rs = true) : MeetsP next f i rs := by
  classical
  unfold meetsB at h
  simpa using h
theorem hasN_and (a b : List Bool) (v : Nat) (h : hasN (r9andL a b) v = true) : hasN a v = true ∧ hasN b v = true := by
  unfold r9andL hasN at h
  rw [getD_tab] at h
  split at h
  · exact Bool.and_eq_true_iff.1 h
  · cases h
theorem hasN_spr {N K : Nat} {r : List Bool} {p : Nat} : hasN (sprL N K r) p = true ↔ p < N ∧ hasN r (p / K) = true := by
  unfold sprL
  rw [hasN, getD_tab]
  split
  · rename_i q; exact ⟨fun e => ⟨q, e⟩, fun e => e.2⟩
  · rename_i q; exact ⟨fun e => (by cases e), fun e => absurd e.1 q⟩
theorem hasN_wi {next : List (List Int)} {r : List Bool} {p : Nat} (h : hasN (wiL next r) p = true) : p < next.length ∧ hasN r p = false := by
  unfold wiL hasN at h
  rw [getD_tab] at h
  split at h
  · rename_i q; exact ⟨q, by simpa [hasN] using h⟩
  · cases h
theorem hasN_reach {next : List (List Int)} {f : List Bool} {p : Nat} (h : hasN (reachL (nG next) f) p = true) : p < next.length ∧ Reaches (nG next) f p := by
  unfold reachL hasN at h
  rw [getD_tab] at h
  split at h
  · rename_i q; exact ⟨by simpa using q, by simpa using h⟩
  · cases h

end Go.Par
