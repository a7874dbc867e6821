/- What a round of measures does, and what holds it: helpers. -/
import Derived.Test.YtkpdhglbkmbojaaSmB
import Derived.Test.YtkpdhglbkmbojaaPhA
set_option linter.unusedSimpArgs false
set_option linter.unusedVariables false
set_option maxRecDepth 8000
set_option maxHeartbeats 1000000
namespace Go.Par
open Go.Proofs

def stepS (o : Int) (m y : Ms) : Ms := if o = 1 then (if mcode y < mcode m then y else m) else (if mcode m < mcode y then y else m)
def initS (o : Int) : Ms := if o = 1 then none else some (0, 0, 0)
def accM (g : G) (P : List Int) (L : List Ms) (v j : Nat) : Ms := ((nx g v).take j).foldl (fun m w => stepS (ow g v) m (nextM (moL P) (prP P v) (xM L w.toNat))) (initS (ow g v))
section
variable {g : G} {P : List Int} {L : List Ms} {v j : Nat}
theorem accM_zero : accM g P L v 0 = initS (ow g v) := rfl
theorem accM_succ (hj : j < (nx g v).length) : accM g P L v (j + 1) = stepS (ow g v) (accM g P L v j) (nextM (moL P) (prP P v) (xM L ((nx g v)[j]).toNat)) := by
  unfold accM
  rw [List.take_succ_eq_append_getElem hj, List.foldl_append]
  rfl
theorem accM_full : accM g P L v (nx g v).length = shouldM g P L v := by
  unfold accM shouldM minM maxM
  rw [List.take_length]
  by_cases h : ow g v = 1
  · rw [if_pos h, List.foldl_map]
    simp only [stepS, initS, h, if_true]
  · rw [if_neg h, List.foldl_map]
    simp only [stepS, initS, h, if_false]
theorem step_ok {mo : Mo} {o : Int} {m y : Ms} (h1 : msOk mo m) (h2 : msOk mo y) : msOk mo (stepS o m y) := by
  unfold stepS; split <;> split <;> assumption
theorem init_ok {mo : Mo} {o : Int} : msOk mo (initS o) := by
  unfold initS; split <;> simp [msOk]
theorem accM_ok (ok : MG g P) (hL : Mok g P L) (hv : v < g.owner.length) : ∀ j, j ≤ (nx g v).length → msOk (moL P) (accM g P L v j)
  | 0, _ => init_ok
  | j + 1, h => by
    rw [accM_succ (by omega)]
    have := (nx_ok ok.m hv).2 (nx g v)[j] (List.getElem_mem _)
    exact step_ok (accM_ok ok hL hv j (by omega)) (next_ok (hL.2 _ (by omega)))
end

theorem M4.overL (ty : TypeId) (m m' : M4) : setAt (obM ty m).cells 0 m'.l = m'.l := rfl
/-- Three numbers of an array. -/
def obV (ty : TypeId) (f : Nat → Int) : Ob := ⟨[.int .i64 (f 0), .int .i64 (f 1), .int .i64 (f 2)], ty, 3, true⟩
@[simp] theorem obV_ty (ty : TypeId) (f : Nat → Int) : (obV ty f).ty = ty := rfl
@[simp] theorem obV_sz (ty : TypeId) (f : Nat → Int) : (obV ty f).sz = 3 := rfl
@[simp] theorem obV_nn (ty : TypeId) (f : Nat → Int) : (obV ty f).nn = true := rfl
@[simp] theorem obV_len (ty : TypeId) (f : Nat → Int) : (obV ty f).cells.length = 3 := rfl
theorem obV_drop (ty : TypeId) (f : Nat → Int) {x : Nat} (h : x < 3) : (obV ty f).cells.drop x = .int .i64 (f x) :: (obV ty f).cells.drop (x + 1) := by
  rcases three h with rfl | rfl | rfl <;> rfl
theorem obV_set (ty : TypeId) (f : Nat → Int) {x : Nat} (h : x < 3) (v : Int) : (⟨(obV ty f).cells.set x (.int .i64 v), ty, 3, true⟩ : Ob) = obV ty fun k => if k = x then v else f k := by
  rcases three h with rfl | rfl | rfl <;> rfl
def cF (P : List Int) (x k : Nat) : Int := ((P.take x).count ((2 * k + 1 : Nat) : Int) : Nat)
theorem cF_le (P : List Int) (x k : Nat) : 0 ≤ cF P x k ∧ cF P x k ≤ P.length := by
  have h1 : (P.take x).count ((2 * k + 1 : Nat) : Int) ≤ (P.take x).length := List.count_le_length
  rw [List.length_take] at h1
  unfold cF
  omega
theorem cF_succ (P : List Int) {x : Nat} (hx : x < P.length) (k : Nat) : cF P (x + 1) k = cF P x k + if P[x] = ((2 * k + 1 : Nat) : Int) then 1 else 0 := by
  unfold cF
  rw [List.take_succ_eq_append_getElem hx, List.count_append, List.count_singleton]
  by_cases h : P[x] = ((2 * k + 1 : Nat) : Int)
  · rw [if_pos h, if_pos (by simpa using h)]; omega
  · rw [if_neg h, if_neg (by simpa using h)]; omega
theorem cF_full (P : List Int) : [AV.int .i64 (cF P P.length 0), .int .i64 (cF P P.length 1), .int .i64 (cF P P.length 2)] = moC (moL P) := by
  simp [cF, moC, moL, List.take_length]

/-- A row of measures. -/
def obR (ty : TypeId) (L : List Ms) : Ob := ⟨L.flatMap fun m => (msN m).l, ty, 4, true⟩
@[simp] theorem obR_ty (ty : TypeId) (L : List Ms) : (obR ty L).ty = ty := rfl
@[simp] theorem obR_sz (ty : TypeId) (L : List Ms) : (obR ty L).sz = 4 := rfl
@[simp] theorem obR_nn (ty : TypeId) (L : List Ms) : (obR ty L).nn = true := rfl
theorem obR_len (ty : TypeId) (L : List Ms) : (obR ty L).cells.length = L.length * 4 := by
  show (L.flatMap fun m => (msN m).l).length = _
  induction L with
  | nil => rfl
  | cons m L ih => rw [List.flatMap_cons, List.length_append, ih, M4.llen, List.length_cons]; omega
theorem obR_drop (ty : TypeId) : ∀ (L : List Ms) {n : Nat} (h : n < L.length), (obR ty L).cells.drop (n * 4) = (msN L[n]).l ++ (obR ty L).cells.drop ((n + 1) * 4)
  | [], n, h => by simp at h
  | m :: L, 0, _ => rfl
  | m :: L, n + 1, h => by
    have e : ∀ k, (obR ty (m :: L)).cells.drop ((k + 1) * 4) = (obR ty L).cells.drop (k * 4) := fun k => by
      show ((msN m).l ++ (obR ty L).cells).drop ((k + 1) * 4) = _
      rw [show (k + 1) * 4 = (msN m).l.length + k * 4 by rw [M4.llen]; omega, List.drop_append, List.drop_eq_nil_of_le (by omega), List.nil_append, Nat.add_sub_cancel_left]
    rw [e, e]
    exact obR_drop ty L (by simpa using h)
theorem obR_take (ty : TypeId) (L : List Ms) {n : Nat} (h : n < L.length) : ((obR ty L).cells.drop (n * 4)).take 4 = (msN L[n]).l := by
  rw [obR_drop ty L h, List.take_append_of_le_length (by rw [M4.llen]; exact Nat.le_refl _)]
  exact List.take_of_length_le (by rw [M4.llen]; exact Nat.le_refl _)
theorem setAt_shift (x0 x1 x2 x3 : AV) : ∀ (l cs : List AV) (k : Nat), setAt (x0 :: x1 :: x2 :: x3 :: cs) (k + 4) l = x0 :: x1 :: x2 :: x3 :: setAt cs k l
  | [], cs, k => rfl
  | v :: l, cs, k => by
    show setAt ((x0 :: x1 :: x2 :: x3 :: cs).set (k + 4) v) (k + 4 + 1) l = _
    rw [show (x0 :: x1 :: x2 :: x3 :: cs).set (k + 4) v = x0 :: x1 :: x2 :: x3 :: cs.set k v from rfl, show k + 4 + 1 = (k + 1) + 4 by omega, setAt_shift x0 x1 x2 x3 l (cs.set k v) (k + 1)]
    rfl
theorem setAt_row (m' : Ms) : ∀ (L : List Ms) {n : Nat} (h : n < L.length), setAt (L.flatMap fun m => (msN m).l) (n * 4) (msN m').l = (L.set n m').flatMap fun m => (msN m).l
  | [], n, h => by simp at h
  | m :: L, 0, _ => rfl
  | m :: L, n + 1, h => by
    have := setAt_row m' L (n := n) (by simpa using h)
    rw [List.flatMap_cons, List.set_cons_succ, List.flatMap_cons, ← this, show (n + 1) * 4 = n * 4 + 4 by omega]
    exact setAt_shift _ _ _ _ _ _ _
theorem obR_over (ty : TypeId) (L : List Ms) {n : Nat} (h : n < L.length) (m' : Ms) : (⟨setAt (obR ty L).cells (n * 4) (msN m').l, ty, 4, true⟩ : Ob) = obR ty (L.set n m') := by
  show (⟨setAt (L.flatMap fun m => (msN m).l) (n * 4) (msN m').l, ty, 4, true⟩ : Ob) = ⟨(L.set n m').flatMap fun m => (msN m).l, ty, 4, true⟩
  rw [setAt_row m' L h]

theorem HL.forget {h0 : Heap} {l : List (Nat × Ob)} {c : Nat} {X : Ob} (hc : HL h0 l c = none) : subH (HL h0 l) (HL h0 ((c, X) :: l)) := fun o x hx => by
  have : o ≠ c := fun e => by rw [e, hc] at hx; cases hx
  show upd (HL h0 l) c (some X) o = some x
  rw [upd_ne _ _ this]; exact hx
def mss (L : List Ms) : List AV := L.map avM
theorem mss_flat (L : List Ms) : (mss L).flatMap AV.flat = L.flatMap fun m => (msN m).l := by
  unfold mss
  rw [List.flatMap_map]
  rfl
end Go.Par
