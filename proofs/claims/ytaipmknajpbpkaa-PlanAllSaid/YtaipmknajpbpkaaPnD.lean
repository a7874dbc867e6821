/- The planner: what it asks. -/
import Derived.Test.YtaipmknajpbpkaaPnC
set_option linter.unusedSimpArgs false
set_option linter.unusedVariables false
set_option maxRecDepth 8000
set_option maxHeartbeats 2000000
namespace Go.Par
open Go.Proofs

/-- The planner. -/
def obPl (g : G) (A : List (List Bool)) (Z : List Bool) (T : AV) : Ob := ⟨[.ro false (ints g.owner), .ro false (rows g.next), .ro false (bools2 A), .ro false (bools Z), T], 67, 5, true⟩
@[simp] theorem obPl_cells (g : G) (A : List (List Bool)) (Z : List Bool) (T : AV) : (obPl g A Z T).cells = [.ro false (ints g.owner), .ro false (rows g.next), .ro false (bools2 A), .ro false (bools Z), T] := rfl
@[simp] theorem obPl_ty (g : G) (A : List (List Bool)) (Z : List Bool) (T : AV) : (obPl g A Z T).ty = 67 := rfl
@[simp] theorem obPl_sz (g : G) (A : List (List Bool)) (Z : List Bool) (T : AV) : (obPl g A Z T).sz = 5 := rfl
@[simp] theorem obPl_nn (g : G) (A : List (List Bool)) (Z : List Bool) (T : AV) : (obPl g A Z T).nn = true := rfl

section
variable {g : G} (hf : g.fits) (hm : mayE g = 0) {A : List (List Bool)} {Z : List Bool} {T : AV} {a : Nat} {H : Heap} (ha : H a = some (obPl g A Z T))

theorem plan_low1 (in_ : List Bool) (w : Nat) (hw : w < in_.length) : Pure Try.prog 116 [.int .i64 w, .rop [.ro false (bools in_)]] (.bool (hasN in_ w)) := by
  have e : hasN in_ w = in_[w] := by simp [hasN, hw]
  rw [e]
  intro h
  refine AC.body Θ_ok Try.func116 rfl rfl (Nat.le_of_ble_eq_true rfl) ?_
  refine AW.seq fun _ k1 => AW.region [] Θ_ok ?_
  simp
  refine k1 _ ?_
  refine AW.seq fun _ kr => AW.region [] Θ_ok ?_
  simp [hw]
  refine kr _ (AW.ret ?_)
  simp [Try.f116]
  exact Fin.refl ⟨rfl, rfl⟩

/-- The place of the first that is so. -/
def idxL (l : List Int) (p : Int → Bool) : Int := match l.findIdx? p with | some i => (i : Nat) | none => -1
theorem idx_IndexFunc (l : List Int) (hl : l.length ≤ 17592186044416) (Fid : FuncId) (cap : List AV) (p : Int → Bool) (hp : ∀ w ∈ l, Pure Try.prog Fid ([.int .i64 w] ++ cap) (.bool (p w))) :
    Pure Try.prog 115 [.ro false (ints l), .clo Fid cap] (.int .i64 (idxL l p)) := by
  intro h
  refine AC.body Θ_ok Try.func115 rfl rfl (Nat.le_of_ble_eq_true rfl) ?_
  refine AW.seq fun _ k1 => AW.region [] Θ_ok ?_
  simp
  refine k1 _ ?_
  refine AW.seq fun _ k1 => ?_
  refine AW.seq fun _ k2 => AW.region [] Θ_ok ?_
  simp
  refine k2 _ ?_
  refine AW.block ?_
  refine AW.loopI (X := Nat) (fun x => x ≤ l.length ∧ ∀ i (h : i < l.length), i < x → p l[i] = false) (fun x => ⟨19, [(0, .ro false (ints l)), (1, .clo Fid cap), (7, .int .i64 l.length), (8, .int .i64 x)], h⟩) (fun x => l.length - x) 0 ⟨Nat.zero_le _, fun i _ q => absurd q (Nat.not_lt_zero _)⟩ (GStep.eq (by simp) (subH.refl _)) fun x hx => ?_
  obtain ⟨hx, hno⟩ := hx
  refine AW.seq fun _ k2 => AW.region [] Θ_ok ?_
  simp
  refine k2 _ ?_
  by_cases hlt : x < l.length
  · have inc := wrap_succ (show x < 9223372036854775807 by omega)
    have sp := hp l[x] (List.getElem_mem hlt)
    refine AW.seq fun _ k2 => AW.cond true (by simp [Int.natCast_inj, hlt]) (fun _ => ?_) (fun h => by cases h)
    refine AW.skip ?_
    simp
    refine k2 _ ?_
    refine AW.seq fun _ k2 => ?_
    refine AW.block ?_
    refine AW.seq fun _ k3 => AW.region [] Θ_ok ?_
    simp
    refine k3 _ ?_
    refine AW.seq fun _ k4 => AW.regionAt 6 [] Θ_ok fun B hB => ?_
    simp [hlt]
    refine sp.use (by simp [wks_refl]) ?_
    refine hB _ ?_
    clear hB B
    simp
    refine k4 _ ?_
    cases hb : p l[x] with
    | true =>
      refine AW.cond true (by simp [Int.natCast_inj, hb]) (fun _ => ?_) (fun h => by cases h)
      refine AW.seq fun _ kr => AW.region [] Θ_ok ?_
      simp
      refine kr _ (AW.ret ?_)
      simp [Try.f115]
      refine Fin.refl ⟨?_, rfl⟩
      have : l.findIdx? p = some x := by
        rw [List.findIdx?_eq_some_iff_getElem]
        exact ⟨hlt, hb, fun j hj => by rw [hno j (by omega) hj]; decide⟩
      unfold idxL; rw [this]
    | false =>
      refine AW.cond false (by simp [Int.natCast_inj, hb]) (fun h => by cases h) (fun _ => ?_)
      refine AW.skip ?_
      simp
      refine k2 _ ?_
      refine AW.region [] Θ_ok ?_
      simp
      refine ⟨x + 1, ⟨by omega, fun i h q => ?_⟩, by omega, GStep.eq (by simp [inc]) (subH.refl _)⟩
      by_cases e : i = x
      · subst e; exact hb
      · exact hno i h (by omega)
  · obtain rfl : x = l.length := by omega
    refine AW.seq fun _ k2 => AW.cond false (by simp [Int.natCast_inj]) (fun h => by cases h) (fun _ => ?_)
    refine AW.exit ?_
    simp
    refine k1 _ ?_
    refine AW.seq fun _ kr => AW.region [] Θ_ok ?_
    simp
    refine kr _ (AW.ret ?_)
    simp [Try.f115]
    refine Fin.refl ⟨?_, rfl⟩
    have : l.findIdx? p = none := by
      rw [List.findIdx?_eq_none_iff]
      intro w hw
      obtain ⟨i, hi, rfl⟩ := List.getElem_of_mem hw
      exact hno i hi hi
    unfold idxL; rw [this]

include hf hm ha
theorem plan_force (x : List Bool) : AC Try.prog 73 [.ptr a 0, .ro false (bools x)] H fun r h' => r = .ro true (bools (forceL g 1 x)) ∧ h' = H := by
  have s := pre_Force g hf 1 x
  rw [show forceA g 1 x = .ro true (bools (forceL g 1 x)) from if_pos ⟨hm, .inr rfl⟩] at s
  refine AC.body Θ_ok Try.func73 rfl rfl (Nat.le_of_ble_eq_true rfl) ?_
  refine AW.seq fun _ k1 => AW.region [] Θ_ok ?_
  simp
  refine k1 _ ?_
  refine AW.seq fun _ kr => AW.region [] Θ_ok ?_
  simp [ha]
  refine s.use (by simp [G.av]) ?_
  try simp
  refine kr _ (AW.ret ?_)
  simp [Try.f73]
  exact Fin.refl ⟨rfl, rfl⟩

theorem plan_lowest (v : Nat) (hv : v < g.owner.length) (x : List Bool) (hx : x.length = g.owner.length) : AC Try.prog 99 [.ptr a 0, .int .i64 v, .ro false (bools x)] H fun r h' => r = .int .i64 (lowL (nx g v) x) ∧ h' = H := by
  have hvn : v < g.next.length := by have := (may_ok hm).2.1; omega
  have nxv : nx g v = g.next[v] := by simp [nx, hvn]
  have hrow := (nx_ok hm hv).2
  have sI := idx_IndexFunc g.next[v] (hf.row _ (List.getElem_mem hvn)) 116 [.rop [.ro false (bools x)]] (hasI x) (fun w hw => by
    obtain ⟨b0, b1⟩ := hrow w (by rw [nxv]; exact hw)
    obtain ⟨u, rfl⟩ := Int.eq_ofNat_of_zero_le b0
    exact plan_low1 x u (by omega))
  have hlow : lowL (nx g v) x = match g.next[v].findIdx? (hasI x) with | some i => g.next[v].getD i (-1) | none => -1 := by
    rw [nxv]
    unfold lowL
    cases q : g.next[v].findIdx? (hasI x) with
    | none => rw [List.findIdx?_eq_none_iff] at q; rw [List.find?_eq_none.2 (fun w hw => by rw [q w hw]; decide)]; rfl
    | some i =>
      rw [List.findIdx?_eq_some_iff_getElem] at q
      obtain ⟨h1, h2, h3⟩ := q
      have : g.next[v].find? (hasI x) = some g.next[v][i] := by
        rw [List.find?_eq_some_iff_getElem]
        exact ⟨h2, i, h1, rfl, fun j hj => by have := h3 j hj; simpa using this⟩
      rw [this]; simp [h1]
  rw [hlow]
  refine AC.body Θ_ok Try.func99 rfl rfl (Nat.le_of_ble_eq_true rfl) ?_
  refine AW.seq fun _ k1 => AW.region [] Θ_ok ?_
  simp
  refine k1 _ ?_
  refine AW.seq fun _ k1 => AW.regionAt 10 [] Θ_ok fun B hB => ?_
  simp [ha, hvn]
  refine sI.use (by simp) ?_
  refine hB _ ?_
  clear hB B
  simp
  refine k1 _ ?_
  unfold idxL
  cases q : g.next[v].findIdx? (hasI x) with
  | none =>
    refine AW.seq fun _ k1 => ?_
    refine AW.seq fun _ k2 => AW.region [] Θ_ok ?_
    simp
    refine k2 _ ?_
    refine AW.cond true (by simp [Int.natCast_inj]) (fun _ => ?_) (fun h => by cases h)
    refine AW.seq fun _ kr => AW.region [] Θ_ok ?_
    simp
    refine kr _ (AW.ret ?_)
    simp [Try.f99]
    exact Fin.refl ⟨rfl, rfl⟩
  | some i =>
    rw [List.findIdx?_eq_some_iff_getElem] at q
    obtain ⟨h1, _⟩ := q
    have i0 : ¬ (i : Int) < 0 := by omega
    refine AW.seq fun _ k1 => ?_
    refine AW.seq fun _ k2 => AW.region [] Θ_ok ?_
    simp [i0]
    refine k2 _ ?_
    refine AW.cond false (by simp [Int.natCast_inj, i0]) (fun h => by cases h) (fun _ => ?_)
    refine AW.skip ?_
    simp
    refine k1 _ ?_
    refine AW.seq fun _ kr => AW.region [] Θ_ok ?_
    simp [ha, hvn, h1]
    refine kr _ (AW.ret ?_)
    simp [Try.f99]
    exact Fin.refl ⟨by simp [h1], rfl⟩

theorem plan_waits (sure r : List Bool) : AC Try.prog 75 [.ptr a 0, .ro false (bools sure), .ro false (bools r)] H fun r' h' => r' = .ro true (bools (great g (stepL g sure r))) ∧ h' = H := by
  have hb := hf.owner
  have M := step_mon hm sure r
  have hc : cntS (topL g) < g.owner.length + 1 := by have := cntS_le (topL g); rw [topL, len_not] at this; rw [topL]; omega
  have hG : great g (stepL g sure r) = fixG (stepL g sure r) (g.owner.length + 1) (topL g) := rfl
  generalize great g (stepL g sure r) = R at *
  refine AC.body Θ_ok Try.func75 rfl rfl (Nat.le_of_ble_eq_true rfl) ?_
  refine AW.seq fun _ k1 => AW.region [] Θ_ok ?_
  simp
  refine k1 _ ?_
  refine AW.seq fun _ k1 => AW.regionAt 5 [] Θ_ok fun B hB => ?_
  simp [ha]
  refine (pre_Not g [] hb).use (by simp [G.av]) ?_
  refine hB _ ?_
  clear hB B
  simp
  refine k1 _ ?_
  refine AW.block ?_
  refine AW.loopI (X := FX) (fun s => s.x.length = g.owner.length ∧ leS g.owner.length (stepL g sure r s.x) s.x ∧ cntS s.x < s.f ∧ fixG (stepL g sure r) s.f s.x = R) (fun s => ⟨39, [(0, .ptr a 0), (1, .ro false (bools sure)), (2, .ro false (bools r)), (7, .ro true (bools s.x))], H⟩) (fun s => s.f) ⟨topL g, g.owner.length + 1⟩ ⟨len_not _ _, le_top _, hc, hG.symm⟩ (GStep.eq (by simp [topL]) (subH.refl _)) ?_
  rintro ⟨x, f⟩ ⟨hl, hd, hcn, hR⟩
  simp only at hl hd hcn hR ⊢
  have sF := plan_force hf hm ha x
  have sN := pre_Not g r hb
  have sA := pre_And g (notL g r) (forceL g 1 x) hb
  have sO := pre_Or g sure (andL g (notL g r) (forceL g 1 x)) hb
  rw [show orL g sure (andL g (notL g r) (forceL g 1 x)) = stepL g sure r x from rfl] at sO
  refine AW.block ?_
  refine AW.seq fun _ k2 => AW.draw [] 17 [3, 8, 12] Θ_ok mixed (by kernel_rfl) (by kernel_rfl) ?_
  refine vcDraw_split 13 fun B hB => ?_
  simp [vcPre, vcTail, callA, isAlloc, isLoad, effOp, obl, obA, mkOK, valA, ha]
  refine hB _ _ _ ?_
  clear hB B
  simp [vcPre, vcTail, callA, isAlloc, isLoad, effOp, obl, obA, mkOK, valA, ha]
  refine ⟨_, sN.wk (by simp [G.av]), ?_⟩
  refine (sF.wk (by simp)).mono ?_
  rintro r2 h' ⟨rfl, rfl⟩
  simp [ha]
  refine (sA.use (by simp [G.av]) ?_)
  simp [ha]
  refine (sO.use (by simp [G.av]) ?_)
  simp [ha]
  refine k2 _ ?_
  refine AW.seq fun _ k2 => ?_
  refine AW.seq fun _ k3 => AW.region [] Θ_ok ?_
  simp
  have sE := slices_EqualB x (stepL g sure r x) (by omega)
  generalize hbv : decide (x = stepL g sure r x) = bv at sE
  refine sE.use (by simp) ?_
  refine k3 _ ?_
  cases bv
  · have e := of_decide_eq_false hbv
    clear hbv
    refine AW.cond false (by simp [Int.natCast_inj]) (fun h => by cases h) (fun _ => ?_)
    refine AW.skip ?_
    simp
    refine k2 _ ?_
    refine AW.region [] Θ_ok ?_
    simp
    obtain ⟨f', rfl⟩ : ∃ f', f = f' + 1 := ⟨f - 1, by omega⟩
    have hc' := (cnt_mono (M.len x) hl hd).2 (fun q => e q.symm)
    exact ⟨⟨stepL g sure r x, f'⟩, ⟨M.len x, M.mono _ _ hd, by simp only; omega, by simp only; rw [← hR, fixG_step (fun q => e q.symm)]⟩, by simp only; omega, GStep.eq (by simp) (subH.refl _)⟩
  · have e := of_decide_eq_true hbv
    clear hbv
    refine AW.cond true (by simp [Int.natCast_inj]) (fun _ => ?_) (fun h => by cases h)
    refine AW.seq fun _ kr => AW.region [] Θ_ok ?_
    simp
    refine kr _ (AW.ret ?_)
    simp [Try.f75]
    refine Fin.refl ⟨?_, rfl⟩
    rw [← hR, fixG_at e.symm]
end
end Go.Par
