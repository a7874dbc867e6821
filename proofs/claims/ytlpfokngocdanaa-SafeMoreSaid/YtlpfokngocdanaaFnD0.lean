import Derived.Test.YtlpfokngocdanaaFnC
set_option linter.unusedSimpArgs false
set_option maxRecDepth 8000
namespace Go.Par
open Go.Proofs

/-- How much a game weighs, as the program reckons it. -/
def heavyS (g : G) (x : Nat) : Int := (g.next.take x).foldl (fun s r => IntKind.i64.wrap (s + r.length)) g.owner.length
def heavyE (g : G) : Int := if 400 < heavyS g g.next.length ∨ 200 < g.next.length then heavyS g g.next.length else 0

theorem l9_Heavy (g : G) (hf : g.fits) : Pure Try.prog 37 [g.av] (.int .i64 (heavyE g)) := by
  intro h
  refine AC.body Θ_ok Try.func37 rfl rfl (Nat.le_of_ble_eq_true rfl) ?_
  refine AW.seq fun _ k1 => AW.region [] Θ_ok ?_
  simp
  refine k1 _ ?_
  refine AW.seq fun _ k1 => AW.region [] Θ_ok ?_
  simp
  refine k1 _ ?_
  refine AW.seq fun _ k1 => ?_
  refine AW.seq fun _ k2 => AW.region [] Θ_ok ?_
  simp
  refine k2 _ ?_
  have hb := hf.next
  refine AW.block ?_
  refine AW.loopI (X := Nat) (fun x => x ≤ g.next.length) (fun x => ⟨30, [(12, .int .i64 x), (11, .int .i64 g.next.length), (10, .ro false (rows g.next)), (3, .int .i64 (heavyS g x)), (1, .rop [.ro false (ints g.owner), .ro false (rows g.next)])], h⟩) (fun x => g.next.length - x) 0 (Nat.zero_le _) (GStep.eq (by simp [heavyS]) (subH.refl _)) fun x hx => ?_
  refine AW.seq fun _ k2 => AW.region [] Θ_ok ?_
  simp
  refine k2 _ ?_
  by_cases hlt : x < g.next.length
  · refine AW.seq fun _ k2 => AW.cond true (by simp [Int.natCast_inj, hlt]) (fun _ => ?_) (fun h => by cases h)
    refine AW.skip ?_
    simp
    refine k2 _ ?_
    refine AW.seq fun _ k2 => ?_
    refine AW.block ?_
    refine AW.seq fun _ k3 => AW.region [] Θ_ok ?_
    simp [hlt]
    refine k3 _ ?_
    refine AW.region [] Θ_ok ?_
    simp
    refine k2 _ ?_
    refine AW.region [] Θ_ok ?_
    simp
    refine ⟨x + 1, by omega, by omega, GStep.eq ?_ (subH.refl _)⟩
    have hstep : heavyS g (x + 1) = IntKind.i64.wrap (heavyS g x + (g.next[x].length : Int)) := by
      simp only [heavyS]
      rw [List.take_succ_eq_append_getElem hlt, List.foldl_append]
      rfl
    simp [wrap_succ (show x < 9223372036854775807 by omega), hstep]
  · obtain rfl : x = g.next.length := by omega
    refine AW.seq fun _ k2 => AW.cond false (by simp [Int.natCast_inj]) (fun h => by cases h) (fun _ => ?_)
    refine AW.exit ?_
    simp
    refine k1 _ ?_
    refine AW.seq fun _ k1 => ?_
    refine AW.seq fun _ k2 => AW.region [] Θ_ok ?_
    simp
    by_cases h1 : 400 < heavyS g g.next.length
    · simp [h1, Int.not_le.2 h1]
      refine k2 _ ?_
      refine AW.cond true (by simp [Int.natCast_inj]) (fun _ => ?_) (fun h => by cases h)
      refine AW.seq fun _ kr => AW.region [] Θ_ok ?_
      simp
      refine kr _ (AW.ret ?_)
      simp [Try.f37]
      exact Fin.refl ⟨by simp [heavyE, h1], rfl⟩
    · by_cases h2 : 200 < g.next.length
      · have h2' : (200 : Int) < g.next.length := by omega
        simp [h1, h2', Int.not_lt.1 h1]
        refine k2 _ ?_
        refine AW.cond true (by simp [Int.natCast_inj]) (fun _ => ?_) (fun h => by cases h)
        refine AW.seq fun _ kr => AW.region [] Θ_ok ?_
        simp
        refine kr _ (AW.ret ?_)
        simp [Try.f37]
        exact Fin.refl ⟨by simp [heavyE, h1, h2], rfl⟩
      · have h2' : ¬ (200 : Int) < g.next.length := by omega
        simp [h1, h2', Int.not_lt.1 h1]
        refine k2 _ ?_
        refine AW.cond false (by simp [Int.natCast_inj]) (fun h => by cases h) (fun _ => ?_)
        refine AW.skip ?_
        simp
        refine k1 _ ?_
        refine AW.seq fun _ kr => AW.region [] Θ_ok ?_
        simp
        refine kr _ (AW.ret ?_)
        simp [Try.f37]
        exact Fin.refl ⟨by simp [heavyE, h1, h2], rfl⟩

/-- Rows of rows of bools. -/
abbrev bools2 (l : List (List Bool)) : List AV := l.map fun r => AV.ro false (bools r)
def lightB (g : G) (l : List (List Bool)) : Bool := l.all (fun r => decide (r.length ≤ 300)) && heavyE g == 0

def okForce (g : G) (who : Int) : Prop := mayE g = 0 ∧ (who = 0 ∨ who = 1)
instance (g : G) (who : Int) : Decidable (okForce g who) := by unfold okForce; infer_instance
def forceA (g : G) (who : Int) (in_ : List Bool) : AV := if okForce g who then .ro true (bools (forceL g who in_)) else .nils
def forceR (g : G) (who : Int) (in_ : List Bool) : List Bool := if okForce g who then forceL g who in_ else []
theorem forceA_eq (g : G) (who : Int) (in_ : List Bool) : weak (forceA g who in_) = .ro false (bools (forceR g who in_)) := by
  unfold forceA forceR; split <;> simp

theorem rise_pos : ∀ {l : List Int} {was n : Int}, -1 ≤ was → rise was l n = true → ∀ w ∈ l, was < w ∧ w < n
  | v :: r, was, n, hw, h, w, hm => by
    simp only [rise] at h
    split at h
    · cases h
    · rename_i hc
      rcases List.mem_cons.1 hm with rfl | hm
      · omega
      · have := rise_pos (by omega) h w hm
        omega

theorem may_ok {g : G} (h : mayE g = 0) : g.owner.length ≤ 3000 ∧ g.next.length = g.owner.length ∧ ∀ v, v < g.owner.length → okV g v = true := by
  unfold mayE at h
  split at h
  · cases h
  · split at h
    · split at h
      · rename_i h3 hl ha
        refine ⟨by omega, hl, fun v hv => ?_⟩
        rw [List.all_eq_true] at ha
        exact ha v (by simpa using hv)
      · cases h
    · cases h

theorem may_row {g : G} (h : mayE g = 0) {v : Nat} (hv : v < g.owner.length) (hv' : v < g.next.length) : (g.owner[v] = 0 ∨ g.owner[v] = 1) ∧ ∀ w ∈ g.next[v], 0 ≤ w ∧ w < g.owner.length := by
  have := (may_ok h).2.2 v hv
  simp [okV, hv, hv'] at this
  refine ⟨this.1, fun w hw => ?_⟩
  have := rise_pos (by omega) this.2 w hw
  omega

theorem pre_Force (g : G) (hf : g.fits) (who : Int) (in_ : List Bool) : Pure Try.prog 28 [g.av, .int .i64 who, .ro false (bools in_)] (forceA g who in_) := by
  intro h
  refine AC.body Θ_ok Try.func28 rfl rfl (Nat.le_of_ble_eq_true rfl) ?_
  refine AW.seq fun _ k1 => AW.region [] Θ_ok ?_
  simp
  refine k1 _ ?_
  refine AW.seq fun _ k1 => ?_
  by_cases hm : mayE g = 0
  · by_cases hw : who = 0 ∨ who = 1
    · have hok : okForce g who := ⟨hm, hw⟩
      refine AW.seq fun _ k2 => AW.region [] Θ_ok ?_
      simp
      rcases hw with hw | hw
      all_goals
        refine (graph_May g hf).use (by simp [G.av]) ?_
        try simp [hm, hw]
        refine k2 _ ?_
        refine AW.cond false (by simp [Int.natCast_inj]) (fun h => by cases h) (fun _ => ?_)
        refine AW.skip ?_
        simp
        refine k1 _ ?_
        refine AW.seq fun _ k1 => AW.region [] Θ_ok ?_
        simp
        refine (pre_each g 52 [.rop [.ro false (ints g.owner), .ro false (rows g.next)], .rop [.ro false (bools in_)], .rop [.int .i64 who]] (forceP g who in_) hf.owner (fun v hv => ?_)).use (by simp [G.av, hw]) ?_
        · have hv' : v < g.next.length := by have := (may_ok hm).2.1; omega
          exact pre_Force1 g who in_ v hv hv' (fun w hw => ((may_row hm hv hv').2 w hw).1) (hf.row _ (List.getElem_mem _))
        · simp
          refine k1 _ (AW.ret ?_)
          simp [Try.f28]
          exact Fin.refl ⟨by simp [forceA, hok, forceL], rfl⟩
    · have hok : ¬ okForce g who := fun h => hw h.2
      have hw1 : ¬ who = 0 := fun h => hw (.inl h)
      have hw2 : ¬ who = 1 := fun h => hw (.inr h)
      refine AW.seq fun _ k2 => AW.region [] Θ_ok ?_
      simp
      refine (graph_May g hf).use (by simp [G.av]) ?_
      try simp [hm, hw1, hw2]
      refine k2 _ ?_
      refine AW.cond true (by simp [Int.natCast_inj, hw1, hw2]) (fun _ => ?_) (fun h => by cases h)
      refine AW.seq fun _ kr => AW.region [] Θ_ok ?_
      simp
      refine kr _ (AW.ret ?_)
      simp [Try.f28]
      exact Fin.refl ⟨by simp [forceA, hok], rfl⟩
  · have hok : ¬ okForce g who := fun h => hm h.1
    refine AW.seq fun _ k2 => AW.region [] Θ_ok ?_
    simp
    refine (graph_May g hf).use (by simp [G.av]) ?_
    try simp [hm]
    refine k2 _ ?_
    refine AW.cond true (by simp [Int.natCast_inj]) (fun _ => ?_) (fun h => by cases h)
    refine AW.seq fun _ kr => AW.region [] Θ_ok ?_
    simp
    refine kr _ (AW.ret ?_)
    simp [Try.f28]
    exact Fin.refl ⟨by simp [forceA, hok], rfl⟩

/-- The game that each program must know. -/
def ring11 : G := ⟨[0, 1, 1], [[1, 2], [0], []]⟩
def ring11A : AV := .agg [.ro true (ints [0, 1, 1]), .ro true [.ro true (ints [1, 2]), .ro true (ints [0]), .ro true []]]

theorem ring11_fits : ring11.fits := ⟨by decide, by decide, by decide⟩
theorem ring11_A : forceA ring11 0 [false, false, true] = .ro true (bools [true, false, true]) := rfl
theorem ring11_B : forceA ring11 1 [true] = .ro true (bools [false, true, false]) := rfl
theorem ring11_C : ((List.range ring11.owner.length).countP (hasN [true, false, true]) : Nat) = 2 := rfl

end Go.Par
