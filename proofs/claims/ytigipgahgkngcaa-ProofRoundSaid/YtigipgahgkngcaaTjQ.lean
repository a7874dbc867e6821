/- parrylaw17.sound. -/
import Derived.Test.YtigipgahgkngcaaTgB
set_option linter.unusedSimpArgs false
set_option linter.unusedVariables false
set_option maxRecDepth 8000
set_option maxHeartbeats 2000000
namespace Go.Par
open Go.Proofs

def soundB (next : List (List Int)) : Bool := next.all fun l => l.all (okW next.length)
theorem sound_no {next : List (List Int)} {x y : Nat} (hx : x < next.length) (hy : y < next[x].length) (h : okW next.length next[x][y] = false) : soundB next = false := by
  cases hm : soundB next with
  | false => rfl
  | true =>
    have := (List.all_eq_true.1 ((List.all_eq_true.1 hm) _ (List.getElem_mem hx))) _ (List.getElem_mem hy)
    rw [h] at this; cases this
theorem sound_may {next : List (List Int)} (hl : next.length ≤ 12000) : mayN next = soundB next := by simp [mayN, soundB, hl]
theorem l17_sound (next : List (List Int)) (hl : next.length ≤ 17592186044416) (hr : ∀ l ∈ next, l.length ≤ 17592186044416) : Pure Try.prog 17 [.ro false (rows next)] (.bool (soundB next)) := by
  intro h
  refine AC.body Θ_ok Try.func17 rfl rfl (Nat.le_of_ble_eq_true rfl) ?_
  refine AW.seq fun _ k1 => AW.region [] Θ_ok ?_
  simp
  refine k1 _ ?_
  refine AW.seq fun _ k4 => ?_
  refine AW.seq fun _ k5 => AW.region [] Θ_ok ?_
  simp
  refine k5 _ ?_
  refine AW.block ?_
  refine AW.loopI (X := Nat) (fun x => x ≤ next.length ∧ ∀ l ∈ next.take x, ∀ w ∈ l, okW next.length w = true) (fun x => ⟨29, [(0, .ro false (rows next)), (7, .ro false (rows next)), (8, .int .i64 next.length), (9, .int .i64 x)], h⟩) (fun x => next.length - x) 0 ⟨Nat.zero_le _, fun l hl => by simp at hl⟩ (GStep.eq (by simp) (subH.refl _)) fun x hx => ?_
  obtain ⟨hx, hg⟩ := hx
  refine AW.seq fun _ k6 => AW.region [] Θ_ok ?_
  simp
  refine k6 _ ?_
  by_cases hlt : x < next.length
  · have inc := wrap_succ (show x < 9223372036854775807 by omega)
    have hrl := hr _ (List.getElem_mem hlt)
    refine AW.seq fun _ k7 => AW.cond true (by simp [Int.natCast_inj, hlt]) (fun _ => ?_) (fun h => by cases h)
    refine AW.skip ?_
    simp
    refine k7 _ ?_
    refine AW.seq fun _ k8 => ?_
    refine AW.block ?_
    refine AW.seq fun _ k9 => AW.region [] Θ_ok ?_
    simp [hlt]
    refine k9 _ ?_
    refine AW.seq fun _ k10 => AW.region [] Θ_ok ?_
    simp
    refine k10 _ ?_
    refine AW.block ?_
    refine AW.loopI (X := Nat) (fun y => y ≤ next[x].length ∧ ∀ w ∈ next[x].take y, okW next.length w = true) (fun y => ⟨29, [(0, .ro false (rows next)), (7, .ro false (rows next)), (8, .int .i64 next.length), (9, .int .i64 x), (13, .ro false (ints next[x])), (14, .int .i64 next[x].length), (15, .int .i64 y)], h⟩) (fun y => next[x].length - y) 0 ⟨Nat.zero_le _, fun w hw => by simp at hw⟩ (GStep.eq (by simp) (subH.refl _)) fun y hy => ?_
    obtain ⟨hy, hgy⟩ := hy
    refine AW.seq fun _ k11 => AW.region [] Θ_ok ?_
    simp
    refine k11 _ ?_
    by_cases hly : y < next[x].length
    · have incy := wrap_succ (show y < 9223372036854775807 by omega)
      have hno := sound_no hlt hly
      have hst : ∀ w ∈ next[x].take (y + 1), w ∈ next[x].take y ∨ w = next[x][y] := fun w hw => by
        rwa [List.take_succ_eq_append_getElem hly, List.mem_append, List.mem_singleton] at hw
      obtain ⟨w, hw⟩ : ∃ w, next[x][y] = w := ⟨_, rfl⟩
      rw [hw] at hno
      simp only [hw] at hst
      refine AW.seq fun _ k12 => AW.cond true (by simp [Int.natCast_inj, hly]) (fun _ => ?_) (fun h => by cases h)
      refine AW.skip ?_
      simp
      refine k12 _ ?_
      refine AW.seq fun _ k13 => ?_
      refine AW.block ?_
      have hw0 : okW next.length w = (decide (0 ≤ w) && decide (w < next.length)) := rfl
      refine AW.seq fun _ k14 => AW.region [] Θ_ok ?_
      simp [hly, hw]
      refine k14 _ ?_
      have bad : okW next.length w = false → Fin (.bool false) h fun r h' => r = .bool (soundB next) ∧ h' = h := fun q => Fin.refl ⟨by rw [hno q], rfl⟩
      by_cases h0 : 0 ≤ w
      · by_cases h1 : w < (next.length : Int)
        · refine AW.seq fun _ k15 => AW.region [] Θ_ok ?_
          simp [Int.not_lt.2 h0, h0, Int.not_le.2 h1, h1]
          refine k15 _ ?_
          refine AW.cond false (by simp [Int.natCast_inj]) (fun h => by cases h) (fun _ => ?_)
          refine AW.skip ?_
          simp
          refine k13 _ ?_
          refine AW.region [] Θ_ok ?_
          simp
          refine ⟨y + 1, ⟨hly, fun u hu => ?_⟩, by omega, GStep.eq (by simp [incy]) (subH.refl _)⟩
          rcases hst u hu with q | q
          · exact hgy u q
          · rw [q, hw0]; simp [h0, h1]
        · refine AW.seq fun _ k15 => AW.region [] Θ_ok ?_
          simp [Int.not_lt.2 h0, h0, Int.not_lt.1 h1, h1]
          refine k15 _ ?_
          refine AW.cond true (by simp [Int.natCast_inj]) (fun _ => ?_) (fun h => by cases h)
          refine AW.seq fun _ kr => AW.region [] Θ_ok ?_
          simp
          refine kr _ (AW.ret ?_)
          simp [Try.f17]
          exact bad (by rw [hw0]; simp [h0, h1])
      · refine AW.seq fun _ k15 => AW.region [] Θ_ok ?_
        simp [Int.not_le.1 h0, h0]
        refine k15 _ ?_
        refine AW.cond true (by simp [Int.natCast_inj]) (fun _ => ?_) (fun h => by cases h)
        refine AW.seq fun _ kr => AW.region [] Θ_ok ?_
        simp
        refine kr _ (AW.ret ?_)
        simp [Try.f17]
        exact bad (by rw [hw0]; simp [h0])
    · obtain rfl : y = next[x].length := by omega
      refine AW.seq fun _ k12 => AW.cond false (by simp [Int.natCast_inj]) (fun h => by cases h) (fun _ => ?_)
      refine AW.exit ?_
      simp
      refine k8 _ ?_
      refine AW.region [] Θ_ok ?_
      simp
      refine ⟨x + 1, ⟨hlt, fun l hl => ?_⟩, by omega, GStep.eq (by simp [inc]) (subH.refl _)⟩
      rw [List.take_succ_eq_append_getElem hlt, List.mem_append, List.mem_singleton] at hl
      rcases hl with q | q
      · exact hg l q
      · rw [q]; rw [List.take_length] at hgy; exact hgy
  · obtain rfl : x = next.length := by omega
    refine AW.seq fun _ k7 => AW.cond false (by simp [Int.natCast_inj]) (fun h => by cases h) (fun _ => ?_)
    refine AW.exit ?_
    simp
    refine k4 _ ?_
    refine AW.seq fun _ kr => AW.region [] Θ_ok ?_
    simp
    refine kr _ (AW.ret ?_)
    simp [Try.f17]
    refine Fin.refl ⟨?_, rfl⟩
    rw [List.take_length] at hg
    have : soundB next = true := by simp only [soundB, List.all_eq_true]; exact hg
    rw [this]
end Go.Par
