import Derived.Test.YtkpdhglbkmbojaaSmE
import Derived.Test.YtkpdhglbkmbojaaSmW
set_option linter.unusedSimpArgs false
set_option linter.unusedVariables false
set_option maxRecDepth 8000
set_option maxHeartbeats 1000000
namespace Go.Par
open Go.Proofs

theorem win_eq {g : G} {P : List Int} (hmp : mayP g P = true) : winL g P = winM (measL g P) := by
  have ok := mayP_ok hmp
  have mg := ok.mg
  have hX := meas_least mg
  have lW : (winL g P).length = g.owner.length := (zfin_spec ok).2.2.1
  have lM := meas_len mg
  refine List.ext_getElem (by rw [lW, winM, List.length_map, lM]) fun v h1 h2 => ?_
  have hv : v < g.owner.length := by omega
  have e1 : fI (winL g P) v = (winL g P)[v] := by simp [fI, h1]
  have hvM : v < (measL g P).length := by omega
  have e2 : (winM (measL g P))[v] = winOf (measL g P)[v] := by simp [winM]
  have e3 : xM (measL g P) v = (measL g P)[v] := by simp [xM, hvM]
  rw [e2, ← e1]
  have a1 := meas_win ok hX hv
  have a2 := win_meas ok hX hv
  rw [e3] at a1 a2
  cases q : (measL g P)[v] with
  | some t => rw [q] at a1; rw [a1 (by simp)]; obtain ⟨a, b, c⟩ := t; rfl
  | none =>
    rw [q] at a2
    rcases solve_win ok hv with w | w
    · rw [w]; rfl
    · exact absurd rfl (a2 w)

end Go.Par
