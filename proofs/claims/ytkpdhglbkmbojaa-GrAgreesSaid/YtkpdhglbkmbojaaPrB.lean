import Derived.Test.YtkpdhglbkmbojaaPrA
set_option linter.unusedSimpArgs false
set_option linter.unusedVariables false
set_option linter.unusedSectionVars false
set_option maxRecDepth 8000
set_option maxHeartbeats 1000000
namespace Go.Par
open Go.Proofs

def winsY (n : Nat) (who : Int) (s : List Bool) (W : List Int) (x : Nat) : List Int := tab n fun v => if v < x ∧ hasN s v = true then who else fI W v
theorem winsY_len (n : Nat) (who : Int) (s : List Bool) (W : List Int) (x : Nat) : (winsY n who s W x).length = n := length_tab _ _
theorem winsY_zero {n : Nat} {who : Int} {s : List Bool} {W : List Int} (h : W.length = n) : winsY n who s W 0 = W := by
  refine (tab_ext h fun i hi => ?_).symm
  rw [if_neg fun q => Nat.not_lt_zero _ q.1]; simp [fI, show i < W.length by omega]
theorem winsY_full {n : Nat} {who : Int} {s : List Bool} {W : List Int} : winsY n who s W n = winsX n who s W := tab_congr fun i hi => by simp [hi]
theorem winsY_put {n : Nat} {who : Int} {s : List Bool} {W : List Int} {x : Nat} (h : hasN s x = true) : (winsY n who s W x).set x who = winsY n who s W (x + 1) := by
  rw [winsY, set_tab]
  refine tab_congr fun v _ => ?_
  by_cases e : v = x
  · subst e; simp [h]
  · by_cases h : v < x
    · simp [e, h, show v < x + 1 by omega]
    · simp [e, h, show ¬ v < x + 1 by omega]
theorem winsY_not {n : Nat} {who : Int} {s : List Bool} {W : List Int} {x : Nat} (h : hasN s x = false) : winsY n who s W x = winsY n who s W (x + 1) := by
  refine tab_congr fun v _ => ?_
  by_cases e : v = x
  · subst e; simp [h]
  · by_cases h : v < x
    · simp [h, show v < x + 1 by omega]
    · simp [h, show ¬ v < x + 1 by omega]

def wonP (who : Int) (part : List Bool) (W : List Int) (v : Nat) : Bool := hasN part v && decide (fI W v = who)

/-- Ways that are told to a part. -/
def goY (n : Nat) (A : List Int) (part : List Bool) (T : List Int) (x : Nat) : List Int := tab n fun v => if v < x ∧ 0 ≤ fI A v ∧ hasN part v = true then fI A v else fI T v
theorem goY_len (n : Nat) (A : List Int) (part : List Bool) (T : List Int) (x : Nat) : (goY n A part T x).length = n := length_tab _ _
theorem goY_zero {n : Nat} {A : List Int} {part : List Bool} {T : List Int} (h : T.length = n) : goY n A part T 0 = T := by
  refine (tab_ext h fun i hi => ?_).symm
  rw [if_neg fun q => Nat.not_lt_zero _ q.1]; simp [fI, show i < T.length by omega]
theorem goY_full {n : Nat} {A : List Int} {part : List Bool} {T : List Int} : goY n A part T n = tab n fun v => if 0 ≤ fI A v ∧ hasN part v = true then fI A v else fI T v := tab_congr fun i hi => by simp [hi]
theorem goY_put {n : Nat} {A : List Int} {part : List Bool} {T : List Int} {x : Nat} (h : 0 ≤ fI A x) (h2 : hasN part x = true) : (goY n A part T x).set x (fI A x) = goY n A part T (x + 1) := by
  rw [goY, set_tab]
  refine tab_congr fun v _ => ?_
  by_cases e : v = x
  · subst e; rw [if_pos rfl, if_pos ⟨Nat.lt_succ_self _, h, h2⟩]
  · by_cases h : v < x
    · simp [e, h, show v < x + 1 by omega]
    · simp [e, h, show ¬ v < x + 1 by omega]
theorem goY_not {n : Nat} {A : List Int} {part : List Bool} {T : List Int} {x : Nat} (h : ¬ (0 ≤ fI A x ∧ hasN part x = true)) : goY n A part T x = goY n A part T (x + 1) := by
  refine tab_congr fun v _ => ?_
  by_cases e : v = x
  · subst e; rw [if_neg fun q => h q.2, if_neg fun q => h q.2]
  · by_cases h : v < x
    · simp [h, show v < x + 1 by omega]
    · simp [h, show ¬ v < x + 1 by omega]

section
variable {h0 : Heap} {k : ZN} {F : List (Nat × Ob)} (N : ZNok h0 k F) (g : G) (hf : g.fits) (P W T : List Int)
include N hf

def stayV (g : G) (who : Int) (part s : List Bool) (T : List Int) (v : Nat) : Int := if hasN s v = true ∧ ow g v = who then ((nx g v).find? (hasI part)).getD (fI T v) else fI T v
def stayY (g : G) (who : Int) (part s : List Bool) (T : List Int) (x : Nat) : List Int := tab g.owner.length fun v => if v < x then stayV g who part s T v else fI T v
omit N hf in
theorem stayY_len (who : Int) (part s : List Bool) (x : Nat) : (stayY g who part s T x).length = g.owner.length := length_tab _ _
omit N hf in
theorem stayY_zero {who : Int} {part s : List Bool} (h : T.length = g.owner.length) : stayY g who part s T 0 = T := by
  refine (tab_ext h fun i hi => ?_).symm
  rw [if_neg (Nat.not_lt_zero _)]; simp [fI, show i < T.length by omega]
omit N hf in
theorem stayY_full {who : Int} {part s : List Bool} : stayY g who part s T g.owner.length = staysX g who part s T := tab_congr fun i hi => by rw [if_pos hi]; rfl
omit N hf in
theorem stayY_put {who : Int} {part s : List Bool} {x : Nat} : (stayY g who part s T x).set x (stayV g who part s T x) = stayY g who part s T (x + 1) := by
  rw [stayY, set_tab]
  refine tab_congr fun v _ => ?_
  by_cases e : v = x
  · subst e; simp
  · by_cases h : v < x
    · simp [e, h, show v < x + 1 by omega]
    · simp [e, h, show ¬ v < x + 1 by omega]
omit N hf in
theorem stayY_not {who : Int} {part s : List Bool} {x : Nat} (h : stayV g who part s T x = fI T x) : stayY g who part s T x = stayY g who part s T (x + 1) := by
  refine tab_congr fun v _ => ?_
  by_cases e : v = x
  · subst e; rw [if_neg (Nat.lt_irrefl _), if_pos (Nat.lt_succ_self _), h]
  · by_cases h : v < x
    · simp [h, show v < x + 1 by omega]
    · simp [h, show ¬ v < x + 1 by omega]

end
end Go.Par
