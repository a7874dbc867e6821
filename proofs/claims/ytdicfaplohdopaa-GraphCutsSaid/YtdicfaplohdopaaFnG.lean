import Derived.Test.YtdicfaplohdopaaFnE
set_option linter.unusedSimpArgs false
set_option maxRecDepth 8000
set_option linter.unusedSectionVars false
namespace Go.Par
open Go.Proofs

/-- The memory while one goes about in a game: the set, the word that holds it, the word that holds what is to do, and that row. -/
def RH (h0 : Heap) (o p5 p6 q : Nat) (out : List Bool) (todo : List Int) (nn : Bool) (jk : List Int) : Heap := fun x =>
  if x = o then some ⟨bools out, 4, 1, true⟩ else if x = p5 then some ⟨[.mu o out.length], 26, 1, true⟩ else
  if x = p6 then some ⟨[.mu q todo.length], 22, 1, true⟩ else if x = q then some ⟨ints (todo ++ jk), 3, 1, nn⟩ else h0 x

structure RN (h0 : Heap) (o p5 p6 q : Nat) : Prop where
  a1 : p5 ≠ o
  a2 : p6 ≠ o
  a3 : q ≠ o
  a4 : p6 ≠ p5
  a5 : q ≠ p5
  a6 : q ≠ p6
  f1 : h0 o = none
  f2 : h0 p5 = none
  f3 : h0 p6 = none
  f4 : h0 q = none

section
variable {h0 : Heap} {o p5 p6 q : Nat} (N : RN h0 o p5 p6 q) (out : List Bool) (todo : List Int) (nn : Bool) (jk : List Int)
include N
theorem RN.at1 : RH h0 o p5 p6 q out todo nn jk o = some ⟨bools out, 4, 1, true⟩ := by simp [RH]
theorem RN.at2 : RH h0 o p5 p6 q out todo nn jk p5 = some ⟨[.mu o out.length], 26, 1, true⟩ := by simp [RH, N.a1]
theorem RN.at3 : RH h0 o p5 p6 q out todo nn jk p6 = some ⟨[.mu q todo.length], 22, 1, true⟩ := by simp [RH, N.a2, N.a4]
theorem RN.at4 : RH h0 o p5 p6 q out todo nn jk q = some ⟨ints (todo ++ jk), 3, 1, nn⟩ := by simp [RH, N.a3, N.a5, N.a6]
theorem RN.set (v : Nat) : upd (RH h0 o p5 p6 q out todo nn jk) o (some ⟨(bools out).set v (.bool true), 4, 1, true⟩) = RH h0 o p5 p6 q (out.set v true) todo nn jk := by
  funext x
  simp only [upd, RH]
  split
  · simp [List.map_set]
  · simp
theorem RN.add (v : Int) (q' : Nat) (h : RH h0 o p5 p6 q out todo nn jk q' = none) :
    RN h0 o p5 p6 q' ∧ upd (upd (RH h0 o p5 p6 q out todo nn jk) q none) q' (some ⟨ints todo ++ [.int .i64 v], 3, 1, true⟩) p6 = some ⟨[.mu q todo.length], 22, 1, true⟩ ∧
    upd (upd (upd (RH h0 o p5 p6 q out todo nn jk) q none) q' (some ⟨ints todo ++ [.int .i64 v], 3, 1, true⟩)) p6 (some ⟨[.mu q' (todo.length + 1)], 22, 1, true⟩) = RH h0 o p5 p6 q' out (todo ++ [v]) true [] := by
  have hq : q' ≠ o ∧ q' ≠ p5 ∧ q' ≠ p6 ∧ h0 q' = none := by
    simp only [RH] at h
    split at h
    · cases h
    · split at h
      · cases h
      · split at h
        · cases h
        · split at h
          · cases h
          · rename_i a b c d
            exact ⟨a, b, c, h⟩
  refine ⟨⟨N.a1, N.a2, hq.1, N.a4, hq.2.1, hq.2.2.1, N.f1, N.f2, N.f3, hq.2.2.2⟩, ?_, ?_⟩
  · rw [upd_ne _ _ (fun e => hq.2.2.1 e.symm), upd_ne _ _ (fun e => N.a6 e.symm)]; exact N.at3 out todo nn jk
  funext x
  simp only [upd, RH]
  by_cases e1 : x = p6
  · subst e1; simp [N.a2, N.a4]
  · by_cases e2 : x = q'
    · subst e2; simp [e1, hq.1, hq.2.1]
    · by_cases e3 : x = q
      · subst e3
        simp [e1, e2, N.a3, N.a5, N.f4]
      · simp [e1, e2, e3]
end

theorem graph_Reach1 {h0 : Heap} {o p5 p6 q : Nat} (N : RN h0 o p5 p6 q) (out : List Bool) (todo : List Int) (nn : Bool) (jk : List Int) (v : Nat) (hv : v < out.length) (ht : todo.length ≤ 8796093022208) :
    AC Try.prog 43 [.int .i64 v, .ptr p5 0, .ptr p6 0] (RH h0 o p5 p6 q out todo nn jk) fun _ h' => if out[v] then h' = RH h0 o p5 p6 q out todo nn jk else ∃ q', RN h0 o p5 p6 q' ∧ h' = RH h0 o p5 p6 q' (out.set v true) (todo ++ [(v : Int)]) true [] := by
  have e1 := N.at1 out todo nn jk
  have e2 := N.at2 out todo nn jk
  have dr : List.drop v (bools out) = .bool out[v] :: List.drop (v + 1) (bools out) := by
    rw [List.drop_eq_getElem_cons (show v < (bools out).length by simpa using hv)]; simp
  refine AC.body Θ_ok Try.func43 rfl rfl (Nat.le_of_ble_eq_true rfl) ?_
  refine AW.seq fun _ k => AW.region [] Θ_ok ?_
  simp [e1, e2, hv, dr]
  refine k _ ?_
  cases hb : out[v]
  · have e3 := N.at3 (out.set v true) todo nn jk
    have e4 := N.at4 (out.set v true) todo nn jk
    refine AW.cond true (by simp [Int.natCast_inj, hb]) (fun _ => ?_) (fun h => by cases h)
    refine AW.seq fun _ k => AW.region [] Θ_ok ?_
    simp [e1, e2, hv, N.set]
    refine ⟨by omega, k _ ?_⟩
    refine AW.region [] Θ_ok ?_
    simp [e3, e4, appendA]
    refine ⟨rfl, ⟨by omega, by omega⟩, fun n' hn => ?_⟩
    obtain ⟨N', e5, he⟩ := N.add (out.set v true) todo nn jk v n' hn
    rw [e5]
    simp [Try.f43]
    exact Fin.refl ⟨n', N', he⟩
  · refine AW.cond false (by simp [Int.natCast_inj, hb]) (fun h => by cases h) (fun _ => ?_)
    refine AW.skip ?_
    simp [Try.f43]
    exact Fin.refl rfl

end Go.Par
