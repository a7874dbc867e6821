import Derived.Test.YtaipmknajpbpkaaPrE
import Derived.Test.YtaipmknajpbpkaaPyC
set_option linter.unusedSimpArgs false
set_option linter.unusedVariables false
set_option linter.unusedSectionVars false
set_option maxRecDepth 8000
set_option maxHeartbeats 1000000
namespace Go.Par
open Go.Proofs

theorem parity_May (g : G) (hf : g.fits) (P : List Int) (hP : P.length ≤ 1152921504606846976) : Pure Try.prog 63 [g.av, .ro false (ints P)] (.bool (mayP g P)) := by
  intro h
  refine AC.body Θ_ok Try.func63 rfl rfl (Nat.le_of_ble_eq_true rfl) ?_
  refine AW.seq fun _ k1 => AW.region [] Θ_ok ?_
  simp
  refine k1 _ ?_
  refine AW.seq fun _ k1 => ?_
  by_cases hm : mayE g = 0
  · by_cases hl : P.length = g.owner.length
    · have hl' : (P.length : Int) = g.owner.length := by omega
      refine AW.seq fun _ k2 => AW.regionAt 2 [] Θ_ok fun B hB => ?_
      simp
      refine (graph_May g hf).use (by simp [G.av]) ?_
      refine hB _ ?_
      clear hB B
      simp [hm, hl, hl']
      refine k2 _ ?_
      refine AW.cond false (by simp [Int.natCast_inj, hm, hl]) (fun h => by cases h) (fun _ => ?_)
      refine AW.skip ?_
      simp
      refine k1 _ ?_
      refine AW.seq fun _ k1 => ?_
      refine AW.seq fun _ k2 => AW.region [] Θ_ok ?_
      simp
      refine k2 _ ?_
      refine AW.block ?_
      refine AW.loopI (X := Nat) (fun x => x ≤ P.length ∧ ∀ j (h : j < P.length), j < x → 0 ≤ P[j] ∧ P[j] < 6) (fun x => ⟨31, [(18, .ro false (ints P)), (19, .int .i64 P.length), (20, .int .i64 x)], h⟩) (fun x => P.length - x) 0 ⟨Nat.zero_le _, fun j _ h => by omega⟩ (GStep.eq (by simp) (subH.refl _)) fun x hx => ?_
      obtain ⟨hx, hno⟩ := hx
      refine AW.seq fun _ k2 => AW.region [] Θ_ok ?_
      simp
      refine k2 _ ?_
      by_cases hlt : x < P.length
      · have inc := wrap_succ (show x < 9223372036854775807 by omega)
        refine AW.seq fun _ k2 => AW.cond true (by simp [Int.natCast_inj, hlt]) (fun _ => ?_) (fun h => by cases h)
        refine AW.skip ?_
        simp
        refine k2 _ ?_
        refine AW.seq fun _ k2 => ?_
        refine AW.block ?_
        refine AW.seq fun _ k3 => AW.region [] Θ_ok ?_
        simp [hlt]
        refine k3 _ ?_
        by_cases c1 : P[x] < 0
        · refine AW.seq fun _ k3 => AW.region [] Θ_ok ?_
          simp [c1]
          refine k3 _ ?_
          refine AW.cond true (by simp [Int.natCast_inj, c1]) (fun _ => ?_) (fun h => by cases h)
          refine AW.seq fun _ kr => AW.region [] Θ_ok ?_
          simp
          refine kr _ (AW.ret ?_)
          simp [Try.f63]
          have : mayP g P = false := by
            rw [← Bool.not_eq_true]
            intro q
            simp only [mayP, Bool.and_eq_true, decide_eq_true_eq, List.all_eq_true] at q
            have := q.2 P[x] (List.getElem_mem hlt)
            omega
          exact Fin.refl ⟨by rw [this], rfl⟩
        · by_cases c2 : 6 ≤ P[x]
          · refine AW.seq fun _ k3 => AW.region [] Θ_ok ?_
            simp [c1, c2, Int.not_lt.1 c1]
            refine k3 _ ?_
            refine AW.cond true (by simp [Int.natCast_inj, c1, c2, Int.not_lt.1 c1]) (fun _ => ?_) (fun h => by cases h)
            refine AW.seq fun _ kr => AW.region [] Θ_ok ?_
            simp
            refine kr _ (AW.ret ?_)
            simp [Try.f63]
            have : mayP g P = false := by
              rw [← Bool.not_eq_true]
              intro q
              simp only [mayP, Bool.and_eq_true, decide_eq_true_eq, List.all_eq_true] at q
              have := q.2 P[x] (List.getElem_mem hlt)
              omega
            exact Fin.refl ⟨by rw [this], rfl⟩
          · have c3 : P[x] < 6 := by omega
            refine AW.seq fun _ k3 => AW.region [] Θ_ok ?_
            simp [c1, c2, c3, Int.not_lt.1 c1]
            refine k3 _ ?_
            refine AW.cond false (by simp [Int.natCast_inj, c1, c2, c3, Int.not_lt.1 c1]) (fun h => by cases h) (fun _ => ?_)
            refine AW.skip ?_
            simp
            refine k2 _ ?_
            refine AW.region [] Θ_ok ?_
            simp
            exact ⟨x + 1, ⟨by omega, fun j h hj => by
              by_cases e : j = x
              · subst e; exact ⟨by omega, by omega⟩
              · exact hno j h (by omega)⟩, by omega, GStep.eq (by simp [inc]) (subH.refl _)⟩
      · obtain rfl : x = P.length := by omega
        refine AW.seq fun _ k2 => AW.cond false (by simp [Int.natCast_inj]) (fun h => by cases h) (fun _ => ?_)
        refine AW.exit ?_
        simp
        refine k1 _ ?_
        refine AW.seq fun _ kr => AW.region [] Θ_ok ?_
        simp
        refine kr _ (AW.ret ?_)
        simp [Try.f63]
        have : mayP g P = true := by
          simp only [mayP, Bool.and_eq_true, decide_eq_true_eq, List.all_eq_true]
          refine ⟨⟨hm, hl⟩, fun p hp => ?_⟩
          obtain ⟨j, hj, rfl⟩ := List.getElem_of_mem hp
          exact hno j hj hj
        exact Fin.refl ⟨by rw [this], rfl⟩
    · have hl' : ¬ (P.length : Int) = g.owner.length := by omega
      have : mayP g P = false := by simp [mayP, hl]
      refine AW.seq fun _ k2 => AW.regionAt 2 [] Θ_ok fun B hB => ?_
      simp
      refine (graph_May g hf).use (by simp [G.av]) ?_
      refine hB _ ?_
      clear hB B
      simp [hm, hl, hl']
      refine k2 _ ?_
      refine AW.cond true (by simp [Int.natCast_inj, hm, hl]) (fun _ => ?_) (fun h => by cases h)
      refine AW.seq fun _ kr => AW.region [] Θ_ok ?_
      simp
      refine kr _ (AW.ret ?_)
      simp [Try.f63]
      exact Fin.refl ⟨by rw [this], rfl⟩
  · have : mayP g P = false := by simp [mayP, hm]
    refine AW.seq fun _ k2 => AW.regionAt 2 [] Θ_ok fun B hB => ?_
    simp
    refine (graph_May g hf).use (by simp [G.av]) ?_
    refine hB _ ?_
    clear hB B
    simp [hm]
    refine k2 _ ?_
    refine AW.cond true (by simp [Int.natCast_inj, hm]) (fun _ => ?_) (fun h => by cases h)
    refine AW.seq fun _ kr => AW.region [] Θ_ok ?_
    simp
    refine kr _ (AW.ret ?_)
    simp [Try.f63]
    exact Fin.refl ⟨by rw [this], rfl⟩

theorem ZH.start {h : Heap} {nw nt ns nq : Nat} (g : G) (P Z : List Int) {S0 : Ob} (hnw : h nw = none) (hnt : upd h nw (some (obI Z)) nt = none) (hns : upd (upd h nw (some (obI Z))) nt (some (obI Z)) ns = none)
    (hnq : upd (upd (upd h nw (some (obI Z))) nt (some (obI Z))) ns (some S0) nq = none) :
    ZNok h ⟨ns, nw, nt, nq, false⟩ [] ∧ upd (upd (upd (upd (upd h nw (some (obI Z))) nt (some (obI Z))) ns (some S0)) ns (some (obZ g P ⟨ns, nw, nt, nq, false⟩ 0))) nq (some (obQ [] false)) = ZH h ⟨ns, nw, nt, nq, false⟩ g P Z Z [] := by
  have N1 : HN h (nms [(nw, obI Z)]) := HL.new (l := []) ⟨List.nodup_nil, fun o ho => by cases ho⟩ hnw
  have N2 : HN h (nms [(nt, obI Z), (nw, obI Z)]) := HL.new (l := [(nw, obI Z)]) N1 hnt
  have N3 : HN h (nms [(ns, S0), (nt, obI Z), (nw, obI Z)]) := HL.new (l := [(nt, obI Z), (nw, obI Z)]) N2 hns
  have N4 : HN h (nms [(nq, obQ [] false), (ns, obZ g P ⟨ns, nw, nt, nq, false⟩ 0), (nt, obI Z), (nw, obI Z)]) := HL.new (l := [(ns, S0), (nt, obI Z), (nw, obI Z)]) N3 hnq
  have p : List.Perm [(nq, obQ [] false), (ns, obZ g P ⟨ns, nw, nt, nq, false⟩ 0), (nt, obI Z), (nw, obI Z)] (ZL ⟨ns, nw, nt, nq, false⟩ g P Z Z []) := by
    have := List.reverse_perm (ZL ⟨ns, nw, nt, nq, false⟩ g P Z Z [])
    refine List.Perm.trans ?_ this
    simp only [ZL, List.reverse_cons, List.reverse_nil, List.nil_append, List.cons_append, List.length_nil]
    refine List.Perm.cons _ ?_
    refine (List.Perm.swap _ _ _).trans ?_
    exact List.Perm.cons _ (List.Perm.swap _ _ _)
  have pn := p.map Prod.fst
  refine ⟨⟨pn.nodup_iff.1 N4.nd, fun o ho => N4.free o (pn.mem_iff.2 ho)⟩, ?_⟩
  rw [upd_upd]
  exact HL.perm p N4.nd

noncomputable def solA (g : G) (P : List Int) : AV := if mayP g P then .tup [.ro true (ints (winL g P)), .ro true (ints (toL g P))] else .tup [.nils, .nils]
def negY (n x : Nat) : List Int := tab n fun v => if v < x then -1 else 0
theorem negY_len (n x : Nat) : (negY n x).length = n := length_tab _ _
theorem negY_set (n x : Nat) : (negY n x).set x (-1) = negY n (x + 1) := by
  rw [negY, set_tab]
  refine tab_congr fun v _ => ?_
  by_cases e : v = x
  · subst e; simp
  · by_cases h : v < x
    · simp [e, h, show v < x + 1 by omega]
    · simp [e, h, show ¬ v < x + 1 by omega]
def finY (g : G) (W T : List Int) (x : Nat) : List Int := tab g.owner.length fun v => if v < x ∧ fI W v ≠ ow g v then -1 else fI T v
theorem finY_len (g : G) (W T : List Int) (x : Nat) : (finY g W T x).length = g.owner.length := length_tab _ _
theorem finY_zero {g : G} {W T : List Int} (h : T.length = g.owner.length) : finY g W T 0 = T := by
  refine (tab_ext h fun i hi => ?_).symm
  rw [if_neg fun q => Nat.not_lt_zero _ q.1]; simp [fI, show i < T.length by omega]
theorem finY_put {g : G} {W T : List Int} {x : Nat} (h : fI W x ≠ ow g x) : (finY g W T x).set x (-1) = finY g W T (x + 1) := by
  rw [finY, set_tab]
  refine tab_congr fun v _ => ?_
  by_cases e : v = x
  · subst e; rw [if_pos rfl, if_pos ⟨Nat.lt_succ_self _, h⟩]
  · by_cases h : v < x
    · simp [e, h, show v < x + 1 by omega]
    · simp [e, h, show ¬ v < x + 1 by omega]
theorem finY_not {g : G} {W T : List Int} {x : Nat} (h : fI W x = ow g x) : finY g W T x = finY g W T (x + 1) := by
  refine tab_congr fun v _ => ?_
  by_cases e : v = x
  · subst e; rw [if_neg fun q => q.2 h, if_neg fun q => q.2 h]
  · by_cases h : v < x
    · simp [h, show v < x + 1 by omega]
    · simp [h, show ¬ v < x + 1 by omega]
end Go.Par
