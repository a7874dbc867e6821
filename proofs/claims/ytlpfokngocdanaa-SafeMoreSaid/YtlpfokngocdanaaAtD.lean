import Derived.Test.YtlpfokngocdanaaAtC
import Derived.Test.YtlpfokngocdanaaAtQ
import Derived.Test.YtlpfokngocdanaaFnJ
set_option linter.unusedSimpArgs false
set_option linter.unusedVariables false
set_option maxRecDepth 8000
set_option maxHeartbeats 1000000
namespace Go.Par
open Go.Proofs

noncomputable def ranksA (g : G) (who : Int) (s : List Bool) : AV := if mayE g = 0 ∧ (who = 0 ∨ who = 1) then .ro true (ints (ranksL g who s)) else .nils

/-- The call of give. -/
theorem at_give {h0 : Heap} {k : SN} (N : SNok h0 k) (g : G) (who : Int) (L R : List Int) (T : List Pr) (v rank : Nat) (hR : R.length = g.owner.length) (hv : v < g.owner.length) (ht : T.length < 1099511627776) :
    AC Try.prog 40 [.ptr k.s 0, .int .i64 v, .int .i64 rank] (SH h0 k g who L R T) fun _ h' => ∃ k', SNok h0 k' ∧ k'.s = k.s ∧ h' = SH h0 k' g who L (giveR R v rank) (giveT R T v rank) := by
  have hv' : v < R.length := by omega
  refine (at_gives N g who L R T v rank hR hv' ht).mono ?_
  intro r h' q
  have e : R.getD v 0 = R[v] := by simp [hv']
  unfold giveR giveT
  rw [e]
  by_cases c : R[v] < 0
  · rw [if_pos c] at q ⊢
    rw [if_pos c]
    obtain ⟨o', N', rfl⟩ := q
    exact ⟨_, N', rfl, rfl⟩
  · rw [if_neg c] at q ⊢
    rw [if_neg c]
    exact ⟨k, N, rfl, q⟩

theorem SH.start {h : Heap} {nl nr ns no : Nat} (g : G) (who : Int) (Z : List Int) {S0 : Ob} (hnl : h nl = none) (hnr : upd h nl (some (obI Z)) nr = none) (hns : upd (upd h nl (some (obI Z))) nr (some (obI Z)) ns = none)
    (hno : upd (upd (upd h nl (some (obI Z))) nr (some (obI Z))) ns (some S0) no = none) :
    SNok h ⟨ns, nl, nr, no, false⟩ ∧ upd (upd (upd (upd (upd h nl (some (obI Z))) nr (some (obI Z))) ns (some S0)) ns (some (obS g who ⟨ns, nl, nr, no, false⟩ 0))) no (some (obT [] false)) = SH h ⟨ns, nl, nr, no, false⟩ g who Z Z [] := by
  have N1 : HN h (nms [(nl, obI Z)]) := HL.new (l := []) ⟨List.nodup_nil, fun o ho => by cases ho⟩ hnl
  have N2 : HN h (nms [(nr, obI Z), (nl, obI Z)]) := HL.new (l := [(nl, obI Z)]) N1 hnr
  have N3 : HN h (nms [(ns, S0), (nr, obI Z), (nl, obI Z)]) := HL.new (l := [(nr, obI Z), (nl, obI Z)]) N2 hns
  have N4 : HN h (nms [(no, obT [] false), (ns, obS g who ⟨ns, nl, nr, no, false⟩ 0), (nr, obI Z), (nl, obI Z)]) := HL.new (l := [(ns, S0), (nr, obI Z), (nl, obI Z)]) N3 hno
  have p : List.Perm [(no, obT [] false), (ns, obS g who ⟨ns, nl, nr, no, false⟩ 0), (nr, obI Z), (nl, obI Z)] (SHl ⟨ns, nl, nr, no, false⟩ g who Z Z []) := by
    have := List.reverse_perm (SHl ⟨ns, nl, nr, no, false⟩ g who Z Z [])
    refine List.Perm.trans ?_ this
    simp only [SHl, List.reverse_cons, List.reverse_nil, List.nil_append, List.cons_append, List.length_nil]
    refine List.Perm.cons _ ?_
    refine (List.Perm.swap _ _ _).trans ?_
    exact List.Perm.cons _ (List.Perm.swap _ _ _)
  have pn := p.map Prod.fst
  refine ⟨⟨pn.nodup_iff.1 N4.nd, fun o ho => N4.free o (pn.mem_iff.2 ho)⟩, ?_⟩
  rw [upd_upd]
  exact HL.perm p N4.nd

def lensX (g : G) (x : Nat) : List Int := tab g.owner.length fun v => if v < x then ((nx g v).length : Int) else 0
def negX (g : G) (x : Nat) : List Int := tab g.owner.length fun v => if v < x then -1 else 0
theorem lensX_len (g : G) (x : Nat) : (lensX g x).length = g.owner.length := length_tab _ _
theorem negX_len (g : G) (x : Nat) : (negX g x).length = g.owner.length := length_tab _ _
theorem lensX_zero (g : G) : (tab g.owner.length fun _ => (0 : Int)) = lensX g 0 := tab_congr fun v _ => by simp
theorem negX_zero (g : G) : (tab g.owner.length fun _ => (0 : Int)) = negX g 0 := tab_congr fun v _ => by simp
theorem lensX_full (g : G) : lensX g g.owner.length = lensL g := tab_congr fun v hv => by simp [hv]
theorem negX_full (g : G) : negX g g.owner.length = tab g.owner.length fun _ => -1 := tab_congr fun v hv => by simp [hv]
theorem lensX_set (g : G) (x : Nat) : (lensX g x).set x ((nx g x).length : Int) = lensX g (x + 1) := by
  rw [lensX, set_tab]
  refine tab_congr fun v _ => ?_
  by_cases e : v = x
  · subst e; simp
  · by_cases h : v < x
    · simp [e, h, show v < x + 1 by omega]
    · simp [e, h, show ¬ v < x + 1 by omega]
theorem negX_set (g : G) (x : Nat) : (negX g x).set x (-1) = negX g (x + 1) := by
  rw [negX, set_tab]
  refine tab_congr fun v _ => ?_
  by_cases e : v = x
  · subst e; simp
  · by_cases h : v < x
    · simp [e, h, show v < x + 1 by omega]
    · simp [e, h, show ¬ v < x + 1 by omega]

theorem countN_but {l : List Nat} {p q : Nat → Bool} {x : Nat} (hx : x ∈ l) (h1 : p x = true) (h2 : q x = false) (h : ∀ y ∈ l, q y = true → p y = true) : l.countP q < l.countP p := by
  induction l with
  | nil => cases hx
  | cons y l ih =>
    rw [List.countP_cons, List.countP_cons]
    have hle : l.countP q ≤ l.countP p := List.countP_mono_left fun y hy hq => h y (by simp [hy]) hq
    rcases List.mem_cons.1 hx with rfl | hx'
    · simp [h1, h2]; omega
    · have := ih hx' fun z hz => h z (by simp [hz])
      have h3 := h y (by simp)
      by_cases e : q y = true
      · simp [e, h3 e]; omega
      · simp [e]; omega
theorem befL_get (g : G) {a : Nat} (h : a < (befL g).length) : (befL g)[a] = bef g a := by simp [befL]
theorem befL_len (g : G) : (befL g).length = g.owner.length := length_tab _ _

/-- A search while ranks are found. -/
structure SS where
  k : SN
  R : List Int
  T : List Pr
  x : Nat
structure SO where
  k : SN
  P : Nat → Bool
  L : List Int
  R : List Int
  T : List Pr
structure SI where
  k : SN
  L : List Int
  R : List Int
  T : List Pr
  y : Nat

theorem attract_Ranks (g : G) (hf : g.fits) (who : Int) (s : List Bool) (hs : s.length ≤ 1152921504606846976) : Pure Try.prog 16 [g.av, .int .i64 who, .ro false (bools s)] (ranksA g who s) := by
  have sM := graph_May g hf
  have sD := graph_Dead g hf (IntKind.i64.wrap (1 - who))
  have hwd : who = 0 ∨ who = 1 → IntKind.i64.wrap (1 - who) = 1 - who := fun h => wrap_id (by omega) (by omega)
  intro h
  refine AC.body Θ_ok Try.func16 rfl rfl (Nat.le_of_ble_eq_true rfl) ?_
  refine AW.seq fun _ k1 => AW.region [] Θ_ok ?_
  simp
  refine k1 _ ?_
  refine AW.seq fun _ k1 => AW.regionAt 4 [] Θ_ok fun B hB => ?_
  simp
  refine sD.use (by simp [G.av]) ?_
  refine hB _ ?_
  clear hB B
  simp
  refine k1 _ ?_
  by_cases hm : mayE g = 0
  · by_cases hp : who = 0 ∨ who = 1
    · have hfin : ranksA g who s = .ro true (ints (ranksL g who s)) := if_pos ⟨hm, hp⟩
      have hn3 := (may_ok hm).1
      have hn2 := (may_ok hm).2.1
      rw [hwd hp]
      refine AW.seqTo ⟨147, [(7, .ro true (bools (tab g.owner.length (deadP g (1 - who))))), (3, .rop [.ro false (ints g.owner), .ro false (rows g.next)]), (1, .int .i64 who), (2, .ro false (bools s))], h⟩ (fun _ k1 => ?_) ?_
      · clear sD hwd hfin
        refine AW.seq fun _ k2 => AW.region [] Θ_ok ?_
        simp
        rcases hp with hw | hw
        all_goals
          refine (graph_May g hf).use (by simp [G.av]) ?_
          try simp [hm, hw]
          refine k2 _ ?_
          refine AW.cond false (by simp [Int.natCast_inj, hw]) (fun h => by cases h) (fun _ => ?_)
          refine AW.skip ?_
          simp
          exact k1 _ (GStep.eq (by simp [deadA, hm, hw]) (subH.refl _))
      · clear sD hwd sM
        refine AW.seq fun _ k1 => AW.draw [40, 44, 46] 10 [0, 3, 7] Θ_ok mixed (by kernel_rfl) (by kernel_rfl) ?_
        simp [vcDraw, vcPre, vcTail, callA, isAlloc, isLoad, effOp, obl, obA, mkOK, valA, newA]
        have b1 : 8 * (g.owner.length : Int) ≤ 140737488355328 := by omega
        have b2 : (g.owner.length : Int) ≤ 140737488355328 := by omega
        have e0 : ((List.replicate g.owner.length (AV.int IntKind.i64 0)).flatMap AV.flat) = (tab g.owner.length fun _ => (0 : Int)).map (AV.int .i64) := by
          rw [replicate_tab, flat_tab (fun _ _ => rfl)]; simp
        rw [e0]
        refine ⟨⟨b1, b2⟩, fun nl hnl => ⟨⟨b1, b2⟩, fun nr hnr ns hns => k1 _ ?_⟩⟩
        refine AW.mineCell ns 5 ⟨[.ro false (ints g.owner), .ro false (rows g.next), .int .i64 who, .mu nl g.owner.length, .mu nr g.owner.length, .nils], 53, 6, true⟩ 57 2 (upd_same _ _ _) rfl fun no hno => ?_
        obtain ⟨N, hH⟩ := SH.start g who (tab g.owner.length fun _ => (0 : Int)) hnl hnr hns hno
        simp only [List.set_cons_succ, List.set_cons_zero]
        rw [show (⟨[.ro false (ints g.owner), .ro false (rows g.next), .int .i64 who, .mu nl g.owner.length, .mu nr g.owner.length, .mu no 0], 53, 6, true⟩ : Ob) = obS g who ⟨ns, nl, nr, no, false⟩ 0 from rfl]
        rw [show (⟨[], 57, 2, false⟩ : Ob) = obT [] false from rfl]
        simp only [obI_mk]
        rw [hH]
        obtain ⟨k, hk⟩ : ∃ k : SN, k = ⟨ns, nl, nr, no, false⟩ := ⟨_, rfl⟩
        have hks : ns = k.s := by rw [hk]
        rw [← hk] at N ⊢
        rw [hks]
        clear hk hks hH hns hnr hnl hno
        refine AW.seq fun _ k1 => AW.region [] Θ_ok ?_
        simp
        refine k1 _ ?_
        refine AW.seqEx (X := SN) (fun k => SNok h k) (fun k => ⟨147, [(2, .ro false (bools s)), (3, .rop [.ro false (ints g.owner), .ro false (rows g.next)]), (7, .ro true (bools (tab g.owner.length (deadP g (1 - who))))), (8, .ptr k.s 0), (9, .bnd 40 [.ptr k.s 0])], SH h k g who (lensL g) (tab g.owner.length fun _ => -1) []⟩) (fun _ k1 => ?_) ?_
        · refine AW.seq fun _ k2 => AW.region [] Θ_ok ?_
          simp
          refine k2 _ ?_
          refine AW.block ?_
          refine AW.loopI (X := Nat) (fun x => x ≤ g.owner.length) (fun x => ⟨147, [(2, .ro false (bools s)), (3, .rop [.ro false (ints g.owner), .ro false (rows g.next)]), (7, .ro true (bools (tab g.owner.length (deadP g (1 - who))))), (8, .ptr k.s 0), (9, .bnd 40 [.ptr k.s 0]), (50, .ro false (rows g.next)), (51, .int .i64 g.owner.length), (52, .int .i64 x)], SH h k g who (lensX g x) (negX g x) []⟩) (fun x => g.owner.length - x) 0 (Nat.zero_le _) (GStep.eq (by simp [hn2]) (by rw [lensX_zero, ← negX_zero, lensX_zero]; exact subH.refl _)) fun x hx => ?_
          refine AW.seq fun _ k3 => AW.region [] Θ_ok ?_
          simp
          refine k3 _ ?_
          by_cases hlt : x < g.owner.length
          · have inc := wrap_succ (show x < 9223372036854775807 by omega)
            have hltn : x < g.next.length := by omega
            have hS := SH.s N g who (lensX g x) (negX g x) []
            have hL := SH.l N g who (lensX g x) (negX g x) []
            have hR := SH.r N g who (lensX g x) (negX g x) []
            have eL := lensX_set g x
            have eR := negX_set g x
            have p1 := SH.putL N g who (lensX g x) (negX g x) [] (lensX g (x + 1))
            have p2 := SH.putR N g who (lensX g (x + 1)) (negX g x) [] (negX g (x + 1))
            have hS2 := SH.s N g who (lensX g (x + 1)) (negX g x) []
            have hR2 := SH.r N g who (lensX g (x + 1)) (negX g x) []
            have lL := lensX_len g x
            have lR := negX_len g x
            have en : nx g x = g.next[x] := by simp [nx, hltn]
            have mL := map_set_int (lensX g x) x ((nx g x).length : Int)
            have mR := map_set_int (negX g x) x (-1)
            rw [eL, en] at mL
            rw [eR] at mR
            generalize hL' : lensX g (x + 1) = L' at *
            generalize hR' : negX g (x + 1) = R' at *
            generalize lensX g x = L at *
            generalize negX g x = R at *
            refine AW.seq fun _ k3 => AW.cond true (by simp [Int.natCast_inj, hlt]) (fun _ => ?_) (fun h => by cases h)
            refine AW.skip ?_
            simp
            refine k3 _ ?_
            refine AW.seq fun _ k3 => ?_
            refine AW.block ?_
            refine AW.seq fun _ k4 => AW.region [] Θ_ok ?_
            simp [hltn]
            refine k4 _ ?_
            refine AW.draw [] 13 [] Θ_ok mixed (by kernel_rfl) (by kernel_rfl) ?_
            simp [vcDraw, vcPre, vcTail, callA, isAlloc, isLoad, effOp, obl, obA, mkOK, valA, hS, hL, hR, hlt, lL, lR, mL, mR, obI_mk, p1, p2, hR2]
            refine ⟨by omega, k3 _ ?_⟩
            refine AW.region [] Θ_ok ?_
            simp
            exact ⟨x + 1, by omega, by omega, GStep.eq (by simp [inc]) (subH_of_eq (by rw [hL', hR']))⟩
          · obtain rfl : x = g.owner.length := by omega
            refine AW.seq fun _ k3 => AW.cond false (by simp [Int.natCast_inj]) (fun h => by cases h) (fun _ => ?_)
            refine AW.exit ?_
            simp
            exact k1 _ k N (GStep.eq (by simp) (by rw [lensX_full, negX_full]; exact subH.refl _))
        · clear N
          intro k N
          refine AW.seqEx (X := SS) (fun z => SNok h z.k ∧ Ph1 g who s g.owner.length z.R z.T) (fun z => ⟨147, [(3, .rop [.ro false (ints g.owner), .ro false (rows g.next)]), (7, .ro true (bools (tab g.owner.length (deadP g (1 - who))))), (8, .ptr z.k.s 0), (9, .bnd 40 [.ptr z.k.s 0])], SH h z.k g who (lensL g) z.R z.T⟩) (fun _ k1 => ?_) ?_
          · have hS := SH.s N g who (lensL g) (tab g.owner.length fun _ => -1) []
            refine AW.seq fun _ k2 => AW.region [] Θ_ok ?_
            simp [hS]
            refine k2 _ ?_
            refine AW.block ?_
            refine AW.loopI (X := SS) (fun z => SNok h z.k ∧ z.x ≤ g.owner.length ∧ Ph1 g who s z.x z.R z.T) (fun z => ⟨147, [(2, .ro false (bools s)), (3, .rop [.ro false (ints g.owner), .ro false (rows g.next)]), (7, .ro true (bools (tab g.owner.length (deadP g (1 - who))))), (8, .ptr z.k.s 0), (9, .bnd 40 [.ptr z.k.s 0]), (76, .int .i64 g.owner.length), (77, .int .i64 z.x)], SH h z.k g who (lensL g) z.R z.T⟩) (fun z => g.owner.length - z.x) ⟨k, tab g.owner.length fun _ => -1, [], 0⟩ ⟨N, Nat.zero_le _, ph1_zero⟩ (GStep.eq (by simp) (subH.refl _)) ?_
            clear N hS k
            rintro ⟨k, R, T, x⟩ ⟨N, hx, hP⟩
            simp only at N hx hP ⊢
            have hlen := hP.1.len
            have hlR := hP.1.lenR
            refine AW.seq fun _ k3 => AW.region [] Θ_ok ?_
            simp
            refine k3 _ ?_
            by_cases hlt : x < g.owner.length
            · have inc := wrap_succ (show x < 9223372036854775807 by omega)
              obtain ⟨q1, q2⟩ := ph1_step hlt hP
              have sg := at_give N g who (lensL g) R T x 0 hlR hlt (by omega)
              refine AW.seq fun _ k3 => AW.cond true (by simp [Int.natCast_inj, hlt]) (fun _ => ?_) (fun h => by cases h)
              refine AW.skip ?_
              simp
              refine k3 _ ?_
              refine AW.seq fun _ k3 => ?_
              refine AW.block ?_
              refine AW.seq fun _ k4 => AW.region [] Θ_ok ?_
              simp
              refine k4 _ ?_
              by_cases hxs : x < s.length
              · have hsx : hasN s x = s[x] := by simp [hasN, hxs]
                rw [hsx] at q1 q2
                refine AW.seq fun _ k4 => AW.region [] Θ_ok ?_
                simp [hxs]
                refine k4 _ ?_
                cases hb : s[x]
                · refine AW.cond false (by simp [Int.natCast_inj, hb]) (fun h => by cases h) (fun _ => ?_)
                  refine AW.skip ?_
                  simp
                  refine k3 _ ?_
                  refine AW.region [] Θ_ok ?_
                  simp
                  exact ⟨⟨k, R, T, x + 1⟩, ⟨N, by simp only; omega, q2 hb⟩, by simp only; omega, GStep.eq (by simp [inc]) (subH.refl _)⟩
                · refine AW.cond true (by simp [Int.natCast_inj, hb]) (fun _ => ?_) (fun h => by cases h)
                  refine AW.region [] Θ_ok ?_
                  simp
                  refine sg.mono ?_
                  rintro r h' ⟨k', N', hs', rfl⟩
                  refine k3 _ ?_
                  refine AW.region [] Θ_ok ?_
                  simp
                  exact ⟨⟨k', _, _, x + 1⟩, ⟨N', by simp only; omega, q1 hb⟩, by simp only; omega, GStep.eq (by simp [inc, hs']) (subH.refl _)⟩
              · have hsx : hasN s x = false := by simp [hasN, hxs]
                refine AW.seq fun _ k4 => AW.region [] Θ_ok ?_
                simp [hxs]
                refine k4 _ ?_
                refine AW.cond false (by simp [Int.natCast_inj]) (fun h => by cases h) (fun _ => ?_)
                refine AW.skip ?_
                simp
                refine k3 _ ?_
                refine AW.region [] Θ_ok ?_
                simp
                exact ⟨⟨k, R, T, x + 1⟩, ⟨N, by simp only; omega, q2 hsx⟩, by simp only; omega, GStep.eq (by simp [inc]) (subH.refl _)⟩
            · obtain rfl : x = g.owner.length := by omega
              refine AW.seq fun _ k3 => AW.cond false (by simp [Int.natCast_inj]) (fun h => by cases h) (fun _ => ?_)
              refine AW.exit ?_
              simp
              exact k1 _ ⟨k, R, T, 0⟩ ⟨N, hP⟩ (GStep.eq (by simp) (subH.refl _))
          · clear N
            rintro ⟨k, R, T, x⟩ ⟨N, hP⟩
            simp only at N hP ⊢
            refine AW.seqEx (X := SS) (fun z => SNok h z.k ∧ Ph2 g who s g.owner.length z.R z.T) (fun z => ⟨147, [(3, .rop [.ro false (ints g.owner), .ro false (rows g.next)]), (8, .ptr z.k.s 0), (9, .bnd 40 [.ptr z.k.s 0])], SH h z.k g who (lensL g) z.R z.T⟩) (fun _ k1 => ?_) ?_
            · refine AW.seq fun _ k2 => AW.region [] Θ_ok ?_
              simp
              refine k2 _ ?_
              refine AW.block ?_
              refine AW.loopI (X := SS) (fun z => SNok h z.k ∧ z.x ≤ g.owner.length ∧ Ph2 g who s z.x z.R z.T) (fun z => ⟨147, [(3, .rop [.ro false (ints g.owner), .ro false (rows g.next)]), (94, .ro true (bools (tab g.owner.length (deadP g (1 - who))))), (95, .int .i64 g.owner.length), (96, .int .i64 z.x), (8, .ptr z.k.s 0), (9, .bnd 40 [.ptr z.k.s 0])], SH h z.k g who (lensL g) z.R z.T⟩) (fun z => g.owner.length - z.x) ⟨k, R, T, 0⟩ ⟨N, Nat.zero_le _, hP, fun v _ h => absurd h (Nat.not_lt_zero _)⟩ (GStep.eq (by simp) (subH.refl _)) ?_
              clear N hP k R T x
              rintro ⟨k, R, T, x⟩ ⟨N, hx, hP⟩
              simp only at N hx hP ⊢
              have hlen := hP.1.1.len
              have hlR := hP.1.1.lenR
              refine AW.seq fun _ k3 => AW.region [] Θ_ok ?_
              simp
              refine k3 _ ?_
              by_cases hlt : x < g.owner.length
              · have inc := wrap_succ (show x < 9223372036854775807 by omega)
                obtain ⟨q1, q2⟩ := ph2_step hm hp hlt hP
                have sg := at_give N g who (lensL g) R T x 1 hlR hlt (by omega)
                refine AW.seq fun _ k3 => AW.cond true (by simp [Int.natCast_inj, hlt]) (fun _ => ?_) (fun h => by cases h)
                refine AW.skip ?_
                simp
                refine k3 _ ?_
                refine AW.seq fun _ k3 => ?_
                refine AW.block ?_
                refine AW.seq fun _ k4 => AW.region [] Θ_ok ?_
                simp [hlt]
                refine k4 _ ?_
                refine AW.seq fun _ k4 => AW.region [] Θ_ok ?_
                simp
                refine k4 _ ?_
                cases hb : deadP g (1 - who) x
                · refine AW.cond false (by simp [Int.natCast_inj, hb]) (fun h => by cases h) (fun _ => ?_)
                  refine AW.skip ?_
                  simp
                  refine k3 _ ?_
                  refine AW.region [] Θ_ok ?_
                  simp
                  exact ⟨⟨k, R, T, x + 1⟩, ⟨N, by simp only; omega, q2 hb⟩, by simp only; omega, GStep.eq (by simp [inc]) (subH.refl _)⟩
                · refine AW.cond true (by simp [Int.natCast_inj, hb]) (fun _ => ?_) (fun h => by cases h)
                  refine AW.region [] Θ_ok ?_
                  simp
                  refine sg.mono ?_
                  rintro r h' ⟨k', N', hs', rfl⟩
                  refine k3 _ ?_
                  refine AW.region [] Θ_ok ?_
                  simp
                  exact ⟨⟨k', _, _, x + 1⟩, ⟨N', by simp only; omega, q1 hb⟩, by simp only; omega, GStep.eq (by simp [inc, hs']) (subH.refl _)⟩
              · obtain rfl : x = g.owner.length := by omega
                refine AW.seq fun _ k3 => AW.cond false (by simp [Int.natCast_inj]) (fun h => by cases h) (fun _ => ?_)
                refine AW.exit ?_
                simp
                exact k1 _ ⟨k, R, T, 0⟩ ⟨N, hP⟩ (GStep.eq (by simp) (subH.refl _))
            · clear N hP
              rintro ⟨k, R, T, x⟩ ⟨N, hP⟩
              simp only at N hP ⊢
              have sB := graph_Before g hf
              rw [befA, if_pos hm] at sB
              have lB := befL_len g
              have gB := fun a (h : a < (befL g).length) => befL_get g h
              generalize befL g = BL at *
              refine AW.seq fun _ k1 => AW.regionAt 2 [] Θ_ok fun B hB => ?_
              simp
              refine sB.use (by simp [G.av]) ?_
              refine hB _ ?_
              clear hB B
              simp
              refine k1 _ ?_
              refine AW.seq fun _ k1 => ?_
              refine AW.block ?_
              refine AW.loopI (X := SO) (fun z => SNok h z.k ∧ InO g who s z.P z.L z.R z.T) (fun z => ⟨147, [(8, .ptr z.k.s 0), (9, .bnd 40 [.ptr z.k.s 0]), (15, .ro true (rows BL))], SH h z.k g who z.L z.R z.T⟩) (fun z => (List.range g.owner.length).countP fun w => !z.P w) ⟨k, fun _ => false, lensL g, R, T⟩ ⟨N, ino_zero hm hp hP⟩ (GStep.eq (by simp) (subH.refl _)) ?_
              clear N hP k R T x
              rintro ⟨k, P, L, R, T⟩ ⟨N, hI⟩
              simp only at N hI ⊢
              have hS := SH.s N g who L R T
              have hlenT : T.length ≤ g.owner.length := by obtain ⟨_, _, I, _⟩ := hI; exact I.len
              refine AW.seq fun _ k2 => ?_
              by_cases hT : 0 < T.length
              · have hT' : (0 : Int) < (T.length : Int) := by omega
                have hne : ¬ T = [] := by rintro rfl; simp at hT
                refine AW.seq fun _ k3 => AW.region [] Θ_ok ?_
                simp [hS, hT, hT', hne]
                refine k3 _ ?_
                refine AW.cond true (by simp [Int.natCast_inj, hT, hT', hne]) (fun _ => ?_) (fun h => by cases h)
                refine AW.skip ?_
                simp
                refine k2 _ ?_
                refine AW.block ?_
                refine AW.seq fun _ k3 => AW.regionAt 5 [16] Θ_ok fun B hB => ?_
                simp
                refine (heap_Pop N g who L R T hT (by omega)).mono ?_
                rintro r h' ⟨rfl, rfl⟩
                refine hB _ ?_
                clear hB B
                simp [prV, newA]
                intro n16 hn16
                refine k3 _ ?_
                refine AW.box 16 (o := n16) rfl (upd_same _ _ _) ?_
                simp only [upd_upd, upd_none_id hn16]
                have hE := ine_zero hI hT
                clear hn16 hS hI
                generalize (popV T).1 = a at *
                generalize (popV T).2 = c at *
                generalize popL T = T0 at *
                have ha := hE.2.2.1
                have hPa := hE.2.2.2.1
                have hc := rank_le hE.2.2.2.2
                have haB : a < BL.length := by omega
                have gBa := gB a haB
                refine AW.seq fun _ k3 => AW.region [] Θ_ok ?_
                simp [haB, gBa]
                refine k3 _ ?_
                have hlB : (bef g a).length ≤ 3000 := by
                  have : (bef g a).length ≤ g.next.length := by
                    unfold bef
                    rw [List.length_map]
                    exact Nat.le_trans (List.length_filter_le _ _) (by simp)
                  omega
                refine AW.block ?_
                refine AW.loopI (X := SI) (fun z => SNok h z.k ∧ z.y ≤ (bef g a).length ∧ InE g who s P c a z.y z.L z.R z.T) (fun z => ⟨147, [(8, .ptr z.k.s 0), (9, .bnd 40 [.ptr z.k.s 0]), (15, .ro true (rows BL)), (16, .rop [.int .i64 a, .int .i64 c]), (127, .ro false (ints (bef g a))), (128, .int .i64 (bef g a).length), (129, .int .i64 z.y)], SH h z.k g who z.L z.R z.T⟩) (fun z => (bef g a).length - z.y) ⟨k, L, R, T0, 0⟩ ⟨N, Nat.zero_le _, hE⟩ (GStep.eq (by simp) (subH.refl _)) ?_
                clear N hE k L R hlenT hT hT' hne T0
                rintro ⟨k, L, R, T, y⟩ ⟨N, hy, hE⟩
                simp only at N hy hE ⊢
                have hlenT := hE.1.len
                have hlL := hE.1.lenL
                have hlR := hE.1.lenR
                refine AW.seq fun _ k3 => AW.region [] Θ_ok ?_
                simp
                refine k3 _ ?_
                by_cases hlt : y < (bef g a).length
                · have inc := wrap_succ (show y < 9223372036854775807 by omega)
                  obtain ⟨v, hv, hvn, x0, x1, q1, q2⟩ := ine_step hm hE hlt
                  have hvL : v < L.length := by omega
                  have eL : L[v] = L.getD v 0 := by simp [hvL]
                  have eo : g.owner[v]? = some (ow g v) := by simp [ow, hvn]
                  obtain ⟨z, hz⟩ : ∃ z, z = L.getD v 0 - 1 := ⟨_, rfl⟩
                  have sf := at_forced N g who L R T v (L.getD v 0) z (ow g v) hlL hvL eL hz.symm eo x0 (by omega)
                  have sg := fun (L : List Int) => at_give N g who L R T v (c + 1) hlR hvn (by omega)
                  have w1 := wrap_succ (show c < 9223372036854775807 by omega)
                  rw [← hz] at q1 q2
                  generalize L.set v z = L' at *
                  have sg := sg L'
                  generalize hb : (decide (ow g v = who) || decide (z = 0)) = b at sf
                  clear sB gB
                  refine AW.seq fun _ k3 => AW.cond true (by simp [Int.natCast_inj, hlt]) (fun _ => ?_) (fun h => by cases h)
                  refine AW.skip ?_
                  simp
                  refine k3 _ ?_
                  refine AW.seq fun _ k3 => ?_
                  refine AW.block ?_
                  refine AW.seq fun _ k4 => AW.region [] Θ_ok ?_
                  simp [hlt, hv]
                  refine k4 _ ?_
                  refine AW.seq fun _ k4 => AW.regionAt 3 [] Θ_ok fun B hB => ?_
                  simp
                  refine sf.mono ?_
                  rintro r h' ⟨rfl, rfl⟩
                  refine hB _ ?_
                  clear hB B
                  simp
                  refine k4 _ ?_
                  by_cases hc2 : ow g v = who ∨ z = 0
                  · have hb' : b = true := by rw [← hb]; simpa using hc2
                    subst hb'
                    refine AW.cond true (by simp [Int.natCast_inj]) (fun _ => ?_) (fun h => by cases h)
                    refine AW.regionAt 6 [] Θ_ok fun B hB => ?_
                    simp [w1]
                    refine sg.mono ?_
                    rintro r h' ⟨k', N', hs', rfl⟩
                    refine hB _ ?_
                    clear hB B
                    simp
                    refine k3 _ ?_
                    refine AW.region [] Θ_ok ?_
                    simp
                    exact ⟨⟨k', L', _, _, y + 1⟩, ⟨N', by simp only; omega, q1 hc2⟩, by simp only; omega, GStep.eq (by simp [inc, hs']) (subH.refl _)⟩
                  · have hb' : b = false := by rw [← hb]; simpa using hc2
                    subst hb'
                    refine AW.cond false (by simp [Int.natCast_inj]) (fun h => by cases h) (fun _ => ?_)
                    refine AW.skip ?_
                    simp
                    refine k3 _ ?_
                    refine AW.region [] Θ_ok ?_
                    simp
                    exact ⟨⟨k, L', R, T, y + 1⟩, ⟨N, by simp only; omega, q2 hc2⟩, by simp only; omega, GStep.eq (by simp [inc]) (subH.refl _)⟩
                · obtain rfl : y = (bef g a).length := by omega
                  refine AW.seq fun _ k3 => AW.cond false (by simp [Int.natCast_inj]) (fun h => by cases h) (fun _ => ?_)
                  refine AW.exit ?_
                  simp
                  refine ⟨⟨k, fun w => P w || w == a, L, R, T⟩, ⟨N, ine_done hm hE⟩, ?_, GStep.eq (by simp) (subH.refl _)⟩
                  exact countN_but (x := a) (List.mem_range.2 ha) (by simp [hPa]) (by simp) (fun w _ hw => by
                    simp only [Bool.not_eq_true', Bool.or_eq_false_iff] at hw
                    simp [hw.1])
              · have hT' : ¬ (0 : Int) < (T.length : Int) := by omega
                have hne : T = [] := List.eq_nil_of_length_eq_zero (by omega)
                subst hne
                refine AW.seq fun _ k3 => AW.region [] Θ_ok ?_
                simp [hS]
                refine k3 _ ?_
                refine AW.cond false (by simp [Int.natCast_inj]) (fun h => by cases h) (fun _ => ?_)
                refine AW.exit ?_
                simp
                refine k1 _ ?_
                refine AW.seq fun _ kr => AW.region [] Θ_ok ?_
                simp [hS]
                refine kr _ (AW.ret ?_)
                simp [Try.f16]
                have hr := ino_fin hm hI
                have hRl : R.length = g.owner.length := by obtain ⟨_, _, I, _⟩ := hI; exact I.lenR
                refine Fin.freeze (k := true) (SH.r N g who L R []) (fun _ => rfl) rfl (by simp [hRl]) (by
                  intro u hu
                  obtain ⟨z, _, rfl⟩ := List.mem_map.1 hu
                  rfl) h ?_ ⟨by rw [hfin, ← hr]; rfl, rfl⟩
                intro o x hx
                have hne : o ≠ k.r := by
                  rintro rfl
                  rw [N.free k.r (by simp)] at hx; cases hx
                rw [upd_ne _ _ hne]
                exact HL.sub (l := SHl k g who L R []) N o x hx
    · have hok : ¬ (mayE g = 0 ∧ (who = 0 ∨ who = 1)) := fun h => hp h.2
      have hw1 : ¬ who = 0 := fun h => hp (.inl h)
      have hw2 : ¬ who = 1 := fun h => hp (.inr h)
      refine AW.seq fun _ k1 => ?_
      refine AW.seq fun _ k2 => AW.region [] Θ_ok ?_
      simp
      refine (graph_May g hf).use (by simp [G.av]) ?_
      try simp [hm, hw1, hw2]
      refine k2 _ ?_
      refine AW.cond true (by simp [Int.natCast_inj, hw1, hw2]) (fun _ => ?_) (fun h => by cases h)
      refine AW.seq fun _ kr => AW.region [] Θ_ok ?_
      simp
      refine kr _ (AW.ret ?_)
      simp [Try.f16]
      exact Fin.refl ⟨by simp [ranksA, hok], rfl⟩
  · have hok : ¬ (mayE g = 0 ∧ (who = 0 ∨ who = 1)) := fun h => hm h.1
    refine AW.seq fun _ k1 => ?_
    refine AW.seq fun _ k2 => AW.region [] Θ_ok ?_
    simp
    refine (graph_May g hf).use (by simp [G.av]) ?_
    try simp [hm]
    refine k2 _ ?_
    refine AW.cond true (by simp [Int.natCast_inj]) (fun _ => ?_) (fun h => by cases h)
    refine AW.seq fun _ kr => AW.region [] Θ_ok ?_
    simp
    refine kr _ (AW.ret ?_)
    simp [Try.f16]
    exact Fin.refl ⟨by simp [ranksA, hok], rfl⟩
end Go.Par
