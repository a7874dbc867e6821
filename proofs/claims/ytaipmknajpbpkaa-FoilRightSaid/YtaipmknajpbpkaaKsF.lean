/- parryref9: meets, Fair, Unfair. -/
import Derived.Test.YtaipmknajpbpkaaKsE
set_option linter.unusedSimpArgs false
set_option linter.unusedVariables false
set_option maxRecDepth 8000
set_option maxHeartbeats 4000000
namespace Go.Par
open Go.Proofs

/-- Is there a circle within, that meets each row? -/
def MeetsP (next : List (List Int)) (from_ in_ : List Bool) (rs : List (List Bool)) : Prop :=
  ∃ v, Way (kE next) (kS next (r9andL (reachL (nG next) from_) in_)) v v ∧ ∀ r ∈ rs, ∃ w, hasN r w = true ∧ Same (kE next) (kS next (r9andL (reachL (nG next) from_) in_)) w v
open Classical in
noncomputable def meetsB (next : List (List Int)) (from_ in_ : List Bool) (rs : List (List Bool)) : Bool := decide (MeetsP next from_ in_ rs)

def anyW (C : List Int) (r : List Bool) (v y : Nat) : Bool := (List.range y).any fun w => C.getD w 0 == (v : Int) && hasN r w
def okR (C : List Int) (rs : List (List Bool)) (v n y : Nat) : Bool := (rs.take y).all fun r => anyW C r v n
theorem anyW_zero (C : List Int) (r : List Bool) (v : Nat) : anyW C r v 0 = false := rfl
theorem anyW_step (C : List Int) (r : List Bool) (v y : Nat) : anyW C r v (y + 1) = (anyW C r v y || (C.getD y 0 == (v : Int) && hasN r y)) := by simp [anyW, List.range_succ]
theorem anyW_iff (C : List Int) (r : List Bool) (v n : Nat) : anyW C r v n = true ↔ ∃ w, w < n ∧ C.getD w 0 = (v : Int) ∧ hasN r w = true := by simp [anyW]
theorem okR_zero (C : List Int) (rs : List (List Bool)) (v n : Nat) : okR C rs v n 0 = true := rfl
theorem okR_step (C : List Int) (rs : List (List Bool)) (v n : Nat) {y : Nat} (hy : y < rs.length) : okR C rs v n (y + 1) = (okR C rs v n y && anyW C rs[y] v n) := by
  simp only [okR]
  rw [List.take_succ_eq_append_getElem hy, List.all_append]; simp
theorem okR_iff (C : List Int) (rs : List (List Bool)) (v n : Nat) : okR C rs v n rs.length = true ↔ ∀ r ∈ rs, ∃ w, w < n ∧ C.getD w 0 = (v : Int) ∧ hasN r w = true := by
  simp only [okR, List.take_length, List.all_eq_true, anyW_iff]
theorem meets_iff {E : Nat → Nat → Prop} {S : Nat → Prop} {n : Nat} {C : List Int} (hC : CirOk E S n C) (hn : ∀ u, S u → u < n) (rs : List (List Bool)) :
    (∃ v, Way E S v v ∧ ∀ r ∈ rs, ∃ w, hasN r w = true ∧ Same E S w v) ↔ ∃ v, v < n ∧ C.getD v 0 = (v : Int) ∧ okR C rs v n rs.length = true := by
  have gd : ∀ {w : Nat} {z : Int}, C[w]? = some z → C.getD w 0 = z := fun h => by rw [List.getD_eq_getElem?_getD, h]; rfl
  have low : ∀ {w v : Nat}, w < n → C.getD w 0 = (v : Int) → Way E S w w ∧ Same E S w v := fun {w v} hw h => by
    by_cases q : Way E S w w
    · obtain ⟨r, h1, h2, h3, _⟩ := hC.yes w q
      rw [gd h1] at h
      have : r = v := by omega
      subst this; exact ⟨q, h3⟩
    · have := hC.no w hw q
      rw [gd this] at h; omega
  constructor
  · rintro ⟨v, hv, hr⟩
    obtain ⟨r, h1, h2, h3, h4⟩ := hC.yes v hv
    refine ⟨r, hn r h2, gd (h4 r h3), (okR_iff _ _ _ _).2 fun row hrow => ?_⟩
    obtain ⟨w, g1, g2⟩ := hr row hrow
    have hw : C[w]? = some (r : Int) := h4 w g2.symm
    have hlt : w < n := by
      have := (List.getElem?_eq_some_iff.1 hw).1
      rw [hC.len] at this; exact this
    exact ⟨w, hlt, gd hw, g1⟩
  · rintro ⟨v, hv, hc, hr⟩
    refine ⟨v, (low hv hc).1, fun row hrow => ?_⟩
    obtain ⟨w, g0, g1, g2⟩ := (okR_iff _ _ _ _).1 hr row hrow
    exact ⟨w, g2, (low g0 g1).2⟩

def noG (C : List Int) (rs : List (List Bool)) (n x : Nat) : Prop := ∀ v, v < x → ¬ (C.getD v 0 = (v : Int) ∧ okR C rs v n rs.length = true)

theorem r9_meets (next : List (List Int)) (ok : BigOk next) (from_ in_ : List Bool) (rs : List (List Bool)) (hrs : rs.length ≤ 17592186044416) : Pure Try.prog 52 [.ro false (rows next), .ro false (bools from_), .ro false (bools in_), .ro false (bools2 rs)] (.bool (meetsB next from_ in_ rs)) := by
  have hl := ok.len
  have sR := r9_reach next ok.ok from_
  have lRe : (reachL (nG next) from_).length = next.length := by simp [reachL]
  have sN := r9_and (reachL (nG next) from_) in_ (by omega)
  have sC := r9_circles next ok (r9andL (reachL (nG next) from_) in_)
  have lS : ∀ u, kS next (r9andL (reachL (nG next) from_) in_) u → u < next.length := fun u hu => hu.1
  obtain ⟨S, hS⟩ : ∃ S, S = kS next (r9andL (reachL (nG next) from_) in_) := ⟨_, rfl⟩
  have hM : MeetsP next from_ in_ rs ↔ ∃ v, Way (kE next) S v v ∧ ∀ r ∈ rs, ∃ w, hasN r w = true ∧ Same (kE next) S w v := by rw [hS]; rfl
  rw [← hS] at sC lS
  clear hS
  generalize r9andL (reachL (nG next) from_) in_ = AN at *
  generalize reachL (nG next) from_ = RE at *
  obtain ⟨all, hall⟩ : ∃ all, all = tab next.length fun _ => true := ⟨_, rfl⟩
  rw [← hall] at sR
  intro h
  refine AC.body Θ_ok Try.func52 rfl rfl (Nat.le_of_ble_eq_true rfl) ?_
  refine AW.seq fun _ k1 => AW.region [] Θ_ok ?_
  simp
  refine k1 _ ?_
  refine AW.seq fun _ k1 => AW.region [23] Θ_ok ?_
  simp
  refine ⟨by omega, fun o ho => k1 _ ?_⟩
  rw [replicate_tab, flat_tab (fun _ _ => rfl)]
  refine AW.seqTo ⟨84, [(0, .ro false (rows next)), (1, .ro false (bools from_)), (2, .ro false (bools in_)), (3, .ro false (bools2 rs)), (9, .ro true (bools all))], h⟩ (fun _ k1 => ?_) ?_
  · refine AW.seq fun _ k2 => AW.region [] Θ_ok ?_
    simp
    refine k2 _ ?_
    refine AW.block ?_
    refine AW.loopI (X := Nat) (fun x => x ≤ next.length) (fun x => ⟨84, [(0, .ro false (rows next)), (1, .ro false (bools from_)), (2, .ro false (bools in_)), (3, .ro false (bools2 rs)), (9, .mu o next.length), (25, .int .i64 next.length), (26, .int .i64 x)], upd h o (some ⟨tab next.length fun i => .bool (decide (i < x)), 4, 1, true⟩)⟩) (fun x => next.length - x) 0 (Nat.zero_le _) (GStep.eq (by simp) ?_) fun x hx => ?_
    · simp; exact subH.refl _
    refine AW.seq fun _ k2 => AW.region [] Θ_ok ?_
    simp
    refine k2 _ ?_
    by_cases hlt : x < next.length
    · have inc := wrap_succ (show x < 9223372036854775807 by omega)
      have hset : (tab next.length fun i => AV.bool (decide (i < x))).set x (.bool true) = tab next.length fun i => .bool (decide (i < x + 1)) := by
        rw [set_tab]
        refine tab_congr fun i hi => ?_
        by_cases e : i = x
        · subst e; simp
        · by_cases h1 : i < x
          · simp [e, h1, show i < x + 1 by omega]
          · simp [e, h1, show ¬ i < x + 1 by omega]
      refine AW.seq fun _ k2 => AW.cond true (by simp [Int.natCast_inj, hlt]) (fun _ => ?_) (fun h => by cases h)
      refine AW.skip ?_
      simp
      refine k2 _ ?_
      refine AW.seq fun _ k2 => ?_
      refine AW.block ?_
      refine AW.seq fun _ k3 => AW.region [] Θ_ok ?_
      simp
      refine k3 _ ?_
      refine AW.region [] Θ_ok ?_
      simp [hlt]
      refine ⟨by omega, k2 _ ?_⟩
      refine AW.region [] Θ_ok ?_
      simp
      exact ⟨x + 1, by omega, by omega, GStep.eq (by simp [inc]) (subH_of_eq (congrArg (fun c => upd h o (some ⟨c, 4, 1, true⟩)) hset))⟩
    obtain rfl : x = next.length := by omega
    refine AW.seq fun _ k2 => AW.cond false (by simp [Int.natCast_inj]) (fun h => by cases h) (fun _ => ?_)
    refine AW.exit ?_
    simp
    have ea : (tab next.length fun i => AV.bool (decide (i < next.length))) = bools all := by
      rw [hall]; simp only [bools, map_tab]; exact tab_congr fun i hi => by simp [hi]
    rw [ea]
    refine k1 _ (GStep.trans (GStep.freeze (t := 9) (n := next.length) (k := true) (by simp) (upd_same _ _ _) (fun _ => rfl) rfl (by simp [hall]) (fun u hu => by obtain ⟨z, _, rfl⟩ := List.mem_map.1 hu; rfl)) (GStep.eq (by simp) ?_))
    simp only
    rw [upd_upd, upd_none_id ho]; exact subH.refl _
  clear hall ho o
  refine AW.seq fun _ k1 => AW.region [] Θ_ok ?_
  simp
  refine sR.use (by simp) ?_
  refine k1 _ ?_
  refine AW.seq fun _ k1 => AW.regionAt 4 [] Θ_ok fun B hB => ?_
  simp
  refine sN.use (by simp) ?_
  refine hB _ ?_
  clear hB
  simp
  refine ((sC h).wk (by simp)).mono fun r h' hq => ?_
  obtain ⟨C, rfl, hC, rfl⟩ := hq
  refine k1 _ ?_
  have lC := hC.len
  have hiff := hM.trans (meets_iff hC lS rs)
  refine AW.seq fun _ k1 => ?_
  refine AW.seq fun _ k2 => AW.region [] Θ_ok ?_
  simp [lC]
  refine k2 _ ?_
  refine AW.block ?_
  refine AW.loopI (X := Nat) (fun x => x ≤ next.length ∧ noG C rs next.length x) (fun x => ⟨84, [(3, .ro false (bools2 rs)), (12, .ro true (ints C)), (42, .ro true (ints C)), (43, .int .i64 next.length), (44, .int .i64 x)], h'⟩) (fun x => next.length - x) 0 ⟨Nat.zero_le _, fun v hv => absurd hv (Nat.not_lt_zero _)⟩ (GStep.eq (by simp) (subH.refl _)) fun x hx => ?_
  obtain ⟨hx, hno⟩ := hx
  refine AW.seq fun _ k2 => AW.region [] Θ_ok ?_
  simp
  refine k2 _ ?_
  by_cases hlt : x < next.length
  · have inc := wrap_succ (show x < 9223372036854775807 by omega)
    have hxC : x < C.length := by omega
    have hgx : C.getD x 0 = C[x] := by simp [hxC]
    have adv : ¬ (C.getD x 0 = (x : Int) ∧ okR C rs x next.length rs.length = true) → noG C rs next.length (x + 1) := fun q v hv => by
      by_cases e : v = x
      · subst e; exact q
      · exact hno v (by omega)
    refine AW.seq fun _ k2 => AW.cond true (by simp [Int.natCast_inj, hlt]) (fun _ => ?_) (fun h => by cases h)
    refine AW.skip ?_
    simp
    refine k2 _ ?_
    refine AW.seq fun _ k2 => ?_
    refine AW.block ?_
    refine AW.seq fun _ k3 => AW.region [] Θ_ok ?_
    simp [hxC]
    refine k3 _ ?_
    refine AW.seq fun _ k3 => ?_
    by_cases hc : C[x] = (x : Int)
    · refine AW.seq fun _ k4 => AW.region [] Θ_ok ?_
      simp [hc]
      refine k4 _ ?_
      refine AW.cond false (by simp [Int.natCast_inj]) (fun h => by cases h) (fun _ => ?_)
      refine AW.skip ?_
      simp
      refine k3 _ ?_
      refine AW.seq fun _ k3 => AW.region [] Θ_ok ?_
      simp
      refine k3 _ ?_
      refine AW.seqTo ⟨84, [(3, .ro false (bools2 rs)), (12, .ro true (ints C)), (13, .int .i64 x), (15, .bool (okR C rs x next.length rs.length)), (42, .ro true (ints C)), (43, .int .i64 next.length), (44, .int .i64 x)], h'⟩ (fun _ k4 => ?_) ?_
      · refine AW.seq fun _ k5 => AW.region [] Θ_ok ?_
        simp
        refine k5 _ ?_
        refine AW.block ?_
        refine AW.loopI (X := Nat) (fun y => y ≤ rs.length) (fun y => ⟨84, [(3, .ro false (bools2 rs)), (12, .ro true (ints C)), (13, .int .i64 x), (15, .bool (okR C rs x next.length y)), (42, .ro true (ints C)), (43, .int .i64 next.length), (44, .int .i64 x), (52, .ro false (bools2 rs)), (53, .int .i64 rs.length), (54, .int .i64 y)], h'⟩) (fun y => rs.length - y) 0 (Nat.zero_le _) (GStep.eq (by simp [okR_zero]) (subH.refl _)) fun y hy => ?_
        refine AW.seq fun _ k5 => AW.region [] Θ_ok ?_
        simp
        refine k5 _ ?_
        by_cases hly : y < rs.length
        · have incy := wrap_succ (show y < 9223372036854775807 by omega)
          have st := okR_step C rs x next.length hly
          generalize okR C rs x next.length y = oky at st ⊢
          refine AW.seq fun _ k5 => AW.cond true (by simp [Int.natCast_inj, hly]) (fun _ => ?_) (fun h => by cases h)
          refine AW.skip ?_
          simp
          refine k5 _ ?_
          refine AW.seq fun _ k5 => ?_
          refine AW.block ?_
          refine AW.seq fun _ k6 => AW.region [] Θ_ok ?_
          simp [hly]
          refine k6 _ ?_
          refine AW.seq fun _ k6 => AW.region [] Θ_ok ?_
          simp
          refine k6 _ ?_
          generalize rs[y] = rw_ at st ⊢
          refine AW.seqTo ⟨84, [(3, .ro false (bools2 rs)), (12, .ro true (ints C)), (13, .int .i64 x), (15, .bool oky), (18, .bool (anyW C rw_ x next.length)), (42, .ro true (ints C)), (43, .int .i64 next.length), (44, .int .i64 x), (52, .ro false (bools2 rs)), (53, .int .i64 rs.length), (54, .int .i64 y)], h'⟩ (fun _ k7 => ?_) ?_
          · refine AW.seq fun _ k8 => AW.region [] Θ_ok ?_
            simp [lC]
            refine k8 _ ?_
            refine AW.block ?_
            refine AW.loopI (X := Nat) (fun z => z ≤ next.length) (fun z => ⟨84, [(3, .ro false (bools2 rs)), (12, .ro true (ints C)), (13, .int .i64 x), (15, .bool oky), (17, .ro false (bools rw_)), (18, .bool (anyW C rw_ x z)), (42, .ro true (ints C)), (43, .int .i64 next.length), (44, .int .i64 x), (52, .ro false (bools2 rs)), (53, .int .i64 rs.length), (54, .int .i64 y), (58, .ro true (ints C)), (59, .int .i64 next.length), (60, .int .i64 z)], h'⟩) (fun z => next.length - z) 0 (Nat.zero_le _) (GStep.eq (by simp [anyW_zero]) (subH.refl _)) fun z hz => ?_
            refine AW.seq fun _ k8 => AW.region [] Θ_ok ?_
            simp
            refine k8 _ ?_
            by_cases hlz : z < next.length
            · have incz := wrap_succ (show z < 9223372036854775807 by omega)
              have hzC : z < C.length := by omega
              have sH := has_r9 rw_ z
              have sz := anyW_step C rw_ x z
              have hgz : C.getD z 0 = C[z] := by simp [hzC]
              rw [hgz] at sz
              generalize hasN rw_ z = hz' at sH sz
              generalize anyW C rw_ x z = az at sz ⊢
              refine AW.seq fun _ k8 => AW.cond true (by simp [Int.natCast_inj, hlz]) (fun _ => ?_) (fun h => by cases h)
              refine AW.skip ?_
              simp
              refine k8 _ ?_
              refine AW.seq fun _ k8 => ?_
              refine AW.block ?_
              refine AW.seq fun _ k9 => AW.region [] Θ_ok ?_
              simp [hzC]
              refine k9 _ ?_
              cases az with
              | true =>
                rw [Bool.true_or] at sz
                refine AW.region [] Θ_ok ?_
                simp
                refine k8 _ ?_
                refine AW.region [] Θ_ok ?_
                simp
                exact ⟨z + 1, hlz, by omega, GStep.eq (by simp [incz, sz]) (subH.refl _)⟩
              | false =>
                rw [Bool.false_or] at sz
                by_cases hcz : C[z] = (x : Int)
                · have e : (C[z] == (x : Int)) = true := by simpa using hcz
                  rw [e, Bool.true_and] at sz
                  refine AW.regionAt 9 [] Θ_ok fun B hB => ?_
                  simp [hcz]
                  refine sH.use (by simp) ?_
                  refine hB _ ?_
                  clear hB
                  simp
                  refine k8 _ ?_
                  refine AW.region [] Θ_ok ?_
                  simp
                  exact ⟨z + 1, hlz, by omega, GStep.eq (by simp [incz, sz]) (subH.refl _)⟩
                · have e : (C[z] == (x : Int)) = false := by simpa using hcz
                  rw [e, Bool.false_and] at sz
                  refine AW.region [] Θ_ok ?_
                  simp [hcz]
                  refine k8 _ ?_
                  refine AW.region [] Θ_ok ?_
                  simp
                  exact ⟨z + 1, hlz, by omega, GStep.eq (by simp [incz, sz]) (subH.refl _)⟩
            · obtain rfl : z = next.length := by omega
              refine AW.seq fun _ k8 => AW.cond false (by simp [Int.natCast_inj]) (fun h => by cases h) (fun _ => ?_)
              refine AW.exit ?_
              simp
              exact k7 _ (GStep.eq (by simp) (subH.refl _))
          · cases oky with
            | true =>
              rw [Bool.true_and] at st
              refine AW.region [] Θ_ok ?_
              simp
              refine k5 _ ?_
              refine AW.region [] Θ_ok ?_
              simp
              exact ⟨y + 1, hly, by omega, GStep.eq (by simp [incy, st]) (subH.refl _)⟩
            | false =>
              rw [Bool.false_and] at st
              refine AW.region [] Θ_ok ?_
              simp
              refine k5 _ ?_
              refine AW.region [] Θ_ok ?_
              simp
              exact ⟨y + 1, hly, by omega, GStep.eq (by simp [incy, st]) (subH.refl _)⟩
        · obtain rfl : y = rs.length := by omega
          refine AW.seq fun _ k5 => AW.cond false (by simp [Int.natCast_inj]) (fun h => by cases h) (fun _ => ?_)
          refine AW.exit ?_
          simp
          exact k4 _ (GStep.eq (by simp) (subH.refl _))
      refine AW.seq fun _ k3 => AW.region [] Θ_ok ?_
      simp
      refine k3 _ ?_
      cases hok : okR C rs x next.length rs.length with
      | true =>
        refine AW.cond true (by simp [Int.natCast_inj]) (fun _ => ?_) (fun h => by cases h)
        refine AW.seq fun _ kr => AW.region [] Θ_ok ?_
        simp
        refine kr _ (AW.ret ?_)
        simp [Try.f52]
        refine Fin.refl ⟨?_, rfl⟩
        have : MeetsP next from_ in_ rs := hiff.2 ⟨x, hlt, by rw [hgx]; exact hc, hok⟩
        simp [meetsB, this]
      | false =>
        refine AW.cond false (by simp [Int.natCast_inj]) (fun h => by cases h) (fun _ => ?_)
        refine AW.skip ?_
        simp
        refine k2 _ ?_
        refine AW.region [] Θ_ok ?_
        simp
        exact ⟨x + 1, ⟨hlt, adv fun q => by rw [hok] at q; cases q.2⟩, by omega, GStep.eq (by simp [inc]) (subH.refl _)⟩
    · refine AW.seq fun _ k4 => AW.region [] Θ_ok ?_
      simp [hc]
      refine k4 _ ?_
      refine AW.cond true (by simp [Int.natCast_inj, hc]) (fun _ => ?_) (fun h => by cases h)
      refine AW.exit ?_
      simp
      refine k2 _ ?_
      refine AW.region [] Θ_ok ?_
      simp
      exact ⟨x + 1, ⟨hlt, adv fun q => hc (by rw [← hgx]; exact q.1)⟩, by omega, GStep.eq (by simp [inc]) (subH.refl _)⟩
  · obtain rfl : x = next.length := by omega
    refine AW.seq fun _ k2 => AW.cond false (by simp [Int.natCast_inj]) (fun h => by cases h) (fun _ => ?_)
    refine AW.exit ?_
    simp
    refine k1 _ ?_
    refine AW.seq fun _ kr => AW.region [] Θ_ok ?_
    simp
    refine kr _ (AW.ret ?_)
    simp [Try.f52]
    refine Fin.refl ⟨?_, rfl⟩
    have : ¬ MeetsP next from_ in_ rs := fun q => by
      obtain ⟨v, h1, h2, h3⟩ := hiff.1 q
      exact hno v h1 ⟨h2, h3⟩
    simp [meetsB, this]
end Go.Par
