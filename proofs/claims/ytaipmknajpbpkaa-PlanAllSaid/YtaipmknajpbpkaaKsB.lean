/- parryref9.reach. -/
import Derived.Test.YtaipmknajpbpkaaFgB
import Derived.Test.YtaipmknajpbpkaaFgA
import Derived.Test.YtaipmknajpbpkaaAgA
set_option linter.unusedSimpArgs false
set_option linter.unusedVariables false
set_option maxRecDepth 8000
set_option maxHeartbeats 2000000
namespace Go.Par
open Go.Proofs

def nG (next : List (List Int)) : G := ⟨List.replicate next.length 0, next⟩
@[simp] theorem nG_len (next : List (List Int)) : (nG next).owner.length = next.length := by simp [nG]
@[simp] theorem nG_next (next : List (List Int)) : (nG next).next = next := rfl
structure NextOk (next : List (List Int)) : Prop where
  len : next.length ≤ 12000
  row : ∀ l ∈ next, l.length ≤ 17592186044416
  lt : ∀ l ∈ next, ∀ w ∈ l, 0 ≤ w ∧ w < next.length

def obTd (l : List Int) (nn : Bool) : Ob := ⟨ints l, 3, 1, nn⟩
@[simp] theorem obTd_cells (l : List Int) (nn : Bool) : (obTd l nn).cells = ints l := rfl
@[simp] theorem obTd_ty (l : List Int) (nn : Bool) : (obTd l nn).ty = 3 := rfl
@[simp] theorem obTd_sz (l : List Int) (nn : Bool) : (obTd l nn).sz = 1 := rfl
@[simp] theorem obTd_nn (l : List Int) (nn : Bool) : (obTd l nn).nn = nn := rfl
theorem obTd_snoc (l : List Int) (w : Int) : (⟨List.take l.length (ints l) ++ [.int .i64 w], 3, 1, true⟩ : Ob) = obTd (l ++ [w]) true := by
  rw [List.take_of_length_le (by simp)]; simp [obTd]

def obBk (L : List Bool) : Ob := ⟨L.map .bool, 4, 1, true⟩
@[simp] theorem obBk_cells (L : List Bool) : (obBk L).cells = L.map .bool := rfl
@[simp] theorem obBk_ty (L : List Bool) : (obBk L).ty = 4 := rfl
@[simp] theorem obBk_sz (L : List Bool) : (obBk L).sz = 1 := rfl
@[simp] theorem obBk_nn (L : List Bool) : (obBk L).nn = true := rfl
theorem obBk_mk (L : List Bool) : (⟨L.map .bool, 4, 1, true⟩ : Ob) = obBk L := rfl
theorem mapk_set (R : List Bool) (v : Nat) (x : Bool) : (R.map AV.bool).set v (.bool x) = (R.set v x).map AV.bool := by rw [List.map_set]
theorem mapk_drop (R : List Bool) {v : Nat} (h : v < R.length) : (R.map AV.bool).drop v = .bool R[v] :: (R.map AV.bool).drop (v + 1) := by
  rw [List.drop_eq_getElem_cons (by simpa using h)]; simp

structure RK where
  o : Nat
  nn : Bool
  R : List Bool
  T : List Int
  x : Nat
def RKh (h : Heap) (a o : Nat) (nn : Bool) (R : List Bool) (T : List Int) : Heap := HL h [(o, obTd T nn), (a, obBk R)]
section
variable {h : Heap} {a o : Nat} (N : HN h [o, a]) (nn : Bool) (R : List Bool) (T : List Int)
include N
theorem RKh.go : RKh h a o nn R T o = some (obTd T nn) := HL.at (k := 0) N.nd rfl
theorem RKh.ga : RKh h a o nn R T a = some (obBk R) := HL.at (k := 1) N.nd rfl
theorem RKh.pa (R' : List Bool) : upd (RKh h a o nn R T) a (some (obBk R')) = RKh h a o nn R' T := HL.put (k := 1) N.nd rfl
theorem RKh.pt (T' : List Int) : upd (RKh h a o nn R T) o (some (obTd T' nn)) = RKh h a o nn R T' := HL.put (k := 0) N.nd rfl
theorem RKh.grow {o' : Nat} (ho : RKh h a o nn R T o' = none) (T' : List Int) : upd (upd (RKh h a o nn R T) o none) o' (some (obTd T' true)) = RKh h a o' true R T' ∧ HN h [o', a] := by
  obtain ⟨h1, h2⟩ := HL.ren (h0 := h) (A' := obTd T' true) (l := [(o, obTd T nn), (a, obBk R)]) (k := 0) N rfl ho
  exact ⟨h1, h2⟩
end

theorem has_r9 (l : List Bool) (v : Nat) : Pure Try.prog 49 [.ro false (bools l), .int .i64 v] (.bool (hasN l v)) := by
  have := r9_Has l v
  rwa [show (decide ((0 : Int) ≤ (v : Int)) && hasI l (v : Int)) = hasN l v by simp [hasI, hasN]] at this

theorem r9_reach (next : List (List Int)) (ok : NextOk next) (from_ : List Bool) : Pure Try.prog 81 [.ro false (rows next), .ro false (bools from_), .ro false (bools (tab next.length fun _ => true))] (.ro true (bools (reachL (nG next) from_))) := by
  have hl := ok.len
  obtain ⟨all, hall⟩ : ∃ all, all = tab next.length fun _ => true := ⟨_, rfl⟩
  have hA : ∀ v, v < next.length → hasN all v = true := fun v hv => by rw [hall, hasN, getD_tab, if_pos hv]
  rw [← hall]
  clear hall
  intro h
  refine AC.body Θ_ok Try.func81 rfl rfl (Nat.le_of_ble_eq_true rfl) ?_
  refine AW.seq fun _ k1 => AW.region [] Θ_ok ?_
  simp
  refine k1 _ ?_
  have b1 : (next.length : Int) ≤ 140737488355328 := by omega
  refine AW.seq fun _ k1 => AW.region [15] Θ_ok ?_
  simp [newA]
  have e1 : List.flatMap AV.flat (List.replicate next.length (AV.bool false)) = (List.replicate next.length false).map AV.bool := by
    rw [flat_ones (fun u hu => by rw [(List.mem_replicate.1 hu).2]; rfl)]; simp
  rw [e1, obBk_mk]
  refine ⟨b1, fun a ha => k1 _ ?_⟩
  clear e1 b1
  refine AW.seq fun _ k1 => AW.region [] Θ_ok ?_
  simp
  refine k1 _ ?_
  refine AW.mine 8 3 1 rfl fun o ho => ?_
  simp only at ho ⊢
  have N1 : HN h [a] := HL.new (l := []) ⟨List.nodup_nil, fun o ho => by cases ho⟩ ha
  have N0 : HN h [o, a] := HL.new (l := [(a, obBk (List.replicate next.length false))]) N1 ho
  rw [show upd (upd h a (some (obBk (List.replicate next.length false)))) o (some ⟨[], 3, 1, false⟩) = RKh h a o false (List.replicate next.length false) [] from rfl]
  clear N1 ha ho
  have I0 : RI (nG next) from_ (List.replicate next.length false) [] := by
    refine ⟨by simp, fun v hv => ?_, fun t ht => by simp at ht, by simp⟩
    simp [hasN, List.getElem?_replicate] at hv
    split at hv <;> simp at hv
  refine AW.seq fun _ k1 => ?_
  refine AW.seq fun _ k2 => AW.region [] Θ_ok ?_
  simp
  refine k2 _ ?_
  refine AW.block ?_
  refine AW.loopI (X := RK) (fun s => HN h [s.o, a] ∧ RI (nG next) from_ s.R s.T ∧ (∀ v : Nat, hasN s.R v = true → (v : Int) ∈ s.T) ∧ (∀ v, v < s.x → hasN from_ v = true → hasN s.R v = true) ∧ s.x ≤ next.length ∧ ∀ v, s.x ≤ v → hasN s.R v = false)
    (fun s => ⟨79, [(0, .ro false (rows next)), (1, .ro false (bools from_)), (2, .ro false (bools all)), (7, .mu a next.length), (8, .mu s.o s.T.length), (17, .int .i64 next.length), (18, .int .i64 s.x)], RKh h a s.o s.nn s.R s.T⟩)
    (fun s => next.length - s.x) ⟨o, false, List.replicate next.length false, [], 0⟩ ⟨N0, I0, fun v hv => ?_, fun v hv => absurd hv (Nat.not_lt_zero _), Nat.zero_le _, fun v _ => ?_⟩ (GStep.eq (by simp) (subH.refl _)) ?_
  · simp [hasN, List.getElem?_replicate] at hv
    split at hv <;> simp at hv
  · simp [hasN, List.getElem?_replicate]
    split <;> simp
  clear I0 N0
  rintro ⟨o, nn, R, T, x⟩ ⟨N, I, hT, hS, hx, hlate⟩
  simp only at N I hT hS hx hlate ⊢
  have lR : R.length = next.length := by rw [I.len]; simp
  refine AW.seq fun _ k2 => AW.region [] Θ_ok ?_
  simp
  refine k2 _ ?_
  by_cases hlt : x < next.length
  · have inc := wrap_succ (show x < 9223372036854775807 by omega)
    have hxR : x < R.length := by omega
    have sF := has_r9 from_ x
    have sA := has_r9 all x
    rw [hA x hlt] at sA
    have hbx : R[x] = false := by have := hlate x (Nat.le_refl _); simpa [hasN, hxR] using this
    refine AW.seq fun _ k2 => AW.cond true (by simp [Int.natCast_inj, hlt]) (fun _ => ?_) (fun h => by cases h)
    refine AW.skip ?_
    simp
    refine k2 _ ?_
    refine AW.seq fun _ k2 => ?_
    refine AW.block ?_
    refine AW.seq fun _ k3 => AW.region [] Θ_ok ?_
    simp
    refine k3 _ ?_
    cases hfr : hasN from_ x with
    | false =>
      rw [hfr] at sF
      refine AW.seq fun _ k3 => AW.regionAt 3 [] Θ_ok fun B hB => ?_
      simp
      refine sF.use (by simp) ?_
      refine hB _ ?_
      clear hB B
      simp
      refine k3 _ ?_
      refine AW.cond false (by simp [Int.natCast_inj]) (fun h => by cases h) (fun _ => ?_)
      refine AW.skip ?_
      simp
      refine k2 _ ?_
      refine AW.region [] Θ_ok ?_
      simp
      exact ⟨⟨o, nn, R, T, x + 1⟩, ⟨N, I, hT, fun v hv hw => by
        by_cases e : v = x
        · subst e; rw [hfr] at hw; cases hw
        · exact hS v (by simp only at hv; omega) hw, by simp only; omega, fun v hv => hlate v (by simp only at hv; omega)⟩, by simp only; omega, GStep.eq (by simp [inc]) (subH.refl _)⟩
    | true =>
      rw [hfr] at sF
      refine AW.seq fun _ k3 => AW.regionAt 3 [] Θ_ok fun B hB => ?_
      simp
      refine sF.use (by simp) ?_
      refine hB _ ?_
      clear hB B
      refine vcOps_split 4 fun B hB => ?_
      simp
      refine sA.use (by simp) ?_
      refine hB _ ?_
      clear hB B
      simp
      refine k3 _ ?_
      refine AW.cond true (by simp [Int.natCast_inj]) (fun _ => ?_) (fun h => by cases h)
      have ga := RKh.ga N nn R T
      have pa := RKh.pa N nn R T (R.set x true)
      have ms := mapk_set R x true
      have go := RKh.go N nn (R.set x true) T
      have szT := I.size
      have lT : T.length ≤ 12000 := by simp at szT; omega
      obtain ⟨R', hR'⟩ : ∃ R', R' = R.set x true := ⟨_, rfl⟩
      rw [← hR'] at go pa ms
      refine AW.seq fun _ k3 => AW.region [] Θ_ok ?_
      simp [ga, lR, hlt, ms, obBk_mk, pa]
      refine ⟨by omega, k3 _ ?_⟩
      clear pa ga ms
      refine AW.region [] Θ_ok ?_
      simp [go, appendA]
      refine ⟨rfl, ⟨by omega, by omega⟩, fun o' ho' => k2 _ ?_⟩
      obtain ⟨he, N'⟩ := RKh.grow N nn R' T ho' (T ++ [(x : Int)])
      rw [obTd_snoc, he]
      subst hR'
      refine AW.region [] Θ_ok ?_
      simp
      refine ⟨⟨o', true, R.set x true, T ++ [(x : Int)], x + 1⟩, ⟨N', I.meet hxR (.start x (by simpa using hlt) hfr) hbx, fun v hv => ?_, fun v hv hw => ?_, by simp only; omega, fun v hv => ?_⟩, by simp only; omega, GStep.eq (by simp [inc]) (subH.refl _)⟩
      · simp only at hv
        rw [hasN_set R x v hxR] at hv
        by_cases e : v = x
        · subst e; simp
        · rw [if_neg e] at hv
          exact List.mem_append.2 (.inl (hT v hv))
      · simp only at hv ⊢
        rw [hasN_set R x v hxR]
        split
        · rfl
        · exact hS v (by omega) hw
      · simp only at hv ⊢
        rw [hasN_set R x v hxR, if_neg (by omega)]
        exact hlate v (by omega)
  have hxx : x = next.length := by omega
  subst hxx
  refine AW.seq fun _ k2 => AW.cond false (by simp [Int.natCast_inj]) (fun h => by cases h) (fun _ => ?_)
  refine AW.exit ?_
  simp
  refine k1 _ ?_
  have C0 : Clo (nG next) R T fun _ => False := fun v hv _ hnt => absurd (hT v hv) hnt
  clear hT hlate
  refine AW.seq fun _ k1 => ?_
  refine AW.block ?_
  refine AW.loopI (X := RK) (fun s => HN h [s.o, a] ∧ RI (nG next) from_ s.R s.T ∧ Clo (nG next) s.R s.T (fun _ => False) ∧ (∀ v, v < next.length → hasN from_ v = true → hasN s.R v = true))
    (fun s => ⟨79, [(0, .ro false (rows next)), (2, .ro false (bools all)), (7, .mu a next.length), (8, .mu s.o s.T.length)], RKh h a s.o s.nn s.R s.T⟩)
    (fun s => 2 * s.R.count false + s.T.length) ⟨o, nn, R, T, 0⟩ ⟨N, I, C0, hS⟩ (GStep.eq (by simp) (subH.refl _)) ?_
  clear C0 hS lR I N hx T R nn o
  rintro ⟨o, nn, R, T, x⟩ ⟨N, I, C, hS⟩
  simp only at N I C hS ⊢
  have lR : R.length = next.length := by rw [I.len]; simp
  have szT := I.size
  have lT : T.length ≤ 12000 := by simp at szT; omega
  refine AW.seq fun _ k2 => ?_
  refine AW.seq fun _ k3 => AW.region [] Θ_ok ?_
  simp
  refine k3 _ ?_
  by_cases ht : T = []
  · subst ht
    refine AW.cond false (by simp [Int.natCast_inj]) (fun h => by cases h) (fun _ => ?_)
    refine AW.exit ?_
    simp
    refine k1 _ ?_
    refine AW.seq fun _ kr => AW.region [] Θ_ok ?_
    simp
    refine kr _ (AW.ret ?_)
    simp [Try.f81]
    have ga := RKh.ga N nn R []
    refine Fin.freeze (k := true) ga (fun _ => rfl) rfl (by simp [lR]) (fun u hu => by obtain ⟨z, _, rfl⟩ := List.mem_map.1 hu; rfl) h ?_ ⟨?_, rfl⟩
    · unfold RKh
      rw [HL.del (k := 1) N rfl]
      exact HL.sub (l := [(o, obTd [] nn)]) (HN.del (k := 1) N)
    · rw [I.done C (fun v hv hf => hS v (by simpa using hv) hf)]
      rfl
  · obtain ⟨t0, u, rfl⟩ : ∃ t0 u, T = t0 ++ [u] := ⟨T.dropLast, T.getLast ht, (List.dropLast_concat_getLast ht).symm⟩
    have ht' : (0 : Int) < ((t0 ++ [u]).length : Nat) := by simp
    refine AW.cond true (by simp [Int.natCast_inj]) (fun _ => ?_) (fun h => by cases h)
    refine AW.skip ?_
    simp
    refine k2 _ ?_
    refine AW.block ?_
    have l0 : t0.length ≤ 12000 := by simp at lT; omega
    have hwr := wrap_nat (show t0.length < 9223372036854775808 by omega)
    have go := RKh.go N nn R (t0 ++ [u])
    have dr : List.drop t0.length (ints (t0 ++ [u])) = [.int .i64 u] := by simp [ints]
    refine AW.seq fun _ k3 => AW.region [] Θ_ok ?_
    simp [hwr, go, dr]
    refine ⟨by omega, k3 _ ?_⟩
    refine AW.seq fun _ k3 => AW.region [] Θ_ok ?_
    simp [hwr, go, dr]
    refine ⟨by omega, k3 _ ?_⟩
    refine AW.ghost (GStep.trunc go t0.length) ?_
    rw [show (⟨(obTd (t0 ++ [u]) nn).cells.take t0.length, (obTd (t0 ++ [u]) nn).ty, (obTd (t0 ++ [u]) nn).sz, (obTd (t0 ++ [u]) nn).nn⟩ : Ob) = obTd t0 nn from by simp [obTd, ints]]
    simp only
    rw [RKh.pt N nn R (t0 ++ [u]) t0]
    clear go dr
    obtain ⟨v, rfl, hv, hvo⟩ := I.todoIn u (by simp)
    have hv' : v < next.length := by simpa using hv
    have hlr := ok.row _ (List.getElem_mem hv')
    have hrow := ok.lt _ (List.getElem_mem hv')
    have I1 : RI (nG next) from_ R t0 := ⟨I.len, I.sound, fun t ht => I.todoIn t (List.mem_append.2 (.inl ht)), by have := I.size; simp at this ⊢; omega⟩
    have C1 : Clo (nG next) R t0 (fun z => z = v) := fun z hz hzv hzt w hw => C z hz (fun h => h) (fun hmem => by
      rcases List.mem_append.1 hmem with h1 | h1
      · exact hzt h1
      · simp at h1; exact hzv (by omega)) w hw
    refine AW.seq fun _ k3 => AW.region [] Θ_ok ?_
    simp [hv']
    refine k3 _ ?_
    refine AW.block ?_
    refine AW.loopI (X := RK) (fun s => HN h [s.o, a] ∧ RI (nG next) from_ s.R s.T ∧ Clo (nG next) s.R s.T (fun z => z = v) ∧ (∀ w, w < next.length → hasN from_ w = true → hasN s.R w = true) ∧ hasN s.R v = true ∧
        (∀ w : Nat, (w : Int) ∈ next[v].take s.x → hasN s.R w = true) ∧ s.x ≤ next[v].length ∧ 2 * s.R.count false + s.T.length ≤ 2 * R.count false + t0.length)
      (fun s => ⟨79, [(0, .ro false (rows next)), (2, .ro false (bools all)), (7, .mu a next.length), (8, .mu s.o s.T.length), (54, .ro false (ints next[v])), (55, .int .i64 next[v].length), (56, .int .i64 s.x)], RKh h a s.o s.nn s.R s.T⟩)
      (fun s => next[v].length - s.x) ⟨o, nn, R, t0, 0⟩ ⟨N, I1, C1, hS, hvo, fun w hw => by simp at hw, Nat.zero_le _, Nat.le_refl _⟩ (GStep.eq (by simp) (subH.refl _)) ?_
    have hRv := I.sound v hvo
    have hM : 2 * R.count false + t0.length < 2 * R.count false + (t0 ++ [(v : Int)]).length := by simp
    generalize 2 * R.count false + t0.length = M at hM
    generalize 2 * R.count false + (t0 ++ [(v : Int)]).length = M' at hM
    clear C C1 I1 hvo hS N I lR szT lT ht ht' l0 hwr
    rintro ⟨o', nn', out', todo', y⟩ ⟨N, I2, C, hS, hvo, hY, hy, hle⟩
    simp only at N I2 C hS hvo hY hy hle ⊢
    refine AW.seq fun _ k4 => AW.region [] Θ_ok ?_
    simp
    refine k4 _ ?_
    by_cases hly : y < next[v].length
    · have inc := wrap_succ (show y < 9223372036854775807 by omega)
      obtain ⟨b0, b1⟩ := hrow _ (List.getElem_mem hly)
      obtain ⟨w, hw⟩ := Int.eq_ofNat_of_zero_le b0
      have hwn : w < next.length := by omega
      have lR : out'.length = next.length := by rw [I2.len]; simp
      have hwo : w < out'.length := by omega
      have szT := I2.size
      have lT : todo'.length ≤ 12000 := by simp at szT; omega
      have htk : ∀ z : Nat, (z : Int) ∈ next[v].take (y + 1) → (z : Int) ∈ next[v].take y ∨ z = w := by
        intro z hz
        rw [List.take_succ_eq_append_getElem hly] at hz
        rcases List.mem_append.1 hz with h1 | h1
        · exact .inl h1
        · simp at h1; exact .inr (by omega)
      have hgd : (nG next).next.getD v [] = next[v] := by simp [hv']
      have hrw : Reaches (nG next) from_ w := .step v w hRv (by rw [hgd, ← hw]; exact List.getElem_mem hly)
      have sA := has_r9 all w
      rw [hA w hwn] at sA
      have ga := RKh.ga N nn' out' todo'
      have dk := mapk_drop out' hwo
      refine AW.seq fun _ k4 => AW.cond true (by simp [Int.natCast_inj, hly]) (fun _ => ?_) (fun h => by cases h)
      refine AW.skip ?_
      simp
      refine k4 _ ?_
      refine AW.seq fun _ k4 => ?_
      refine AW.block ?_
      refine AW.seq fun _ k5 => AW.region [] Θ_ok ?_
      simp [hly, hw]
      refine k5 _ ?_
      cases hb : out'[w] with
      | true =>
        refine AW.seq fun _ k5 => AW.region [] Θ_ok ?_
        simp [ga, hwo, lR, dk, hb]
        refine ⟨hwn, k5 _ ?_⟩
        refine AW.cond false (by simp [Int.natCast_inj]) (fun h => by cases h) (fun _ => ?_)
        refine AW.skip ?_
        simp
        refine k4 _ ?_
        refine AW.region [] Θ_ok ?_
        simp
        refine ⟨⟨o', nn', out', todo', y + 1⟩, ⟨N, I2, C, hS, hvo, fun z hz => ?_, hly, hle⟩, by simp only; omega, GStep.eq (by simp [inc]) (subH.refl _)⟩
        rcases htk z hz with h1 | h1
        · exact hY z h1
        · subst h1; simp [hasN, hwo, hb]
      | false =>
        refine AW.seq fun _ k5 => AW.regionAt 9 [] Θ_ok fun B hB => ?_
        simp [ga, hwo, lR, dk, hb]
        refine ⟨hwn, sA.use (by simp) ?_⟩
        refine hB _ ?_
        clear hB B
        simp
        refine k5 _ ?_
        refine AW.cond true (by simp [Int.natCast_inj]) (fun _ => ?_) (fun h => by cases h)
        have pa := RKh.pa N nn' out' todo' (out'.set w true)
        have ms := mapk_set out' w true
        have go := RKh.go N nn' (out'.set w true) todo'
        have hcs := count_set out' w hwo hb
        obtain ⟨R', hR'⟩ : ∃ R', R' = out'.set w true := ⟨_, rfl⟩
        rw [← hR'] at go pa ms
        refine AW.seq fun _ k5 => AW.region [] Θ_ok ?_
        simp [ga, lR, hwn, ms, obBk_mk, pa]
        refine ⟨by omega, k5 _ ?_⟩
        clear pa ga ms
        refine AW.region [] Θ_ok ?_
        simp [go, appendA]
        refine ⟨rfl, ⟨by omega, by omega⟩, fun o2 ho2 => k4 _ ?_⟩
        obtain ⟨he, N'⟩ := RKh.grow N nn' R' todo' ho2 (todo' ++ [(w : Int)])
        rw [obTd_snoc, he]
        subst hR'
        refine AW.region [] Θ_ok ?_
        simp
        refine ⟨⟨o2, true, out'.set w true, todo' ++ [(w : Int)], y + 1⟩, ⟨N', I2.meet hwo hrw hb, C.meet hwo, fun z hz hf => ?_, ?_, fun z hz => ?_, hly, ?_⟩, by simp only; omega, GStep.eq (by simp [inc]) (subH.refl _)⟩
        · simp only
          rw [hasN_set out' w z hwo]
          split
          · rfl
          · exact hS z hz hf
        · simp only
          rw [hasN_set out' w v hwo]
          split
          · rfl
          · exact hvo
        · simp only at hz ⊢
          rw [hasN_set out' w z hwo]
          rcases htk z hz with h1 | h1
          · split
            · rfl
            · exact hY z h1
          · rw [if_pos h1]
        · simp only [List.length_append, List.length_cons, List.length_nil]; omega
    · obtain rfl : y = next[v].length := by omega
      refine AW.seq fun _ k4 => AW.cond false (by simp) (fun h => by cases h) (fun _ => ?_)
      refine AW.exit ?_
      simp
      have hgd : (nG next).next.getD v [] = next[v] := by simp [hv']
      refine ⟨⟨o', nn', out', todo', 0⟩, ⟨N, I2, fun z hz _ hzt w hw => ?_, hS⟩, by first | omega | (simp only; omega), GStep.eq (by simp) (subH.refl _)⟩
      by_cases e : z = v
      · subst e
        rw [hgd] at hw
        exact hY w (by rw [List.take_length]; exact hw)
      · exact C z hz e hzt w hw
end Go.Par
