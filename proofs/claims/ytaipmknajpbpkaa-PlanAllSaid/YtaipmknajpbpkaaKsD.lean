/- parryref9.circles, walked. -/
import Derived.Test.YtaipmknajpbpkaaKsC
import Derived.Test.YtaipmknajpbpkaaMgC
set_option linter.unusedSimpArgs false
set_option linter.unusedVariables false
set_option maxRecDepth 8000
set_option maxHeartbeats 4000000
namespace Go.Par
open Go.Proofs

theorem FN.base {h0 : Heap} {o c : Nat} {f : Nat → Nat} {n : Nat} (N : FN h0 o f n) {A : Ob} (hc : h0 c = some A) (X : Ob) : FN (upd h0 c (some X)) o f n ∧ (∀ C R, upd (FH h0 o C f n R) c (some X) = FH (upd h0 c (some X)) o C f n R) ∧ ∀ C R, FH h0 o C f n R c = some A := by
  have h1 : c ≠ o := fun e => by have := N.out; rw [← e, hc] at this; cases this
  have h2 : ∀ i, i < n → f i ≠ c := fun i hi e => by have := N.free i hi; rw [e, hc] at this; cases this
  refine ⟨⟨N.inj, N.ne, fun i hi => by rw [upd_ne _ _ (h2 i hi)]; exact N.free i hi, by rw [upd_ne _ _ (Ne.symm h1)]; exact N.out⟩, fun C R => ?_, fun C R => by rw [FN.at_else h1 h2]; exact hc⟩
  funext x
  by_cases e : x = c
  · subst e
    rw [upd_same, FN.at_else h1 h2, upd_same]
  · rw [upd_ne _ _ e]
    unfold FH
    split
    · rfl
    · split
      · rfl
      · rw [upd_ne _ _ e]

def outS (n x : Nat) : List Int := tab n fun i => if i < x then -1 else 0
@[simp] theorem outS_len (n x : Nat) : (outS n x).length = n := length_tab _ _
theorem outS_zero (n : Nat) : outS n 0 = List.replicate n 0 := by unfold outS; rw [replicate_tab]; simp
theorem outS_all (n : Nat) : outS n n = List.replicate n (-1) := by unfold outS; rw [replicate_tab]; exact tab_congr fun i hi => by rw [if_pos hi]
theorem outS_set (n x : Nat) : (outS n x).set x (-1) = outS n (x + 1) := by
  unfold outS; rw [set_tab]
  refine tab_congr fun i hi => ?_
  by_cases e : i = x
  · subst e; simp
  · rw [if_neg e]
    by_cases q : i < x
    · rw [if_pos q, if_pos (by omega)]
    · rw [if_neg q, if_neg (by omega)]
theorem mapi_set (R : List Int) (v : Nat) (x : Int) : (ints R).set v (.int .i64 x) = ints (R.set v x) := by rw [ints, ints, List.map_set]
theorem obTd_snocK (l : List Int) (k : Nat) (w : Int) (hk : k = l.length) : (⟨List.take k (ints l) ++ [.int .i64 w], 3, 1, true⟩ : Ob) = obTd (l ++ [w]) true := by
  subst hk; exact obTd_snoc l w
theorem obTd_cut (l : List Int) (w : Int) (nn : Bool) : (⟨(obTd (l ++ [w]) nn).cells.take l.length, (obTd (l ++ [w]) nn).ty, (obTd (l ++ [w]) nn).sz, (obTd (l ++ [w]) nn).nn⟩ : Ob) = obTd l nn := by simp [obTd, ints]
theorem obTd_mk (L : List Int) (nn : Bool) : (⟨ints L, 3, 1, nn⟩ : Ob) = obTd L nn := rfl

structure KB where
  f : Nat → Nat
  nn : Nat → Bool
  x : Nat
  y : Nat

/-! Lists by name -/
def nI (L : List Nat) : List Int := L.map fun n : Nat => (n : Int)
def kF (K : List (Nat × Nat)) : List Int := K.map fun p => (p.1 : Int)
def kG (K : List (Nat × Nat)) : List Int := K.map fun p => (p.2 : Int)
@[simp] theorem nI_len (L : List Nat) : (nI L).length = L.length := by simp [nI]
@[simp] theorem kF_len (K : List (Nat × Nat)) : (kF K).length = K.length := by simp [kF]
@[simp] theorem kG_len (K : List (Nat × Nat)) : (kG K).length = K.length := by simp [kG]
theorem nI_snoc (L : List Nat) (v : Nat) : nI (L ++ [v]) = nI L ++ [(v : Int)] := by simp [nI]
theorem kF_snoc (K : List (Nat × Nat)) (v i : Nat) : kF (K ++ [(v, i)]) = kF K ++ [(v : Int)] := by simp [kF]
theorem kG_snoc (K : List (Nat × Nat)) (v i : Nat) : kG (K ++ [(v, i)]) = kG K ++ [(i : Int)] := by simp [kG]
theorem kF_drop (K : List (Nat × Nat)) (v i : Nat) : List.drop K.length (ints (kF (K ++ [(v, i)]))) = [.int .i64 v] := by simp [kF, ints]
theorem kG_drop (K : List (Nat × Nat)) (v i : Nat) : List.drop K.length (ints (kG (K ++ [(v, i)]))) = [.int .i64 i] := by simp [kG, ints]
theorem kG_set (K : List (Nat × Nat)) (v i : Nat) : (ints (kG (K ++ [(v, i)]))).set K.length (.int .i64 ((i : Int) + 1)) = ints (kG (K ++ [(v, i + 1)])) := by simp [kG, ints]
theorem kF_up (K : List (Nat × Nat)) (v i j : Nat) : kF (K ++ [(v, i)]) = kF (K ++ [(v, j)]) := by simp [kF]

/-- The memory of the second loop. -/
def KH (h : Heap) (k2 k1 q s c : Nat) (G F Q : List Int) (nn : Bool) (R : List Bool) (C : List Int) : Heap := HL h [(k2, obTd G true), (k1, obTd F true), (q, obTd Q nn), (s, obBk R), (c, obTd C true)]
section
variable {h : Heap} {k2 k1 q s c : Nat} (N : HN h [k2, k1, q, s, c]) (G F Q : List Int) (nn : Bool) (R : List Bool) (C : List Int)
include N
theorem KH.a2 : KH h k2 k1 q s c G F Q nn R C k2 = some (obTd G true) := HL.at (k := 0) N.nd rfl
theorem KH.a1 : KH h k2 k1 q s c G F Q nn R C k1 = some (obTd F true) := HL.at (k := 1) N.nd rfl
theorem KH.aq : KH h k2 k1 q s c G F Q nn R C q = some (obTd Q nn) := HL.at (k := 2) N.nd rfl
theorem KH.as : KH h k2 k1 q s c G F Q nn R C s = some (obBk R) := HL.at (k := 3) N.nd rfl
theorem KH.p2 (G' : List Int) : upd (KH h k2 k1 q s c G F Q nn R C) k2 (some (obTd G' true)) = KH h k2 k1 q s c G' F Q nn R C := HL.put (k := 0) N.nd rfl
theorem KH.p1 (F' : List Int) : upd (KH h k2 k1 q s c G F Q nn R C) k1 (some (obTd F' true)) = KH h k2 k1 q s c G F' Q nn R C := HL.put (k := 1) N.nd rfl
theorem KH.ps (R' : List Bool) : upd (KH h k2 k1 q s c G F Q nn R C) s (some (obBk R')) = KH h k2 k1 q s c G F Q nn R' C := HL.put (k := 3) N.nd rfl
theorem KH.g1 {o' : Nat} (ho : KH h k2 k1 q s c G F Q nn R C o' = none) (F' : List Int) : upd (upd (KH h k2 k1 q s c G F Q nn R C) k1 none) o' (some (obTd F' true)) = KH h k2 o' q s c G F' Q nn R C ∧ HN h [k2, o', q, s, c] :=
  HL.ren (h0 := h) (A' := obTd F' true) (l := [(k2, obTd G true), (k1, obTd F true), (q, obTd Q nn), (s, obBk R), (c, obTd C true)]) (k := 1) N rfl ho
theorem KH.g2 {o' : Nat} (ho : KH h k2 k1 q s c G F Q nn R C o' = none) (G' : List Int) : upd (upd (KH h k2 k1 q s c G F Q nn R C) k2 none) o' (some (obTd G' true)) = KH h o' k1 q s c G' F Q nn R C ∧ HN h [o', k1, q, s, c] :=
  HL.ren (h0 := h) (A' := obTd G' true) (l := [(k2, obTd G true), (k1, obTd F true), (q, obTd Q nn), (s, obBk R), (c, obTd C true)]) (k := 0) N rfl ho
theorem KH.gq {o' : Nat} (ho : KH h k2 k1 q s c G F Q nn R C o' = none) (Q' : List Int) : upd (upd (KH h k2 k1 q s c G F Q nn R C) q none) o' (some (obTd Q' true)) = KH h k2 k1 o' s c G F Q' true R C ∧ HN h [k2, k1, o', s, c] :=
  HL.ren (h0 := h) (A' := obTd Q' true) (l := [(k2, obTd G true), (k1, obTd F true), (q, obTd Q nn), (s, obBk R), (c, obTd C true)]) (k := 2) N rfl ho
end
theorem KH.cut {h : Heap} {k2 k1 q s c : Nat} (N : HN h [k2, k1, q, s, c]) (K : List (Nat × Nat)) (v i : Nat) (Q : List Int) (nn : Bool) (R : List Bool) (C : List Int) (n : Nat) (tm : Tm) :
    GStep ⟨n, tm, KH h k2 k1 q s c (kG (K ++ [(v, i)])) (kF (K ++ [(v, i)])) Q nn R C⟩ ⟨n, tm, KH h k2 k1 q s c (kG K) (kF K) Q nn R C⟩ := by
  rw [kG_snoc, kF_snoc]
  have t2 := GStep.trunc (S := ⟨n, tm, KH h k2 k1 q s c (kG K ++ [(i : Int)]) (kF K ++ [(v : Int)]) Q nn R C⟩) (KH.a2 N _ _ _ _ _ _) (kG K).length
  rw [obTd_cut] at t2
  simp only at t2
  rw [KH.p2 N] at t2
  have t1 := GStep.trunc (S := ⟨n, tm, KH h k2 k1 q s c (kG K) (kF K ++ [(v : Int)]) Q nn R C⟩) (KH.a1 N _ _ _ _ _ _) (kF K).length
  rw [obTd_cut] at t1
  simp only at t1
  rw [KH.p1 N] at t1
  exact t2.trans t1
theorem HL.tl {h0 : Heap} {l : List (Nat × Ob)} {a : Nat} {A : Ob} (N : HN h0 (nms ((a, A) :: l))) : subH (HL h0 l) (HL h0 ((a, A) :: l)) := by
  intro x X hx
  have hn : x ≠ a := by
    rintro rfl
    have h1 : x ∉ nms l := (List.nodup_cons.1 N.nd).1
    rw [HL.out h1, N.free x (by simp)] at hx
    cases hx
  rw [HL, upd_ne _ _ hn]; exact hx

structure KO where
  q : Nat
  nn : Bool
  R : List Bool
  O : List Nat
  x : Nat
structure KI where
  k2 : Nat
  k1 : Nat
  q : Nat
  nn : Bool
  R : List Bool
  O : List Nat
  K : List (Nat × Nat)

structure K3 where
  D : List Bool
  C : List Int
  x : Nat
structure KL where
  l : Nat
  D : List Bool
  L : List Nat
  k : Nat
structure KLok (next : List (List Int)) (a D0 : List Bool) (v : Nat) (h : Heap) (d c : Nat) (t : KL) : Prop where
  N : HN h [t.l, d, c]
  B : Bf next a D0 v t.D t.L
  k : t.k ≤ t.L.length
  cl : ∀ x ∈ t.L.take t.k, ∀ u, kE next u x → kS next a u → hasN t.D u = true
structure KLy (next : List (List Int)) (a D0 : List Bool) (v : Nat) (h : Heap) (d c k x : Nat) (t : KL) : Prop where
  N : HN h [t.l, d, c]
  B : Bf next a D0 v t.D t.L
  hk : k < t.L.length
  at_ : t.L[k]? = some x
  cl : ∀ x ∈ t.L.take k, ∀ u, kE next u x → kS next a u → hasN t.D u = true
  y : t.k ≤ (bkL next x).length
  cy : ∀ u : Nat, (u : Int) ∈ (bkL next x).take t.k → kS next a u → hasN t.D u = true

/-- The memory of the third loop. -/
def K3H (h : Heap) (l d c : Nat) (L : List Int) (D : List Bool) (C : List Int) : Heap := HL h [(l, obTd L true), (d, obBk D), (c, obTd C true)]
section
variable {h : Heap} {l d c : Nat} (N : HN h [l, d, c]) (L : List Int) (D : List Bool) (C : List Int)
include N
theorem K3H.al : K3H h l d c L D C l = some (obTd L true) := HL.at (k := 0) N.nd rfl
theorem K3H.ad : K3H h l d c L D C d = some (obBk D) := HL.at (k := 1) N.nd rfl
theorem K3H.pd (D' : List Bool) : upd (K3H h l d c L D C) d (some (obBk D')) = K3H h l d c L D' C := HL.put (k := 1) N.nd rfl
theorem K3H.gl {o' : Nat} (ho : K3H h l d c L D C o' = none) (L' : List Int) : upd (upd (K3H h l d c L D C) l none) o' (some (obTd L' true)) = K3H h o' d c L' D C ∧ HN h [o', d, c] :=
  HL.ren (h0 := h) (A' := obTd L' true) (l := [(l, obTd L true), (d, obBk D), (c, obTd C true)]) (k := 0) N rfl ho
theorem K3H.dl : upd (K3H h l d c L D C) l none = HL h [(d, obBk D), (c, obTd C true)] := HL.del (h0 := h) (l := [(l, obTd L true), (d, obBk D), (c, obTd C true)]) (k := 0) N rfl
end
theorem nI_at {L : List Nat} {k x : Nat} (h : L[k]? = some x) : ∃ r, List.drop k (ints (nI L)) = .int .i64 (x : Int) :: r := by
  have hk := (List.getElem?_eq_some_iff.1 h).1
  refine ⟨(ints (nI L)).drop (k + 1), ?_⟩
  rw [List.drop_eq_getElem_cons (by simpa using hk)]
  have := (List.getElem?_eq_some_iff.1 h).2
  simp [ints, nI, this]
theorem nI_get {L : List Nat} {k x : Nat} (h : L[k]? = some x) : (nI L)[k]? = some (x : Int) := by simp [nI, h]

def lpB (n : Nat) (row : List Int) (v : Nat) (y : Nat) : Bool := decide (1 < n) || (row.take y).contains (v : Int)
theorem lpB_zero (n : Nat) (row : List Int) (v : Nat) : lpB n row v 0 = decide ((1 : Int) < (n : Int)) := by
  unfold lpB; simp only [List.take_zero, List.contains_nil, Bool.or_false]; congr 1; simp only [eq_iff_iff]; omega
theorem lpB_step (n : Nat) (row : List Int) (v : Nat) {y : Nat} (hy : y < row.length) : lpB n row v (y + 1) = (lpB n row v y || (row[y] == (v : Int))) := by
  unfold lpB
  rw [List.take_succ_eq_append_getElem hy, Bool.or_assoc]
  congr 1
  rw [Bool.eq_iff_iff]
  simp only [List.contains_iff_mem, List.mem_append, List.mem_singleton, Bool.or_eq_true, beq_iff_eq]
  exact or_congr Iff.rfl ⟨fun e => e.symm, fun e => e.symm⟩
theorem lpB_all (n : Nat) (row : List Int) (v : Nat) : lpB n row v row.length = true ↔ 1 < n ∨ (v : Int) ∈ row := by
  unfold lpB; simp
structure CWok (L : List Nat) (C : List Int) (v n : Nat) (t : K3) : Prop where
  len : t.C.length = n
  x : t.x ≤ L.length
  g : ∀ u, u < n → t.C[u]? = if u ∈ L.take t.x then some (v : Int) else C[u]?

structure KJ (next : List (List Int)) (a : List Bool) (h : Heap) (s c x : Nat) (t : KI) : Prop where
  N : HN h [t.k2, t.k1, t.q, s, c]
  I : DI next a t.R t.O t.K
  b : ∀ p ∈ t.K, p.1 < next.length ∧ p.2 ≤ (next.getD p.1 []).length
  S : ∀ v, v < x + 1 → hasN a v = true → hasN t.R v = true

theorem r9_circles (next : List (List Int)) (ok : BigOk next) (a : List Bool) : ∀ h, AC Try.prog 82 [.ro false (rows next), .ro false (bools a)] h fun r h' => ∃ c, r = .ro true (ints c) ∧ CirOk (kE next) (kS next a) next.length c ∧ h' = h := by
  have hl := ok.len
  have b1 : (next.length : Int) ≤ 17592186044416 := by omega
  have b2 : next.length * 24 ≤ 140737488355328 := by omega
  intro h
  refine AC.body Θ_ok Try.func82 rfl rfl (Nat.le_of_ble_eq_true rfl) ?_
  refine AW.seq fun _ k1 => AW.region [] Θ_ok ?_
  simp
  refine k1 _ ?_
  refine AW.seq fun _ k1 => AW.region [33] Θ_ok ?_
  simp [newA]
  have e1 : List.flatMap AV.flat (List.replicate next.length (AV.int .i64 0)) = ints (outS next.length 0) := by
    rw [outS_zero, flat_ones (fun u hu => by rw [(List.mem_replicate.1 hu).2]; rfl)]; simp
  rw [e1, obTd_mk]
  refine ⟨by omega, fun c hc => k1 _ ?_⟩
  clear e1
  refine AW.seq fun _ k1 => AW.region [36] Θ_ok ?_
  simp [newA]
  refine ⟨by omega, fun o ho => k1 _ ?_⟩
  rw [replicate_tab, flat_tab (fun _ _ => rfl)]
  refine AW.family 3 1 ho fun f N => ?_
  have hcc : upd h c (some (obTd (outS next.length 0) true)) c = some (obTd (outS next.length 0) true) := upd_same _ _ _
  have hst : FH (upd h c (some (obTd (outS next.length 0) true))) o ⟨tab next.length fun i => .mu (f i) 0, 22, 1, true⟩ f next.length (fun _ => ⟨[], 3, 1, false⟩) = FH (upd h c (some (obTd (outS next.length 0) true))) o (befC (nG next) f 0 0) f next.length (befR (nG next) (fun _ => false) 0 0) := by
    have e : befR (nG next) (fun _ => false) 0 0 = fun _ => ⟨[], 3, 1, false⟩ := by funext w; simp [befR, befS_zero]
    rw [e]; simp [befC, befS_zero]
  rw [hst]
  clear hst
  refine AW.seqTo ⟨247, [(0, .ro false (rows next)), (1, .ro false (bools a)), (5, .mu c next.length), (6, .ro true (rows (tab next.length fun w => bkL next w)))], HL h [(c, obTd (List.replicate next.length (-1)) true)]⟩ (fun _ k1 => ?_) ?_
  · refine AW.seq fun _ k2 => AW.region [] Θ_ok ?_
    simp
    refine k2 _ ?_
    refine AW.block ?_
    refine AW.loopI (X := KB) (fun s => FN (upd h c (some (obTd (outS next.length s.x) true))) o s.f next.length ∧ s.x ≤ next.length)
      (fun s => ⟨247, [(0, .ro false (rows next)), (1, .ro false (bools a)), (5, .mu c next.length), (6, .mu o next.length), (37, .ro false (rows next)), (38, .int .i64 next.length), (39, .int .i64 s.x)], FH (upd h c (some (obTd (outS next.length s.x) true))) o (befC (nG next) s.f s.x 0) s.f next.length (befR (nG next) s.nn s.x 0)⟩)
      (fun s => next.length - s.x) ⟨f, fun _ => false, 0, 0⟩ ⟨N, Nat.zero_le _⟩ (GStep.eq (by simp) (subH.refl _)) ?_
    clear N hcc f
    rintro ⟨f, nn, x, _⟩ ⟨N, hx⟩
    simp only at N hx ⊢
    refine AW.seq fun _ k2 => AW.region [] Θ_ok ?_
    simp
    refine k2 _ ?_
    by_cases hlt : x < next.length
    · have hr := ok.lt _ (List.getElem_mem hlt)
      have hlr := ok.row _ (List.getElem_mem hlt)
      have inc := wrap_succ (show x < 9223372036854775807 by omega)
      obtain ⟨N1, ep, ea⟩ := N.base (upd_same _ _ _) (obTd (outS next.length (x + 1)) true)
      rw [upd_upd] at N1 ep
      replace ea := ea (befC (nG next) f x 0) (befR (nG next) nn x 0)
      replace ep := ep (befC (nG next) f x 0) (befR (nG next) nn x 0)
      have os := mapi_set (outS next.length x) x (-1)
      rw [outS_set] at os
      refine AW.seq fun _ k2 => AW.cond true (by simp [Int.natCast_inj, hlt]) (fun _ => ?_) (fun h => by cases h)
      refine AW.skip ?_
      simp
      refine k2 _ ?_
      refine AW.seq fun _ k2 => ?_
      refine AW.block ?_
      refine AW.seq fun _ k3 => AW.region [] Θ_ok ?_
      simp [hlt]
      refine k3 _ ?_
      refine AW.seq fun _ k3 => AW.region [] Θ_ok ?_
      simp [ea, hlt, os, obTd_mk, ep]
      refine ⟨by omega, k3 _ ?_⟩
      clear ea ep os N
      refine AW.seq fun _ k3 => AW.region [] Θ_ok ?_
      simp
      refine k3 _ ?_
      refine AW.block ?_
      obtain ⟨hb, ehb⟩ : ∃ hb, hb = upd h c (some (obTd (outS next.length (x + 1)) true)) := ⟨_, rfl⟩
      rw [← ehb] at N1 ⊢
      refine AW.loopI (X := KB) (fun s => FN hb o s.f next.length ∧ s.y ≤ next[x].length)
        (fun s => ⟨247, [(0, .ro false (rows next)), (1, .ro false (bools a)), (5, .mu c next.length), (6, .mu o next.length), (7, .int .i64 x), (37, .ro false (rows next)), (38, .int .i64 next.length), (39, .int .i64 x), (47, .ro false (ints next[x])), (48, .int .i64 next[x].length), (49, .int .i64 s.y)], FH hb o (befC (nG next) s.f x s.y) s.f next.length (befR (nG next) s.nn x s.y)⟩)
        (fun s => next[x].length - s.y) ⟨f, nn, x, 0⟩ ⟨N1, Nat.zero_le _⟩ (GStep.eq (by simp) (subH.refl _)) ?_
      clear N1 f nn
      rintro ⟨f, nn, _, y⟩ ⟨N, hy⟩
      simp only at N hy ⊢
      refine AW.seq fun _ k3 => AW.region [] Θ_ok ?_
      simp
      refine k3 _ ?_
      by_cases hly : y < next[x].length
      · obtain ⟨w, hw⟩ : ∃ w : Nat, next[x][y] = (w : Int) := ⟨next[x][y].toNat, by have := (hr _ (List.getElem_mem hly)).1; omega⟩
        have hwn : w < next.length := by have := (hr _ (List.getElem_mem hly)).2; omega
        have hwn' : w < (nG next).owner.length := by simpa using hwn
        have incy := wrap_succ (show y < 9223372036854775807 by omega)
        have hO : FH hb o (befC (nG next) f x y) f next.length (befR (nG next) nn x y) o = some (befC (nG next) f x y) := FN.at_out
        have hW := N.at_row (C := befC (nG next) f x y) (R := befR (nG next) nn x y) hwn
        have hbl := befS_bigY ok w (y := y) hlt
        have hC : (befC (nG next) f x y).cells[w]? = some (.mu (f w) (befS (nG next) x y w).length) := by simp [befC, getElem?_tab, hwn]
        have hL : (befC (nG next) f x y).cells.drop w = .mu (f w) (befS (nG next) x y w).length :: (befC (nG next) f x y).cells.drop (w + 1) := by
          have hh : w < (befC (nG next) f x y).cells.length := by simp [befC, hwn]
          rw [List.drop_eq_getElem_cons hh]
          rw [List.getElem?_eq_getElem hh] at hC
          rw [Option.some.inj hC]
        have hCl : (befC (nG next) f x y).cells.length = next.length := by simp [befC]
        refine AW.seq fun _ k3 => AW.cond true (by simp [Int.natCast_inj, hly]) (fun _ => ?_) (fun h => by cases h)
        refine AW.skip ?_
        simp
        refine k3 _ ?_
        refine AW.seq fun _ k3 => ?_
        refine AW.block ?_
        refine AW.seq fun _ k4 => AW.region [] Θ_ok ?_
        simp [hly, hw]
        refine k4 _ ?_
        refine AW.region [] Θ_ok ?_
        simp [hO, hL, hwn, hW, appendA, befR]
        refine ⟨rfl, by omega, fun n' hn' => ?_⟩
        have hft : List.take (befS (nG next) x y w).length (ints (befS (nG next) x y w)) = ints (befS (nG next) x y w) := List.take_of_length_le (by simp)
        have hg : ∀ i, befS (nG next) x (y + 1) i = befS (nG next) x y i ++ if (w : Int) = (i : Int) then [(x : Int)] else [] := fun i => by
          have := befS_step (nG next) (x := x) (y := y) hlt hly i
          rw [this]; simp [hw]
        have stepC : (⟨(befC (nG next) f x y).cells.set w (.mu n' ((befS (nG next) x y w).length + 1)), (befC (nG next) f x y).ty, (befC (nG next) f x y).sz, (befC (nG next) f x y).nn⟩ : Ob) = befC (nG next) (fun i => if i = w then n' else f i) x (y + 1) := by
          simp only [befC, set_tab]
          congr 1
          refine tab_congr fun i _ => ?_
          rw [hg]
          by_cases e : i = w
          · subst e; simp
          · have e' : ¬ (w : Int) = (i : Int) := by omega
            simp [e, e']
        have stepR : (fun i => if i = w then (⟨ints (befS (nG next) x y w) ++ [.int .i64 x], 3, 1, true⟩ : Ob) else befR (nG next) nn x y i) = befR (nG next) (fun i => if i = w then true else nn i) x (y + 1) := by
          funext i
          simp only [befR]
          rw [hg]
          by_cases e : i = w
          · subst e; simp
          · have e' : ¬ (w : Int) = (i : Int) := by omega
            simp [e, e']
        obtain ⟨N', he⟩ := N.grow (C' := befC (nG next) (fun i => if i = w then n' else f i) x (y + 1)) hwn ⟨ints (befS (nG next) x y w) ++ [.int .i64 x], 3, 1, true⟩ hn'
        obtain ⟨q1, q2, q3⟩ := N.fresh hn'
        rw [hft]
        have hno : upd (upd (FH hb o (befC (nG next) f x y) f next.length (befR (nG next) nn x y)) (f w) none) n' (some ⟨ints (befS (nG next) x y w) ++ [.int .i64 x], 3, 1, true⟩) o = some (befC (nG next) f x y) := by
          rw [upd_ne _ _ (Ne.symm q1), upd_ne _ _ (Ne.symm (N.ne w hwn))]; exact hO
        rw [hno]
        simp only
        refine ⟨⟨trivial, by rw [hCl]; exact hwn⟩, k3 _ ?_⟩
        rw [stepC, he, stepR]
        refine AW.region [] Θ_ok ?_
        simp
        exact ⟨⟨_, _, 0, y + 1⟩, ⟨N', hly⟩, by simp only; omega, GStep.eq (by simp [incy]) (subH.refl _)⟩
      · obtain rfl : y = next[x].length := by omega
        refine AW.seq fun _ k3 => AW.cond false (by simp [Int.natCast_inj]) (fun h => by cases h) (fun _ => ?_)
        refine AW.exit ?_
        simp
        refine k2 _ ?_
        have g1 := befC_next (nG next) f (x := x) hlt
        have g2 := befR_next (nG next) nn (x := x) hlt
        simp only [nG_next] at g1 g2
        rw [g1, g2]
        refine AW.region [] Θ_ok ?_
        simp
        subst ehb
        exact ⟨⟨f, nn, x + 1, 0⟩, ⟨N, hlt⟩, by simp only; omega, GStep.eq (by simp [inc]) (subH.refl _)⟩
    · obtain rfl : x = next.length := by omega
      refine AW.seq fun _ k2 => AW.cond false (by simp [Int.natCast_inj]) (fun h => by cases h) (fun _ => ?_)
      refine AW.exit ?_
      simp
      refine k1 _ ?_
      rw [outS_all] at N ⊢
      have hA : befC (nG next) f next.length 0 = ⟨tab next.length fun i => if i < next.length then .mu (f i) (befS (nG next) next.length 0 i).length else .ro false (ints (bkL next i)), 22, 1, true⟩ := by
        simp only [befC, nG_len]
        congr 1
        exact tab_congr fun i hi => by simp [hi]
      rw [hA]
      refine GStep.trans (GStep.rows N (R := befR (nG next) nn next.length 0) (fun _ _ => rfl) (fun i _ => by simp [befR]) (fun i _ u hu => ?_) (fun i _ => ?_) next.length (Nat.le_refl _)) ?_
      · simp only [befR, List.mem_map] at hu; obtain ⟨_, _, rfl⟩ := hu; rfl
      · simp only [befR, bkL]
      refine GStep.trans (GStep.freeze (t := 6) (n := next.length) (k := true) (by simp) (upd_same _ _ _) (fun _ => rfl) rfl (by simp) (fun u hu => ?_)) ?_
      · simp only [mem_tab] at hu
        obtain ⟨i, _, rfl⟩ := hu
        rfl
      simp only
      rw [upd_upd, upd_none_id (h := upd h c _) N.out]
      exact GStep.eq (by simp) (subH.refl _)
  clear hcc N ho o f
  obtain ⟨BK, hBK⟩ : ∃ BK, BK = tab next.length fun w => bkL next w := ⟨_, rfl⟩
  obtain ⟨C0, hC0⟩ : ∃ C0, C0 = List.replicate next.length (-1 : Int) := ⟨_, rfl⟩
  rw [← hBK, ← hC0]
  -- R13
  refine AW.seq fun _ k1 => AW.region [67] Θ_ok ?_
  simp [newA]
  have e1 : List.flatMap AV.flat (List.replicate next.length (AV.bool false)) = (List.replicate next.length false).map AV.bool := by
    rw [flat_ones (fun u hu => by rw [(List.mem_replicate.1 hu).2]; rfl)]; simp
  rw [e1, obBk_mk]
  have Nc : HN h [c] := HL.new (l := []) ⟨List.nodup_nil, fun o ho => by cases ho⟩ hc
  refine ⟨by omega, fun s hs => k1 _ ?_⟩
  clear e1
  refine AW.seq fun _ k1 => AW.region [] Θ_ok ?_
  simp
  refine k1 _ ?_
  refine AW.mine 12 3 1 rfl fun q hq => ?_
  simp only at hq ⊢
  have Ns : HN h [s, c] := HL.new (l := [(c, obTd C0 true)]) Nc hs
  obtain ⟨R0, hR0⟩ : ∃ R0, R0 = List.replicate next.length false := ⟨_, rfl⟩
  rw [← hR0] at hq ⊢
  have Nq : HN h [q, s, c] := HL.new (l := [(s, obBk R0), (c, obTd C0 true)]) Ns hq
  have I0 : DI next a R0 [] [] := DI.init hR0
  have f0 : ∀ v, hasN R0 v = true → False := fun v hv => by have := (I0.r v).1 hv; simp at this
  refine AW.seqEx (X := KO) (fun t => HN h [t.q, s, c] ∧ DI next a t.R t.O [] ∧ ∀ v, v < next.length → hasN a v = true → hasN t.R v = true)
    (fun t => ⟨247, [(0, .ro false (rows next)), (1, .ro false (bools a)), (5, .mu c next.length), (6, .ro true (rows BK)), (12, .mu t.q t.O.length)], HL h [(t.q, obTd (nI t.O) t.nn), (c, obTd C0 true)]⟩) (fun _ k1 => ?_) ?_
  · refine AW.seq fun _ k2 => AW.region [] Θ_ok ?_
    simp
    refine k2 _ ?_
    refine AW.block ?_
    refine AW.loopI (X := KO) (fun t => HN h [t.q, s, c] ∧ DI next a t.R t.O [] ∧ (∀ v, v < t.x → hasN a v = true → hasN t.R v = true) ∧ t.x ≤ next.length)
      (fun t => ⟨247, [(0, .ro false (rows next)), (1, .ro false (bools a)), (5, .mu c next.length), (6, .ro true (rows BK)), (11, .mu s next.length), (12, .mu t.q t.O.length), (69, .int .i64 next.length), (70, .int .i64 t.x)], HL h [(t.q, obTd (nI t.O) t.nn), (s, obBk t.R), (c, obTd C0 true)]⟩)
      (fun t => next.length - t.x) ⟨q, false, R0, [], 0⟩ ⟨Nq, I0, fun v hv => absurd hv (Nat.not_lt_zero _), Nat.zero_le _⟩ (GStep.eq (by simp) (subH.refl _)) ?_
    clear Nq I0 f0 hq hR0 R0 Ns hs Nc q
    rintro ⟨q, nn, R, O, x⟩ ⟨N, I, hS, hx⟩
    simp only at N I hS hx ⊢
    refine AW.seq fun _ k2 => AW.region [] Θ_ok ?_
    simp
    refine k2 _ ?_
    by_cases hlt : x < next.length
    · have inc := wrap_succ (show x < 9223372036854775807 by omega)
      have lR := I.len
      have hxR : x < R.length := by omega
      have sA := has_r9 a x
      refine AW.seq fun _ k2 => AW.cond true (by simp [Int.natCast_inj, hlt]) (fun _ => ?_) (fun h => by cases h)
      refine AW.skip ?_
      simp
      refine k2 _ ?_
      refine AW.seq fun _ k2 => ?_
      refine AW.block ?_
      refine AW.seq fun _ k3 => AW.region [] Θ_ok ?_
      simp
      refine k3 _ ?_
      refine AW.seq fun _ k3 => ?_
      have gs : HL h [(q, obTd (nI O) nn), (s, obBk R), (c, obTd C0 true)] s = some (obBk R) := HL.at (k := 1) N.nd rfl
      have dk := mapk_drop R hxR
      cases ha : hasN a x with
      | false =>
        rw [ha] at sA
        refine AW.seq fun _ k4 => AW.regionAt 3 [] Θ_ok fun B hB => ?_
        simp
        refine sA.use (by simp) ?_
        refine hB _ ?_
        clear hB B
        simp
        refine k4 _ ?_
        refine AW.cond true (by simp [Int.natCast_inj]) (fun _ => ?_) (fun h => by cases h)
        refine AW.exit ?_
        simp
        refine k2 _ ?_
        refine AW.region [] Θ_ok ?_
        simp
        exact ⟨⟨q, nn, R, O, x + 1⟩, ⟨N, I, fun v hv hw => by
          by_cases e : v = x
          · subst e; rw [ha] at hw; cases hw
          · exact hS v (by simp only at hv; omega) hw, hlt⟩, by simp only; omega, GStep.eq (by simp [inc]) (subH.refl _)⟩
      | true =>
        rw [ha] at sA
        have hxl : (x : Nat) < next.length := hlt
        refine AW.seq fun _ k4 => AW.regionAt 3 [] Θ_ok fun B hB => ?_
        simp
        refine sA.use (by simp) ?_
        cases hb : R[x] with
        | true =>
          refine hB _ ?_
          clear hB B
          simp [gs, hlt, lR, dk, hb]
          refine k4 _ ?_
          refine AW.cond true (by simp [Int.natCast_inj]) (fun _ => ?_) (fun h => by cases h)
          refine AW.exit ?_
          simp
          refine k2 _ ?_
          refine AW.region [] Θ_ok ?_
          simp
          exact ⟨⟨q, nn, R, O, x + 1⟩, ⟨N, I, fun v hv hw => by
            by_cases e : v = x
            · subst e; simp [hasN, hxR, hb]
            · exact hS v (by simp only at hv; omega) hw, hlt⟩, by simp only; omega, GStep.eq (by simp [inc]) (subH.refl _)⟩
        | false =>
          refine hB _ ?_
          clear hB B
          simp [gs, hlt, lR, dk, hb]
          refine k4 _ ?_
          refine AW.cond false (by simp [Int.natCast_inj]) (fun h => by cases h) (fun _ => ?_)
          refine AW.skip ?_
          simp
          refine k3 _ ?_
          refine AW.seq fun _ k3 => AW.region [84, 85] Θ_ok ?_
          simp [newA]
          refine fun k1' hk1 k2' hk2 => k3 _ ?_
          have N1 := HL.new (l := [(q, obTd (nI O) nn), (s, obBk R), (c, obTd C0 true)]) N hk1
          have N2 : HN h [k2', k1', q, s, c] := HL.new (l := [(k1', obTd (kF [(x, 0)]) true), (q, obTd (nI O) nn), (s, obBk R), (c, obTd C0 true)]) N1 hk2
          have hst : upd (upd (HL h [(q, obTd (nI O) nn), (s, obBk R), (c, obTd C0 true)]) k1' (some ⟨[.int .i64 (x : Int)], 3, 1, true⟩)) k2' (some ⟨[.int .i64 0], 3, 1, true⟩) = KH h k2' k1' q s c (kG [(x, 0)]) (kF [(x, 0)]) (nI O) nn R C0 := rfl
          rw [hst]
          clear hst gs hk1 hk2 N1
          have gs := KH.as N2 (kG [(x, 0)]) (kF [(x, 0)]) (nI O) nn R C0
          have ps := KH.ps N2 (kG [(x, 0)]) (kF [(x, 0)]) (nI O) nn R C0 (R.set x true)
          have ms := mapk_set R x true
          have hnR : hasN R x = false := by simp [hasN, hxR, hb]
          have I1 : DI next a (R.set x true) O [(x, 0)] := I.push (K := []) ⟨hlt, ha⟩ hnR fun p hp => by simp at hp
          obtain ⟨R', hR'⟩ : ∃ R', R' = R.set x true := ⟨_, rfl⟩
          have hS' : ∀ v, v < x + 1 → hasN a v = true → hasN R' v = true := fun v hv hw => by
            rw [hR', hasN_set R x v hxR]
            split
            · rfl
            · exact hS v (by omega) hw
          rw [← hR'] at ps ms I1
          refine AW.seq fun _ k3 => AW.region [] Θ_ok ?_
          simp [gs, hlt, lR, ms, obBk_mk, ps]
          refine ⟨by omega, k3 _ ?_⟩
          clear gs ps ms dk
          refine AW.block ?_
          refine AW.loopI (X := KI) (KJ next a h s c x)
            (fun t => ⟨247, [(0, .ro false (rows next)), (1, .ro false (bools a)), (5, .mu c next.length), (6, .ro true (rows BK)), (11, .mu s next.length), (12, .mu t.q t.O.length), (14, .mu t.k1 t.K.length), (15, .mu t.k2 t.K.length), (69, .int .i64 next.length), (70, .int .i64 x)], KH h t.k2 t.k1 t.q s c (kG t.K) (kF t.K) (nI t.O) t.nn t.R C0⟩)
            (fun t => leftU next t.R + leftK next t.K) ⟨k2', k1', q, nn, R', O, [(x, 0)]⟩ ⟨N2, I1, fun p hp => by simp at hp; subst hp; exact ⟨hlt, Nat.zero_le _⟩, hS'⟩ (GStep.eq (by simp) (subH.refl _)) ?_
          clear N2 I1 hS' hS hR' R' hnR hb I N lR hxR hx R O nn q k1' k2'
          rintro ⟨k2', k1', q, nn, R, O, K⟩ ⟨N, I, hK, hS⟩
          simp only at N I hK hS ⊢
          have few := I.few
          have lR := I.len
          refine AW.seq fun _ k3 => ?_
          refine AW.seq fun _ k4 => AW.region [] Θ_ok ?_
          simp
          refine k4 _ ?_
          by_cases hK0 : K = []
          · subst hK0
            refine AW.cond false (by simp [Int.natCast_inj]) (fun h => by cases h) (fun _ => ?_)
            refine AW.exit ?_
            simp
            refine k2 _ ?_
            refine AW.region [] Θ_ok ?_
            simp
            refine ⟨⟨q, nn, R, O, x + 1⟩, ⟨(HN.del (k := 0) (HN.del (k := 0) N)), I, hS, hlt⟩, by simp only; omega, GStep.eq (by simp [inc]) ?_⟩
            exact fun o z hz => HL.tl (l := [(k1', obTd (kF []) true), (q, obTd (nI O) nn), (s, obBk R), (c, obTd C0 true)]) (A := obTd (kG []) true) N o z (HL.tl (l := [(q, obTd (nI O) nn), (s, obBk R), (c, obTd C0 true)]) (A := obTd (kF []) true) (HN.del (k := 0) N) o z hz)
          · obtain ⟨K', p, rfl⟩ : ∃ K' p, K = K' ++ [p] := ⟨K.dropLast, K.getLast hK0, (List.dropLast_concat_getLast hK0).symm⟩
            obtain ⟨v, i⟩ := p
            obtain ⟨hv, hi⟩ := hK (v, i) (by simp)
            simp only at hv hi
            rw [show next.getD v [] = next[v] by simp [hv]] at hi
            have hlr := ok.row _ (List.getElem_mem hv)
            have hpos : (0 : Int) < ((K' ++ [(v, i)]).length : Nat) := by simp
            have hwr := wrap_nat (show K'.length < 9223372036854775808 by simp at few; omega)
            have g1 := KH.a1 N (kG (K' ++ [(v, i)])) (kF (K' ++ [(v, i)])) (nI O) nn R C0
            have g2 := KH.a2 N (kG (K' ++ [(v, i)])) (kF (K' ++ [(v, i)])) (nI O) nn R C0
            have d1 := kF_drop K' v i
            have d2 := kG_drop K' v i
            refine AW.cond true (by simp [Int.natCast_inj]) (fun _ => ?_) (fun h => by cases h)
            refine AW.skip ?_
            simp
            refine k3 _ ?_
            refine AW.block ?_
            refine AW.seq fun _ k4 => AW.region [] Θ_ok ?_
            simp [hwr]
            refine k4 _ ?_
            refine AW.seq fun _ k4 => AW.region [] Θ_ok ?_
            simp [hwr, g1, d1]
            refine ⟨by omega, k4 _ ?_⟩
            refine AW.seq fun _ k4 => ?_
            by_cases hil : i < next[v].length
            · have inci := wrap_succ (show i < 9223372036854775807 by omega)
              obtain ⟨w, hw⟩ : ∃ w : Nat, next[v][i] = (w : Int) := ⟨next[v][i].toNat, by have := (ok.lt _ (List.getElem_mem hv) _ (List.getElem_mem hil)).1; omega⟩
              have hwn : w < next.length := by have := (ok.lt _ (List.getElem_mem hv) _ (List.getElem_mem hil)).2; omega
              have hwR : w < R.length := by omega
              have hwl := ok.row _ (List.getElem_mem hwn)
              have sA := has_r9 a w
              refine AW.seq fun _ k5 => AW.draw [] 10 [] Θ_ok mixed (by kernel_rfl) (by kernel_rfl) ?_
              simp [vcDraw, vcPre, vcTail, callA, isAlloc, isLoad, effOp, obl, obA, mkOK, valA, hwr, g2, d2, hv, hil]
              refine ⟨by omega, k5 _ ?_⟩
              refine AW.cond true (by simp [Int.natCast_inj]) (fun _ => ?_) (fun h => by cases h)
              refine AW.seq fun _ k5 => AW.draw [] 11 [] Θ_ok mixed (by kernel_rfl) (by kernel_rfl) ?_
              simp [vcDraw, vcPre, vcTail, callA, isAlloc, isLoad, effOp, obl, obA, mkOK, valA, hwr, g2, d2, hv, hil, hw]
              refine ⟨by omega, k5 _ ?_⟩
              have sG := kG_set K' v i
              have p2 := KH.p2 N (kG (K' ++ [(v, i)])) (kF (K' ++ [(v, i)])) (nI O) nn R C0 (kG (K' ++ [(v, i + 1)]))
              rw [kF_up K' v i (i + 1)] at p2 g2 g1 ⊢
              refine AW.seq fun _ k5 => AW.region [] Θ_ok ?_
              simp [hwr, g2, d2, inci, sG, obTd_mk, p2]
              refine ⟨by omega, k5 _ ?_⟩
              clear g1 g2 d1 d2 sG p2
              have gv : (next.getD v []).length = next[v].length := by simp [hv]
              have hK1 : ∀ p ∈ K' ++ [(v, i + 1)], p.1 < next.length ∧ p.2 ≤ (next.getD p.1 []).length := fun p hp => by
                rcases List.mem_append.1 hp with z | z
                · exact hK p (List.mem_append_left _ z)
                · simp at z; subst z; exact ⟨hv, by simp only; rw [gv]; omega⟩
              have gs := KH.as N (kG (K' ++ [(v, i + 1)])) (kF (K' ++ [(v, i + 1)])) (nI O) nn R C0
              have dk := mapk_drop R hwR
              refine AW.seq fun _ k5 => ?_
              cases ha' : hasN a w with
              | false =>
                rw [ha'] at sA
                refine AW.seq fun _ k6 => AW.regionAt 3 [] Θ_ok fun B hB => ?_
                simp
                refine sA.use (by simp) ?_
                refine hB _ ?_
                clear hB B
                simp
                refine k6 _ ?_
                refine AW.cond false (by simp [Int.natCast_inj]) (fun h => by cases h) (fun _ => ?_)
                refine AW.skip ?_
                simp
                refine k5 _ ?_
                refine AW.exit ?_
                simp
                refine ⟨⟨k2', k1', q, nn, R, O, K' ++ [(v, i + 1)]⟩, ⟨N, I.see ok hv hil hw fun z => (by rw [z.2] at ha'; cases ha'), hK1, hS⟩, ?_, GStep.eq (by simp) (subH.refl _)⟩
                simp only [leftK_snoc, gv]
                omega
              | true =>
                rw [ha'] at sA
                refine AW.seq fun _ k6 => AW.regionAt 3 [] Θ_ok fun B hB => ?_
                simp
                refine sA.use (by simp) ?_
                cases hb' : R[w] with
                | true =>
                  refine hB _ ?_
                  clear hB B
                  simp [gs, hwn, lR, dk, hb']
                  refine k6 _ ?_
                  refine AW.cond false (by simp [Int.natCast_inj]) (fun h => by cases h) (fun _ => ?_)
                  refine AW.skip ?_
                  simp
                  refine k5 _ ?_
                  refine AW.exit ?_
                  simp
                  refine ⟨⟨k2', k1', q, nn, R, O, K' ++ [(v, i + 1)]⟩, ⟨N, I.see ok hv hil hw fun z => (by simp [hasN, hwR, hb']), hK1, hS⟩, ?_, GStep.eq (by simp) (subH.refl _)⟩
                  simp only [leftK_snoc, gv]
                  omega
                | false =>
                  refine hB _ ?_
                  clear hB B
                  simp [gs, hwn, lR, dk, hb']
                  refine k6 _ ?_
                  refine AW.cond true (by simp [Int.natCast_inj]) (fun _ => ?_) (fun h => by cases h)
                  have hnR : hasN R w = false := by simp [hasN, hwR, hb']
                  have I1 := I.seePush ok hv hil hw ⟨hwn, ha'⟩ hnR
                  have lU := leftU_set next R w hwn hwR (by simp [hwR, hb'])
                  have ps := KH.ps N (kG (K' ++ [(v, i + 1)])) (kF (K' ++ [(v, i + 1)])) (nI O) nn R C0 (R.set w true)
                  have ms := mapk_set R w true
                  have hS' : ∀ u, u < x + 1 → hasN a u = true → hasN (R.set w true) u = true := fun u hu hz => by
                    rw [hasN_set R w u hwR]
                    split
                    · rfl
                    · exact hS u hu hz
                  obtain ⟨R', hR'⟩ : ∃ R', R' = R.set w true := ⟨_, rfl⟩
                  rw [← hR'] at ps ms I1 lU hS'
                  refine AW.seq fun _ k6 => AW.region [] Θ_ok ?_
                  simp [gs, hwn, lR, ms, obBk_mk, ps]
                  refine ⟨by omega, k6 _ ?_⟩
                  clear gs ps ms dk
                  have g1 := KH.a1 N (kG (K' ++ [(v, i + 1)])) (kF (K' ++ [(v, i + 1)])) (nI O) nn R' C0
                  obtain ⟨F, hF⟩ : ∃ F, F = kF (K' ++ [(v, i + 1)]) := ⟨_, rfl⟩
                  obtain ⟨G, hG⟩ : ∃ G, G = kG (K' ++ [(v, i + 1)]) := ⟨_, rfl⟩
                  rw [← hF, ← hG] at g1 ⊢
                  have lF : F.length = K'.length + 1 := by rw [hF]; simp
                  have lG : G.length = K'.length + 1 := by rw [hG]; simp
                  have kl : K'.length + 1 ≤ 12000 := by simp at few; omega
                  refine AW.region [] Θ_ok ?_
                  simp [g1, appendA, lF]
                  refine ⟨rfl, ⟨by omega, by omega⟩, fun o1 ho1 => ⟨rfl, ?_⟩⟩
                  obtain ⟨he, N1⟩ := KH.g1 N G F (nI O) nn R' C0 ho1 (F ++ [(w : Int)])
                  rw [obTd_snocK _ _ _ lF.symm, he, KH.a2 N1 G (F ++ [(w : Int)]) (nI O) nn R' C0]
                  refine ⟨⟨rfl, rfl, by simp [lG], by omega, by omega⟩, fun o2 ho2 => k5 _ ?_⟩
                  obtain ⟨he2, N2⟩ := KH.g2 N1 G (F ++ [(w : Int)]) (nI O) nn R' C0 ho2 (G ++ [0])
                  simp only [obTd_cells]
                  rw [obTd_snocK _ _ _ lG.symm, he2]
                  obtain ⟨K2, hK2⟩ : ∃ K2, K2 = K' ++ [(v, i + 1)] ++ [(w, 0)] := ⟨_, rfl⟩
                  have hF2 : F ++ [(w : Int)] = kF K2 := by rw [hF, hK2, ← kF_snoc]
                  have hG2 : G ++ [0] = kG K2 := by rw [hG, hK2]; exact (kG_snoc _ _ _).symm
                  have lK2 : K2.length = K'.length + 1 + 1 := by rw [hK2]; simp
                  rw [hF2, hG2]
                  rw [← hK2] at I1
                  refine AW.exit ?_
                  simp
                  refine ⟨⟨o2, o1, q, nn, R', O, K2⟩, ⟨N2, I1, fun p hp => ?_, hS'⟩, ?_, GStep.eq (by simp [lK2]) (subH.refl _)⟩
                  · rw [hK2] at hp
                    rcases List.mem_append.1 hp with z | z
                    · exact hK1 p z
                    · simp at z; subst z; exact ⟨hwn, Nat.zero_le _⟩
                  · rw [hK2]; simp only [leftK_snoc, gv]
                    have : (next.getD w []).length = next[w].length := by simp [hwn]
                    omega
            · have hie : i = next[v].length := by omega
              refine AW.seq fun _ k5 => AW.draw [] 10 [] Θ_ok mixed (by kernel_rfl) (by kernel_rfl) ?_
              simp [vcDraw, vcPre, vcTail, callA, isAlloc, isLoad, effOp, obl, obA, mkOK, valA, hwr, g2, d2, hv, hil]
              refine ⟨by omega, k5 _ ?_⟩
              refine AW.cond false (by simp [Int.natCast_inj]) (fun h => by cases h) (fun _ => ?_)
              refine AW.skip ?_
              simp
              refine k4 _ ?_
              have gq := KH.aq N (kG (K' ++ [(v, i)])) (kF (K' ++ [(v, i)])) (nI O) nn R C0
              have lO : O.length ≤ 12000 := by omega
              clear g1 g2 d1 d2
              refine AW.seq fun _ k4 => AW.region [] Θ_ok ?_
              simp [gq, appendA]
              refine ⟨rfl, ⟨by omega, by omega⟩, fun q' hq' => k4 _ ?_⟩
              obtain ⟨he, N'⟩ := KH.gq N (kG (K' ++ [(v, i)])) (kF (K' ++ [(v, i)])) (nI O) nn R C0 hq' (nI (O ++ [v]))
              rw [nI_snoc] at he
              rw [obTd_snocK _ _ _ (by simp), he, ← nI_snoc]
              clear he hq' gq
              have I1 := I.leave ok hv hie
              have g1 := KH.a1 N' (kG (K' ++ [(v, i)])) (kF (K' ++ [(v, i)])) (nI (O ++ [v])) true R C0
              have g2 := KH.a2 N' (kG (K' ++ [(v, i)])) (kF (K' ++ [(v, i)])) (nI (O ++ [v])) true R C0
              refine AW.draw [] 8 [] Θ_ok mixed (by kernel_rfl) (by kernel_rfl) ?_
              simp [vcDraw, vcPre, vcTail, callA, isAlloc, isLoad, effOp, obl, obA, mkOK, valA, hwr, g1, g2]
              refine ⟨by omega, ⟨k2', k1', q', true, R, O ++ [v], K'⟩, ⟨N', I1, fun p hp => hK p (List.mem_append_left _ hp), hS⟩, ?_, GStep.trans (KH.cut N' K' v i _ _ _ _ _ _) (GStep.eq (by simp) (subH.refl _))⟩
              simp only [leftK_snoc]
              rw [show (next.getD v []).length = next[v].length by simp [hv]]
              omega
    · obtain rfl : x = next.length := by omega
      refine AW.seq fun _ k2 => AW.cond false (by simp [Int.natCast_inj]) (fun h => by cases h) (fun _ => ?_)
      refine AW.exit ?_
      simp
      refine k1 _ ⟨q, nn, R, O, 0⟩ ⟨N, I, hS⟩ (GStep.eq (by simp) ?_)
      simp only
      rw [show HL h [(q, obTd (nI O) nn), (c, obTd C0 true)] = upd (HL h [(q, obTd (nI O) nn), (s, obBk R), (c, obTd C0 true)]) s none from (HL.del (h0 := h) (l := [(q, obTd (nI O) nn), (s, obBk R), (c, obTd C0 true)]) (k := 1) N rfl).symm]
      exact upd_none_sub _ _
  · rintro ⟨q, nn, R, O, _⟩ ⟨N, I, hS⟩
    simp only at N I hS ⊢
    have hO := I.ord
    have hOS : ∀ v, kS next a v → v ∈ O := fun v hv => by
      rcases (I.r v).1 (hS v hv.1 hv.2) with z | z
      · exact z
      · simp at z
    have hSO : ∀ v ∈ O, kS next a v := hO.2.1
    have lO : O.length ≤ 12000 := by have := I.few; simp at this; omega
    have Nqc : HN h [q, c] := HN.del (k := 1) N
    refine AW.freeze 12 false (o := q) (n := O.length) (x := obTd (nI O) nn) (by simp) (HL.at (k := 0) Nqc.nd rfl) (fun z => by cases z) rfl (by simp) (fun u hu => by obtain ⟨z, _, rfl⟩ := List.mem_map.1 hu; rfl) ?_
    simp only [obTd_cells]
    rw [HL.del (h0 := h) (l := [(q, obTd (nI O) nn), (c, obTd C0 true)]) (k := 0) Nqc rfl]
    have Nc : HN h [c] := HN.del (k := 0) Nqc
    simp only [List.eraseIdx_cons_zero]
    clear Nqc N hS I R nn
    refine AW.seq fun _ k1 => AW.region [158] Θ_ok ?_
    simp [newA]
    have e1 : List.flatMap AV.flat (List.replicate next.length (AV.bool false)) = (List.replicate next.length false).map AV.bool := by
      rw [flat_ones (fun u hu => by rw [(List.mem_replicate.1 hu).2]; rfl)]; simp
    rw [e1, obBk_mk]
    refine ⟨by omega, fun d hd => k1 _ ?_⟩
    clear e1
    have Nd : HN h [d, c] := HL.new (l := [(c, obTd C0 true)]) Nc hd
    have P0 := P3.init (E := kE next) (S := kS next a) (n := next.length) (O := O) (D := List.replicate next.length false) (C := C0) rfl hC0
    have wO : IntKind.i64.wrap ((O.length : Int) - 1) = (O.length : Int) - 1 := wrap_id (by omega) (by omega)
    obtain ⟨OI, hOI⟩ : ∃ OI, OI = nI O := ⟨_, rfl⟩
    have lOI : OI.length = O.length := by rw [hOI]; simp
    rw [← hOI]
    refine AW.seqEx (X := List Int) (fun C => CirOk (kE next) (kS next a) next.length C) (fun C => ⟨247, [(5, .mu c next.length)], HL h [(c, obTd C true)]⟩) (fun _ k1 => ?_) ?_
    · refine AW.seq fun _ k2 => AW.region [] Θ_ok ?_
      simp [wO, lOI]
      refine k2 _ ?_
      refine AW.block ?_
      refine AW.loopI (X := K3) (fun t => P3 (kE next) (kS next a) next.length O t.x t.D t.C ∧ t.x ≤ O.length)
        (fun t => ⟨247, [(0, .ro false (rows next)), (1, .ro false (bools a)), (5, .mu c next.length), (6, .ro true (rows BK)), (12, .ro false (ints OI)), (19, .mu d next.length), (20, .int .i64 ((t.x : Int) - 1))], HL h [(d, obBk t.D), (c, obTd t.C true)]⟩)
        (fun t => t.x) ⟨List.replicate next.length false, C0, O.length⟩ ⟨P0, Nat.le_refl _⟩ (GStep.eq (by simp) (subH.refl _)) ?_
      clear P0 wO hd
      rintro ⟨D, C, x⟩ ⟨P, hx⟩
      simp only at P hx ⊢
      refine AW.seq fun _ k2 => ?_
      refine AW.seq fun _ k3 => AW.region [] Θ_ok ?_
      simp
      refine k3 _ ?_
      cases x with
      | zero =>
        refine AW.cond false (by simp [Int.natCast_inj]) (fun h => by cases h) (fun _ => ?_)
        refine AW.exit ?_
        simp
        refine k1 _ C (P.done hOS) (GStep.eq (by simp) ?_)
        simp only
        exact HL.tl (l := [(c, obTd C true)]) (A := obBk D) Nd
      | succ i =>
        obtain ⟨v, hv⟩ : ∃ v, O[i]? = some v := ⟨O[i], List.getElem?_eq_getElem (by omega)⟩
        have hvm : v ∈ O := List.mem_of_getElem? hv
        have hSv := hSO v hvm
        have hvn : v < next.length := hSv.1
        have hOIi : OI[i]? = some (v : Int) := by rw [hOI]; exact nI_get hv
        have hiO : i < O.length := by omega
        have e1 : ((i + 1 : Nat) : Int) - 1 = (i : Int) := by omega
        have hvD : v < D.length := by rw [P.dlen]; exact hvn
        have gd : HL h [(d, obBk D), (c, obTd C true)] d = some (obBk D) := HL.at (k := 0) Nd.nd rfl
        have dk := mapk_drop D hvD
        have lD := P.dlen
        have e2 : IntKind.i64.wrap ((i : Int) - 1) = (i : Int) - 1 := wrap_id (by omega) (by omega)
        have e3 : (1 : Int) ≤ (i : Int) + 1 := by omega
        have hiO' : i < OI.length := by omega
        have hOIg : OI[i] = (v : Int) := by rw [List.getElem?_eq_getElem hiO'] at hOIi; exact Option.some.inj hOIi
        rw [e1]
        refine AW.cond true (by simp [Int.natCast_inj, e3]) (fun _ => ?_) (fun h => by cases h)
        refine AW.skip ?_
        simp
        refine k2 _ ?_
        refine AW.seq fun _ k2 => ?_
        refine AW.block ?_
        refine AW.seq fun _ k3 => AW.region [] Θ_ok ?_
        simp [hOIg, lOI, hiO]
        refine k3 _ ?_
        refine AW.seq fun _ k3 => ?_
        cases hb : D[v] with
        | true =>
          refine AW.seq fun _ k4 => AW.region [] Θ_ok ?_
          simp [gd, lD, hvn, dk, hb]
          refine k4 _ ?_
          refine AW.cond true (by simp [Int.natCast_inj]) (fun _ => ?_) (fun h => by cases h)
          refine AW.exit ?_
          simp
          refine k2 _ ?_
          refine AW.region [] Θ_ok ?_
          simp [e2]
          exact ⟨⟨D, C, i⟩, ⟨P.old hv (by simp [hasN, hvD, hb]), by simp only; omega⟩, by simp only; omega, GStep.eq (by simp) (subH.refl _)⟩
        | false =>
          refine AW.seq fun _ k4 => AW.region [] Θ_ok ?_
          simp [gd, lD, hvn, dk, hb]
          refine k4 _ ?_
          refine AW.cond false (by simp [Int.natCast_inj]) (fun h => by cases h) (fun _ => ?_)
          refine AW.skip ?_
          simp
          refine k3 _ ?_
          have hnD : hasN D v = false := by simp [hasN, hvD, hb]
          have comp := P.comp hO hOS hv hnD
          have ms := mapk_set D v true
          have pd : upd (HL h [(d, obBk D), (c, obTd C true)]) d (some (obBk (D.set v true))) = HL h [(d, obBk (D.set v true)), (c, obTd C true)] := HL.put (k := 0) Nd.nd rfl
          have B0 := Bf.init (next := next) (a := a) P.dlen hSv hnD
          obtain ⟨D', hD'⟩ : ∃ D', D' = D.set v true := ⟨_, rfl⟩
          rw [← hD'] at ms pd B0
          refine AW.seq fun _ k3 => AW.region [] Θ_ok ?_
          simp [gd, lD, hvn, ms, obBk_mk, pd]
          refine ⟨by omega, k3 _ ?_⟩
          clear gd dk ms pd hD' 
          refine AW.seq fun _ k3 => AW.region [178] Θ_ok ?_
          simp [newA]
          refine fun l hl' => k3 _ ?_
          have Nl : HN h [l, d, c] := HL.new (l := [(d, obBk D'), (c, obTd C true)]) Nd hl'
          rw [show upd (HL h [(d, obBk D'), (c, obTd C true)]) l (some ⟨[.int .i64 (v : Int)], 3, 1, true⟩) = K3H h l d c (nI [v]) D' C from rfl]
          clear hl'
          refine AW.seqEx (X := KL) (fun t => HN h [t.l, d, c] ∧ Bf next a D v t.D t.L ∧ ∀ x ∈ t.L, ∀ u, kE next u x → kS next a u → hasN t.D u = true)
            (fun t => ⟨247, [(0, .ro false (rows next)), (1, .ro false (bools a)), (5, .mu c next.length), (6, .ro true (rows BK)), (12, .ro false (ints OI)), (19, .mu d next.length), (20, .int .i64 (i : Int)), (21, .int .i64 (v : Int)), (22, .mu t.l t.L.length)], K3H h t.l d c (nI t.L) t.D C⟩) (fun _ k4 => ?_) ?_
          · refine AW.seq fun _ k5 => AW.region [] Θ_ok ?_
            simp
            refine k5 _ ?_
            refine AW.block ?_
            refine AW.loopI (X := KL) (KLok next a D v h d c)
              (fun t => ⟨247, [(0, .ro false (rows next)), (1, .ro false (bools a)), (5, .mu c next.length), (6, .ro true (rows BK)), (12, .ro false (ints OI)), (19, .mu d next.length), (20, .int .i64 (i : Int)), (21, .int .i64 (v : Int)), (22, .mu t.l t.L.length), (23, .int .i64 (t.k : Int))], K3H h t.l d c (nI t.L) t.D C⟩)
              (fun t => next.length - t.k) ⟨l, D', [v], 0⟩ ⟨Nl, B0, Nat.zero_le _, fun x hx => by simp at hx⟩ (GStep.eq (by simp) (subH.refl _)) ?_
            clear Nl B0 D' l
            rintro ⟨l, D', L, k⟩ ⟨N, B, hk, hcl⟩
            simp only at N B hk hcl ⊢
            have fewL := B.few
            refine AW.seq fun _ k3 => ?_
            refine AW.seq fun _ k5 => AW.region [] Θ_ok ?_
            simp
            refine k5 _ ?_
            by_cases hkl : k < L.length
            · have hkl' : (k : Int) < L.length := by omega
              refine AW.cond true (by simp [Int.natCast_inj, hkl]) (fun _ => ?_) (fun h => by cases h)
              refine AW.skip ?_
              simp
              refine k3 _ ?_
              obtain ⟨xk, hxk⟩ : ∃ x, L[k]? = some x := ⟨L[k], List.getElem?_eq_getElem hkl⟩
              have hxL : xk ∈ L := List.mem_of_getElem? hxk
              have hxn : xk < next.length := (B.s xk hxL).1
              obtain ⟨rt, hrt⟩ := nI_at hxk
              have al := K3H.al N (nI L) D' C
              have inck := wrap_succ (show k < 9223372036854775807 by omega)
              have hBKx : xk < BK.length := by rw [hBK]; simpa using hxn
              have hBKg : BK[xk] = bkL next xk := by simp [hBK]
              have hbl := bkL_len ok xk
              refine AW.seq fun _ k3 => ?_
              refine AW.block ?_
              refine AW.seq fun _ k5 => AW.region [] Θ_ok ?_
              simp [al, hkl, hrt, hBKx, hBKg, hxn]
              refine k5 _ ?_
              refine AW.block ?_
              refine AW.loopI (X := KL) (KLy next a D v h d c k xk)
                (fun t => ⟨247, [(0, .ro false (rows next)), (1, .ro false (bools a)), (5, .mu c next.length), (6, .ro true (rows BK)), (12, .ro false (ints OI)), (19, .mu d next.length), (20, .int .i64 (i : Int)), (21, .int .i64 (v : Int)), (22, .mu t.l t.L.length), (23, .int .i64 (k : Int)), (191, .ro false (ints (bkL next xk))), (192, .int .i64 ((bkL next xk).length : Int)), (193, .int .i64 (t.k : Int))], K3H h t.l d c (nI t.L) t.D C⟩)
                (fun t => (bkL next xk).length - t.k) ⟨l, D', L, 0⟩ ⟨N, B, hkl, hxk, hcl, Nat.zero_le _, fun u hu => by simp at hu⟩ (GStep.eq (by simp) (subH.refl _)) ?_
              clear al hrt rt N B hcl hk hkl hkl' hxk hxL fewL D' l L
              rintro ⟨l, D', L, y⟩ ⟨N, Bq, hkl, hxk, hcl, hy, hcy⟩
              simp only at N Bq hkl hxk hcl hy hcy ⊢
              have fewL := Bq.few
              have lD' := Bq.len
              have hxL : xk ∈ L := List.mem_of_getElem? hxk
              refine AW.seq fun _ k5 => AW.region [] Θ_ok ?_
              simp
              refine k5 _ ?_
              by_cases hly : y < (bkL next xk).length
              · have incy := wrap_succ (show y < 9223372036854775807 by omega)
                obtain ⟨w, hw, hwe⟩ := bkL_mem.1 (List.getElem_mem hly)
                have hwn : w < next.length := hwe.1
                have hwD : w < D'.length := by omega
                have sA := has_r9 a w
                have ad := K3H.ad N (nI L) D' C
                have dk := mapk_drop D' hwD
                have htk : ∀ z : Nat, (z : Int) ∈ (bkL next xk).take (y + 1) → (z : Int) ∈ (bkL next xk).take y ∨ z = w := by
                  intro z hz
                  rw [List.take_succ_eq_append_getElem hly, hw] at hz
                  rcases List.mem_append.1 hz with h1 | h1
                  · exact .inl h1
                  · simp at h1; exact .inr (by omega)
                refine AW.seq fun _ k5 => AW.cond true (by simp [Int.natCast_inj, hly]) (fun _ => ?_) (fun h => by cases h)
                refine AW.skip ?_
                simp
                refine k5 _ ?_
                refine AW.seq fun _ k5 => ?_
                refine AW.block ?_
                refine AW.seq fun _ k6 => AW.region [] Θ_ok ?_
                simp [hly, hw]
                refine k6 _ ?_
                cases ha : hasN a w with
                | false =>
                  rw [ha] at sA
                  refine AW.seq fun _ k6 => AW.regionAt 3 [] Θ_ok fun B hB => ?_
                  simp
                  refine sA.use (by simp) ?_
                  refine hB _ ?_
                  clear hB B
                  simp
                  refine k6 _ ?_
                  refine AW.cond false (by simp [Int.natCast_inj]) (fun h => by cases h) (fun _ => ?_)
                  refine AW.skip ?_
                  simp
                  refine k5 _ ?_
                  refine AW.region [] Θ_ok ?_
                  simp
                  refine ⟨⟨l, D', L, y + 1⟩, ⟨N, Bq, hkl, hxk, hcl, hly, fun z hz hs => ?_⟩, by simp only; omega, GStep.eq (by simp [incy]) (subH.refl _)⟩
                  rcases htk z hz with q | q
                  · exact hcy z q hs
                  · subst q; have := hs.2; rw [ha] at this; cases this
                | true =>
                  rw [ha] at sA
                  refine AW.seq fun _ k6 => AW.regionAt 3 [] Θ_ok fun B hB => ?_
                  simp
                  refine sA.use (by simp) ?_
                  cases hb' : D'[w] with
                  | true =>
                    refine hB _ ?_
                    clear hB
                    simp [ad, hwn, lD', dk, hb']
                    refine k6 _ ?_
                    refine AW.cond false (by simp [Int.natCast_inj]) (fun h => by cases h) (fun _ => ?_)
                    refine AW.skip ?_
                    simp
                    refine k5 _ ?_
                    refine AW.region [] Θ_ok ?_
                    simp
                    refine ⟨⟨l, D', L, y + 1⟩, ⟨N, Bq, hkl, hxk, hcl, hly, fun z hz hs => ?_⟩, by simp only; omega, GStep.eq (by simp [incy]) (subH.refl _)⟩
                    rcases htk z hz with q | q
                    · exact hcy z q hs
                    · subst q; simp [hasN, hwD, hb']
                  | false =>
                    refine hB _ ?_
                    clear hB
                    simp [ad, hwn, lD', dk, hb']
                    refine k6 _ ?_
                    refine AW.cond true (by simp [Int.natCast_inj]) (fun _ => ?_) (fun h => by cases h)
                    have hnw : hasN D' w = false := by simp [hasN, hwD, hb']
                    have B2 := Bq.add hxL hwe ⟨hwn, ha⟩ hnw
                    have grow : ∀ u, hasN D' u = true → hasN (D'.set w true) u = true := fun u hu => by
                      rw [hasN_set D' w u hwD]; split
                      · rfl
                      · exact hu
                    have self : hasN (D'.set w true) w = true := by rw [hasN_set D' w w hwD, if_pos rfl]
                    have ms := mapk_set D' w true
                    have pd := K3H.pd N (nI L) D' C (D'.set w true)
                    have al := K3H.al N (nI L) (D'.set w true) C
                    obtain ⟨D2, hD2⟩ : ∃ D2, D2 = D'.set w true := ⟨_, rfl⟩
                    rw [← hD2] at B2 grow self ms pd al
                    refine AW.seq fun _ k6 => AW.region [] Θ_ok ?_
                    simp [ad, hwn, lD', ms, obBk_mk, pd]
                    refine ⟨by omega, k6 _ ?_⟩
                    refine AW.region [] Θ_ok ?_
                    simp [al, appendA]
                    refine ⟨rfl, ⟨by omega, by omega⟩, fun l2 hl2 => k5 _ ?_⟩
                    obtain ⟨he, N2⟩ := K3H.gl N (nI L) D2 C hl2 (nI (L ++ [w]))
                    rw [nI_snoc] at he
                    rw [obTd_snocK _ _ _ (by simp), he, ← nI_snoc]
                    refine AW.region [] Θ_ok ?_
                    simp
                    have tk : (L ++ [w]).take k = L.take k := List.take_append_of_le_length (by omega)
                    refine ⟨⟨l2, D2, L ++ [w], y + 1⟩, ⟨N2, B2, by simp; omega, by rw [List.getElem?_append_left hkl]; exact hxk, fun x hx u he hs => ?_, hly, fun z hz hs => ?_⟩, by simp only; omega, GStep.eq (by simp [incy]) (subH.refl _)⟩
                    · simp only at hx ⊢
                      rw [tk] at hx
                      exact grow u (hcl x hx u he hs)
                    · simp only at hz ⊢
                      rcases htk z hz with q | q
                      · exact grow z (hcy z q hs)
                      · subst q; exact self
              · obtain rfl : y = (bkL next xk).length := by omega
                refine AW.seq fun _ k5 => AW.cond false (by simp) (fun h => by cases h) (fun _ => ?_)
                refine AW.exit ?_
                simp
                refine k3 _ ?_
                refine AW.region [] Θ_ok ?_
                simp
                refine ⟨⟨l, D', L, k + 1⟩, ⟨N, Bq, by simp only; omega, fun x hx u he hs => ?_⟩, by simp only; omega, GStep.eq (by simp [inck]) (subH.refl _)⟩
                simp only at hx ⊢
                rw [List.take_add_one, hxk] at hx
                rcases List.mem_append.1 hx with q | q
                · exact hcl x q u he hs
                · simp at q; subst q
                  exact hcy u (by rw [List.take_length]; exact bkL_mem.2 ⟨u, rfl, he⟩) hs
            · have hke : k = L.length := by omega
              subst hke
              refine AW.cond false (by simp [Int.natCast_inj]) (fun h => by cases h) (fun _ => ?_)
              refine AW.exit ?_
              simp
              refine k4 _ ⟨l, D', L, 0⟩ ⟨N, B, fun x hx => hcl x (by rw [List.take_length]; exact hx)⟩ (GStep.eq (by simp) (subH.refl _))
          · rintro ⟨l, D', L, _⟩ ⟨N, Bq, hcl⟩
            simp only at N Bq hcl ⊢
            have hL : ∀ u, u ∈ L ↔ Same (kE next) (kS next a) u v := fun u => (Bq.done hcl u).trans (comp u)
            have hloop := Bq.loop hL
            have fewL := Bq.few
            have hd' : ∀ u, hasN D' u = true ↔ hasN D u = true ∨ Same (kE next) (kS next a) u v := fun u => (Bq.d u).trans (or_congr Iff.rfl (hL u))
            have lC := P.clen
            have hrv := ok.row _ (List.getElem_mem hvn)
            have hgv : next.getD v [] = next[v] := by simp [hvn]
            refine AW.freeze 22 true (o := l) (n := L.length) (x := obTd (nI L) true) (by simp) (K3H.al N _ _ _) (fun _ => rfl) rfl (by simp) (fun u hu => by obtain ⟨z, _, rfl⟩ := List.mem_map.1 hu; rfl) ?_
            simp only [obTd_cells]
            rw [K3H.dl N]
            obtain ⟨LI, hLI⟩ : ∃ LI, LI = nI L := ⟨_, rfl⟩
            have lLI : LI.length = L.length := by rw [hLI]; simp
            rw [← hLI]
            have lz := lpB_zero L.length next[v] v
            refine AW.seq fun _ k3 => AW.region [] Θ_ok ?_
            simp [lLI, ← lz]
            refine k3 _ ?_
            refine AW.seqTo ⟨247, [(0, .ro false (rows next)), (1, .ro false (bools a)), (5, .mu c next.length), (6, .ro true (rows BK)), (12, .ro false (ints OI)), (19, .mu d next.length), (20, .int .i64 (i : Int)), (21, .int .i64 (v : Int)), (22, .ro true (ints LI)), (26, .bool (lpB L.length next[v] v next[v].length))], HL h [(d, obBk D'), (c, obTd C true)]⟩ (fun _ k4 => ?_) ?_
            · refine AW.seq fun _ k5 => AW.region [] Θ_ok ?_
              simp [hvn]
              refine k5 _ ?_
              refine AW.block ?_
              refine AW.loopI (X := Nat) (fun y => y ≤ next[v].length)
                (fun y => ⟨247, [(0, .ro false (rows next)), (1, .ro false (bools a)), (5, .mu c next.length), (6, .ro true (rows BK)), (12, .ro false (ints OI)), (19, .mu d next.length), (20, .int .i64 (i : Int)), (21, .int .i64 (v : Int)), (22, .ro true (ints LI)), (26, .bool (lpB L.length next[v] v y)), (221, .ro false (ints next[v])), (222, .int .i64 next[v].length), (223, .int .i64 (y : Int))], HL h [(d, obBk D'), (c, obTd C true)]⟩)
                (fun y => next[v].length - y) 0 (Nat.zero_le _) (GStep.eq (by simp) (subH.refl _)) fun y hy => ?_
              refine AW.seq fun _ k5 => AW.region [] Θ_ok ?_
              simp
              refine k5 _ ?_
              by_cases hly : y < next[v].length
              · have incy := wrap_succ (show y < 9223372036854775807 by omega)
                have st := lpB_step L.length next[v] v hly
                refine AW.seq fun _ k5 => AW.cond true (by simp [Int.natCast_inj, hly]) (fun _ => ?_) (fun h => by cases h)
                refine AW.skip ?_
                simp
                refine k5 _ ?_
                refine AW.seq fun _ k5 => ?_
                refine AW.block ?_
                refine AW.seq fun _ k6 => AW.region [] Θ_ok ?_
                simp [hly]
                refine k6 _ ?_
                cases hlp : lpB L.length next[v] v y with
                | true =>
                  rw [hlp, Bool.true_or] at st
                  refine AW.region [] Θ_ok ?_
                  simp
                  refine k5 _ ?_
                  refine AW.region [] Θ_ok ?_
                  simp
                  exact ⟨y + 1, hly, by omega, GStep.eq (by simp [incy, st]) (subH.refl _)⟩
                | false =>
                  rw [hlp, Bool.false_or] at st
                  refine AW.region [] Θ_ok ?_
                  simp
                  refine k5 _ ?_
                  refine AW.region [] Θ_ok ?_
                  simp
                  exact ⟨y + 1, hly, by omega, GStep.eq (by simp [incy, st]) (subH.refl _)⟩
              · obtain rfl : y = next[v].length := by omega
                refine AW.seq fun _ k5 => AW.cond false (by simp) (fun h => by cases h) (fun _ => ?_)
                refine AW.exit ?_
                simp
                exact k4 _ (GStep.eq (by simp) (subH.refl _))
            have hlw : lpB L.length next[v] v next[v].length = true ↔ Way (kE next) (kS next a) v v := by
              rw [lpB_all, hloop]
              refine or_congr Iff.rfl ⟨fun q => ⟨hvn, by rw [hgv]; exact q⟩, fun q => by have := q.2; rwa [hgv] at this⟩
            clear lz
            refine AW.seq fun _ k3 => AW.region [] Θ_ok ?_
            simp
            refine k3 _ ?_
            cases hlp : lpB L.length next[v] v next[v].length with
            | false =>
              have nw : ¬ Way (kE next) (kS next a) v v := fun q => by have := hlw.2 q; rw [hlp] at this; cases this
              refine AW.cond false (by simp [Int.natCast_inj]) (fun h => by cases h) (fun _ => ?_)
              refine AW.skip ?_
              simp
              refine k2 _ ?_
              refine AW.region [] Θ_ok ?_
              simp [e2]
              exact ⟨⟨D', C, i⟩, ⟨P.new hv hSv hnD Bq.len lC hd' (fun u _ _ q => absurd q nw) (fun u _ _ => rfl) (fun u hu => hu.1), by simp only; omega⟩, by simp only; omega, GStep.eq (by simp) (subH.refl _)⟩
            | true =>
              have yw := hlw.1 hlp
              refine AW.cond true (by simp [Int.natCast_inj]) (fun _ => ?_) (fun h => by cases h)
              refine AW.seq fun _ k3 => AW.region [] Θ_ok ?_
              simp [lLI]
              refine k3 _ ?_
              refine AW.block ?_
              refine AW.loopI (X := K3) (CWok L C v next.length)
                (fun t => ⟨247, [(0, .ro false (rows next)), (1, .ro false (bools a)), (5, .mu c next.length), (6, .ro true (rows BK)), (12, .ro false (ints OI)), (19, .mu d next.length), (20, .int .i64 (i : Int)), (21, .int .i64 (v : Int)), (235, .ro true (ints LI)), (236, .int .i64 (L.length : Int)), (237, .int .i64 (t.x : Int))], HL h [(d, obBk D'), (c, obTd t.C true)]⟩)
                (fun t => L.length - t.x) ⟨[], C, 0⟩ ⟨lC, Nat.zero_le _, fun u hu => by simp⟩ (GStep.eq (by simp) (subH.refl _)) ?_
              rintro ⟨J, C', y⟩ ⟨lC', hy, hg⟩
              simp only at lC' hy hg ⊢
              refine AW.seq fun _ k3 => AW.region [] Θ_ok ?_
              simp
              refine k3 _ ?_
              by_cases hly : y < L.length
              · have incy := wrap_succ (show y < 9223372036854775807 by omega)
                obtain ⟨u, hu⟩ : ∃ u, L[y]? = some u := ⟨L[y], List.getElem?_eq_getElem hly⟩
                have huL : u ∈ L := List.mem_of_getElem? hu
                have hun : u < next.length := (Bq.s u huL).1
                have hyL : y < LI.length := by omega
                have hLg : LI[y] = (u : Int) := by
                  have := nI_get hu
                  rw [← hLI, List.getElem?_eq_getElem hyL] at this
                  exact Option.some.inj this
                have gc : HL h [(d, obBk D'), (c, obTd C' true)] c = some (obTd C' true) := HL.at (k := 1) Nd.nd rfl
                have os := mapi_set C' u (v : Int)
                have pc : upd (HL h [(d, obBk D'), (c, obTd C' true)]) c (some (obTd (C'.set u (v : Int)) true)) = HL h [(d, obBk D'), (c, obTd (C'.set u (v : Int)) true)] := HL.put (k := 1) Nd.nd rfl
                have lC2 : (C'.set u (v : Int)).length = next.length := by rw [List.length_set]; exact lC'
                have hg2 : ∀ z, z < next.length → (C'.set u (v : Int))[z]? = if z ∈ L.take (y + 1) then some (v : Int) else C[z]? := fun z hz => by
                  rw [List.take_add_one, hu]
                  simp only [Option.toList_some, List.mem_append, List.mem_singleton]
                  by_cases e : z = u
                  · subst e
                    rw [if_pos (.inr rfl), List.getElem?_set_self (by omega)]
                  · rw [List.getElem?_set_ne (Ne.symm e), hg z hz]
                    simp [e]
                obtain ⟨C2, hC2⟩ : ∃ C2, C2 = C'.set u (v : Int) := ⟨_, rfl⟩
                rw [← hC2] at os pc lC2 hg2
                refine AW.seq fun _ k3 => AW.cond true (by simp [Int.natCast_inj, hly]) (fun _ => ?_) (fun h => by cases h)
                refine AW.skip ?_
                simp
                refine k3 _ ?_
                refine AW.seq fun _ k3 => ?_
                refine AW.block ?_
                refine AW.seq fun _ k4 => AW.region [] Θ_ok ?_
                simp [hyL, hLg]
                refine k4 _ ?_
                refine AW.region [] Θ_ok ?_
                simp [gc, lC', hun, os, obTd_mk, pc]
                refine ⟨by omega, k3 _ ?_⟩
                refine AW.region [] Θ_ok ?_
                simp
                exact ⟨⟨[], C2, y + 1⟩, ⟨lC2, hly, hg2⟩, by simp only; omega, GStep.eq (by simp [incy]) (subH.refl _)⟩
              · obtain rfl : y = L.length := by omega
                refine AW.seq fun _ k3 => AW.cond false (by simp) (fun h => by cases h) (fun _ => ?_)
                refine AW.exit ?_
                simp
                refine k2 _ ?_
                refine AW.region [] Θ_ok ?_
                simp [e2]
                rw [List.take_length] at hg
                exact ⟨⟨D', C', i⟩, ⟨P.new hv hSv hnD Bq.len lC' hd' (fun u hu q _ => by rw [hg u hu, if_pos ((hL u).2 q)]) (fun u hu q => by rw [hg u hu, if_neg fun z => q ⟨(hL u).1 z, yw⟩]) (fun u hu => hu.1), by simp only; omega⟩, by simp only; omega, GStep.eq (by simp) (subH.refl _)⟩
    · rintro C hC
      refine AW.seq fun _ kr => AW.region [] Θ_ok ?_
      simp
      refine kr _ (AW.ret ?_)
      simp [Try.f82]
      refine Fin.freeze (k := true) (x := obTd C true) (HL.at (k := 0) Nc.nd rfl) (fun _ => rfl) rfl (by simp [hC.len]) (fun u hu => by obtain ⟨z, _, rfl⟩ := List.mem_map.1 hu; rfl) h ?_ ⟨C, rfl, hC, rfl⟩
      rw [HL.del (h0 := h) (l := [(c, obTd C true)]) (k := 0) Nc rfl]
      exact subH.refl _
end Go.Par
