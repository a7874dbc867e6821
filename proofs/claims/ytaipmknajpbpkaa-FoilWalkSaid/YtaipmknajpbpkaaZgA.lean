/- Texts PrA PrB PrC PrD PrE PrF, one behind another. -/
import Derived.Test.YtaipmknajpbpkaaPyB
import Derived.Test.YtaipmknajpbpkaaAgB
import Derived.Test.YtaipmknajpbpkaaPyC
set_option linter.unusedSimpArgs false
set_option linter.unusedVariables false
set_option maxRecDepth 8000
set_option maxHeartbeats 1000000
namespace Go.Par
open Go.Proofs

/-- The names of what a solver holds. -/
structure ZN where
  s : Nat
  w : Nat
  t : Nat
  q : Nat
  nn : Bool

def obZ (g : G) (P : List Int) (k : ZN) (n : Nat) : Ob := ⟨[.ro false (ints g.owner), .ro false (rows g.next), .ro false (ints P), .mu k.w g.owner.length, .mu k.t g.owner.length, .mu k.q n], 88, 6, true⟩
@[simp] theorem obZ_cells (g : G) (P : List Int) (k : ZN) (n : Nat) : (obZ g P k n).cells = [.ro false (ints g.owner), .ro false (rows g.next), .ro false (ints P), .mu k.w g.owner.length, .mu k.t g.owner.length, .mu k.q n] := rfl
@[simp] theorem obZ_ty (g : G) (P : List Int) (k : ZN) (n : Nat) : (obZ g P k n).ty = 88 := rfl
@[simp] theorem obZ_sz (g : G) (P : List Int) (k : ZN) (n : Nat) : (obZ g P k n).sz = 6 := rfl
@[simp] theorem obZ_nn (g : G) (P : List Int) (k : ZN) (n : Nat) : (obZ g P k n).nn = true := rfl
def obQ (fs : List Nat) (nn : Bool) : Ob := ⟨fs.reverse.map fun f => .ptr f 0, 103, 1, nn⟩
@[simp] theorem obQ_cells (fs : List Nat) (nn : Bool) : (obQ fs nn).cells = fs.reverse.map fun f => .ptr f 0 := rfl
@[simp] theorem obQ_ty (fs : List Nat) (nn : Bool) : (obQ fs nn).ty = 103 := rfl
@[simp] theorem obQ_sz (fs : List Nat) (nn : Bool) : (obQ fs nn).sz = 1 := rfl
@[simp] theorem obQ_nn (fs : List Nat) (nn : Bool) : (obQ fs nn).nn = nn := rfl
/-- A frame: its part, its step, whose it is; the rest of it is there from step 1 on. -/
def obF (f : Fr) : Ob := ⟨[.ro true (bools f.in_), .int .i64 f.step, .int .i64 f.who, if f.step = 0 then .nils else .ro true (bools f.best), if f.step = 0 then .nils else .ro true (bools f.rest)], 105, 5, true⟩
@[simp] theorem obF_cells (f : Fr) : (obF f).cells = [.ro true (bools f.in_), .int .i64 f.step, .int .i64 f.who, if f.step = 0 then .nils else .ro true (bools f.best), if f.step = 0 then .nils else .ro true (bools f.rest)] := rfl
@[simp] theorem obF_ty (f : Fr) : (obF f).ty = 105 := rfl
@[simp] theorem obF_sz (f : Fr) : (obF f).sz = 5 := rfl
@[simp] theorem obF_nn (f : Fr) : (obF f).nn = true := rfl

def ZL (k : ZN) (g : G) (P W T : List Int) (F : List (Nat × Ob)) : List (Nat × Ob) := (k.s, obZ g P k F.length) :: (k.w, obI W) :: (k.t, obI T) :: (k.q, obQ (nms F) k.nn) :: F
def ZH (h0 : Heap) (k : ZN) (g : G) (P W T : List Int) (F : List (Nat × Ob)) : Heap := HL h0 (ZL k g P W T F)
abbrev ZNok (h0 : Heap) (k : ZN) (F : List (Nat × Ob)) : Prop := HN h0 (k.s :: k.w :: k.t :: k.q :: nms F)

section
variable {h0 : Heap} {k : ZN} {F : List (Nat × Ob)} (N : ZNok h0 k F) (g : G) (P W T : List Int)
include N
theorem ZH.s : ZH h0 k g P W T F k.s = some (obZ g P k F.length) := HL.at (k := 0) N.nd rfl
theorem ZH.w : ZH h0 k g P W T F k.w = some (obI W) := HL.at (k := 1) N.nd rfl
theorem ZH.t : ZH h0 k g P W T F k.t = some (obI T) := HL.at (k := 2) N.nd rfl
theorem ZH.q : ZH h0 k g P W T F k.q = some (obQ (nms F) k.nn) := HL.at (k := 3) N.nd rfl
theorem ZH.putW (W' : List Int) : upd (ZH h0 k g P W T F) k.w (some (obI W')) = ZH h0 k g P W' T F := HL.put (k := 1) N.nd rfl
theorem ZH.putT (T' : List Int) : upd (ZH h0 k g P W T F) k.t (some (obI T')) = ZH h0 k g P W T' F := HL.put (k := 2) N.nd rfl
end
section
variable {h0 : Heap} {k : ZN} {F : List (Nat × Ob)} {f : Nat} {X : Ob} (N : ZNok h0 k ((f, X) :: F)) (g : G) (P W T : List Int)
include N
theorem ZH.fr : ZH h0 k g P W T ((f, X) :: F) f = some X := HL.at (k := 4) N.nd rfl
theorem ZH.putF (X' : Ob) : upd (ZH h0 k g P W T ((f, X) :: F)) f (some X') = ZH h0 k g P W T ((f, X') :: F) := by
  have := HL.put (h0 := h0) (A' := X') (l := ZL k g P W T ((f, X) :: F)) (k := 4) N.nd rfl
  rw [ZH, this]; rfl
theorem ZNok.less : ZNok h0 k F := by
  have := N.del 4
  simpa [List.eraseIdx] using this
theorem ZH.sub : subH (ZH h0 k g P W T F) (upd (upd (ZH h0 k g P W T ((f, X) :: F)) k.s (some (obZ g P k F.length))) k.q (some (obQ (nms F) k.nn))) := by
  have h1 := HL.put (h0 := h0) (A' := obZ g P k F.length) (l := ZL k g P W T ((f, X) :: F)) (k := 0) N.nd rfl
  have N' : HN h0 (nms ((ZL k g P W T ((f, X) :: F)).set 0 (k.s, obZ g P k F.length))) := N
  have h2 := HL.put (h0 := h0) (A' := obQ (nms F) k.nn) (l := (ZL k g P W T ((f, X) :: F)).set 0 (k.s, obZ g P k F.length)) (k := 3) N'.nd rfl
  rw [ZH, ZH, h1, h2]
  have N2 : HN h0 (nms ((((ZL k g P W T ((f, X) :: F)).set 0 (k.s, obZ g P k F.length))).set 3 (k.q, obQ (nms F) k.nn))) := N
  have h3 := HL.del (h0 := h0) (a := f) (A := X) N2 (k := 4) rfl
  have e : ((((ZL k g P W T ((f, X) :: F)).set 0 (k.s, obZ g P k F.length))).set 3 (k.q, obQ (nms F) k.nn)).eraseIdx 4 = ZL k g P W T F := rfl
  rw [e] at h3
  rw [← h3]
  exact upd_none_sub _ _
end

/-- One frame more. -/
theorem ZH.push {h0 : Heap} {k : ZN} {F : List (Nat × Ob)} (N : ZNok h0 k F) (g : G) (P W T : List Int) {f q' : Nat} (X : Ob) (hf : ZH h0 k g P W T F f = none) (hq : upd (ZH h0 k g P W T F) f (some X) q' = none) :
    ZNok h0 ⟨k.s, k.w, k.t, q', true⟩ ((f, X) :: F) ∧
    (upd (upd (upd (ZH h0 k g P W T F) f (some X)) k.q none) q' (some (obQ (f :: nms F) true))) k.s = some (obZ g P k F.length) ∧
    upd (upd (upd (upd (ZH h0 k g P W T F) f (some X)) k.q none) q' (some (obQ (f :: nms F) true))) k.s (some (obZ g P ⟨k.s, k.w, k.t, q', true⟩ (F.length + 1))) = ZH h0 ⟨k.s, k.w, k.t, q', true⟩ g P W T ((f, X) :: F) := by
  have N1 : HN h0 (nms ((f, X) :: ZL k g P W T F)) := HL.new N hf
  obtain ⟨h1, h2⟩ := HL.ren (h0 := h0) (A' := obQ (f :: nms F) true) (a' := q') (l := (f, X) :: ZL k g P W T F) (k := 4) N1 rfl hq
  have e0 : upd (ZH h0 k g P W T F) f (some X) = HL h0 ((f, X) :: ZL k g P W T F) := rfl
  rw [e0, h1]
  have h3 := HL.put (h0 := h0) (A' := obZ g P ⟨k.s, k.w, k.t, q', true⟩ (F.length + 1)) (l := ((f, X) :: ZL k g P W T F).set 4 (q', obQ (f :: nms F) true)) (k := 1) h2.nd rfl
  have h4 := HL.at (h0 := h0) (l := ((f, X) :: ZL k g P W T F).set 4 (q', obQ (f :: nms F) true)) (k := 1) h2.nd rfl
  have N2 : HN h0 (nms ((((f, X) :: ZL k g P W T F).set 4 (q', obQ (f :: nms F) true)).set 1 (k.s, obZ g P ⟨k.s, k.w, k.t, q', true⟩ (F.length + 1)))) := h2
  have perm : (((((f, X) :: ZL k g P W T F).set 4 (q', obQ (f :: nms F) true)).set 1 (k.s, obZ g P ⟨k.s, k.w, k.t, q', true⟩ (F.length + 1)))).Perm (ZL ⟨k.s, k.w, k.t, q', true⟩ g P W T ((f, X) :: F)) := by
    show List.Perm ((f, X) :: (k.s, _) :: (k.w, _) :: (k.t, _) :: (q', _) :: F) ((k.s, _) :: (k.w, _) :: (k.t, _) :: (q', _) :: (f, X) :: F)
    exact List.perm_middle (l₁ := [(k.s, obZ g P ⟨k.s, k.w, k.t, q', true⟩ (F.length + 1)), (k.w, obI W), (k.t, obI T), (q', obQ (f :: nms F) true)]).symm
  refine ⟨⟨(perm.map Prod.fst).nodup_iff.1 N2.nd, fun o ho => N2.free o ((perm.map Prod.fst).mem_iff.2 ho)⟩, h4, ?_⟩
  rw [h3]
  exact HL.perm perm N2.nd

section
variable {h0 : Heap} {k : ZN} {F : List (Nat × Ob)} (N : ZNok h0 k F) (g : G) (hf : g.fits) (P W T : List Int)
include N hf

theorem pz_any (s : List Bool) : AC Try.prog 95 [.ptr k.s 0, .ro false (bools s)] (ZH h0 k g P W T F) fun r h' => r = .bool (anyL g s) ∧ h' = ZH h0 k g P W T F := by
  have hs := ZH.s N g P W T
  have sC := pre_Count g s hf.owner
  generalize ZH h0 k g P W T F = H at *
  refine AC.body Θ_ok Try.func95 rfl rfl (Nat.le_of_ble_eq_true rfl) ?_
  refine AW.seq fun _ k1 => AW.region [] Θ_ok ?_
  simp
  refine k1 _ ?_
  refine AW.seq fun _ k1 => AW.regionAt 6 [] Θ_ok fun B hB => ?_
  simp [hs]
  refine sC.use (by simp [G.av]) ?_
  refine hB _ ?_
  clear hB B
  simp
  refine k1 _ (AW.ret ?_)
  simp [Try.f95]
  refine Fin.refl ⟨by simp [anyL], rfl⟩

theorem pz_less (a b : List Bool) : AC Try.prog 68 [.ptr k.s 0, .ro false (bools a), .ro false (bools b)] (ZH h0 k g P W T F) fun r h' => r = .ro true (bools (lessL g a b)) ∧ h' = ZH h0 k g P W T F := by
  have hs := ZH.s N g P W T
  have sN := pre_Not g b hf.owner
  have sA := pre_And g a (notL g b) hf.owner
  rw [show andL g a (notL g b) = lessL g a b from rfl] at sA
  generalize ZH h0 k g P W T F = H at *
  generalize notL g b = nb at *
  refine AC.body Θ_ok Try.func68 rfl rfl (Nat.le_of_ble_eq_true rfl) ?_
  refine AW.seq fun _ k1 => AW.region [] Θ_ok ?_
  simp
  refine k1 _ ?_
  refine AW.seq fun _ kr => AW.draw [] 13 [] Θ_ok mixed (by kernel_rfl) (by kernel_rfl) ?_
  refine vcDraw_split 11 fun B hB => ?_
  simp [vcPre, vcTail, callA, isAlloc, isLoad, effOp, obl, obA, mkOK, valA, hs]
  refine ⟨_, sN.wk (by simp [G.av]), ?_⟩
  refine hB _ _ _ ?_
  clear hB B
  refine vcPre_split 1 fun B hB => ?_
  simp [vcPre, vcTail, callA, isAlloc, isLoad, effOp, obl, obA, mkOK, valA]
  refine ⟨_, sA.wk (by simp [G.av]), ?_⟩
  refine hB _ _ _ ?_
  clear hB B
  simp [vcPre, vcTail, callA, isAlloc, isLoad, effOp, obl, obA, mkOK, valA]
  refine kr _ (AW.ret ?_)
  simp [Try.f68]
  exact Fin.refl ⟨rfl, rfl⟩
end
end Go.Par

set_option linter.unusedSimpArgs false
set_option linter.unusedVariables false
set_option linter.unusedSectionVars false
set_option maxRecDepth 8000
set_option maxHeartbeats 1000000
namespace Go.Par
open Go.Proofs

def winsY (n : Nat) (who : Int) (s : List Bool) (W : List Int) (x : Nat) : List Int := tab n fun v => if v < x ∧ hasN s v = true then who else fI W v
theorem winsY_len (n : Nat) (who : Int) (s : List Bool) (W : List Int) (x : Nat) : (winsY n who s W x).length = n := length_tab _ _
theorem winsY_zero {n : Nat} {who : Int} {s : List Bool} {W : List Int} (h : W.length = n) : winsY n who s W 0 = W := by
  refine (tab_ext h fun i hi => ?_).symm
  rw [if_neg fun q => Nat.not_lt_zero _ q.1]; simp [fI, show i < W.length by omega]
theorem winsY_full {n : Nat} {who : Int} {s : List Bool} {W : List Int} : winsY n who s W n = winsX n who s W := tab_congr fun i hi => by simp [hi]
theorem winsY_put {n : Nat} {who : Int} {s : List Bool} {W : List Int} {x : Nat} (h : hasN s x = true) : (winsY n who s W x).set x who = winsY n who s W (x + 1) := by
  rw [winsY, set_tab]
  refine tab_congr fun v _ => ?_
  by_cases e : v = x
  · subst e; simp [h]
  · by_cases h : v < x
    · simp [e, h, show v < x + 1 by omega]
    · simp [e, h, show ¬ v < x + 1 by omega]
theorem winsY_not {n : Nat} {who : Int} {s : List Bool} {W : List Int} {x : Nat} (h : hasN s x = false) : winsY n who s W x = winsY n who s W (x + 1) := by
  refine tab_congr fun v _ => ?_
  by_cases e : v = x
  · subst e; simp [h]
  · by_cases h : v < x
    · simp [h, show v < x + 1 by omega]
    · simp [h, show ¬ v < x + 1 by omega]

def wonP (who : Int) (part : List Bool) (W : List Int) (v : Nat) : Bool := hasN part v && decide (fI W v = who)

/-- Ways that are told to a part. -/
def goY (n : Nat) (A : List Int) (part : List Bool) (T : List Int) (x : Nat) : List Int := tab n fun v => if v < x ∧ 0 ≤ fI A v ∧ hasN part v = true then fI A v else fI T v
theorem goY_len (n : Nat) (A : List Int) (part : List Bool) (T : List Int) (x : Nat) : (goY n A part T x).length = n := length_tab _ _
theorem goY_zero {n : Nat} {A : List Int} {part : List Bool} {T : List Int} (h : T.length = n) : goY n A part T 0 = T := by
  refine (tab_ext h fun i hi => ?_).symm
  rw [if_neg fun q => Nat.not_lt_zero _ q.1]; simp [fI, show i < T.length by omega]
theorem goY_full {n : Nat} {A : List Int} {part : List Bool} {T : List Int} : goY n A part T n = tab n fun v => if 0 ≤ fI A v ∧ hasN part v = true then fI A v else fI T v := tab_congr fun i hi => by simp [hi]
theorem goY_put {n : Nat} {A : List Int} {part : List Bool} {T : List Int} {x : Nat} (h : 0 ≤ fI A x) (h2 : hasN part x = true) : (goY n A part T x).set x (fI A x) = goY n A part T (x + 1) := by
  rw [goY, set_tab]
  refine tab_congr fun v _ => ?_
  by_cases e : v = x
  · subst e; rw [if_pos rfl, if_pos ⟨Nat.lt_succ_self _, h, h2⟩]
  · by_cases h : v < x
    · simp [e, h, show v < x + 1 by omega]
    · simp [e, h, show ¬ v < x + 1 by omega]
theorem goY_not {n : Nat} {A : List Int} {part : List Bool} {T : List Int} {x : Nat} (h : ¬ (0 ≤ fI A x ∧ hasN part x = true)) : goY n A part T x = goY n A part T (x + 1) := by
  refine tab_congr fun v _ => ?_
  by_cases e : v = x
  · subst e; rw [if_neg fun q => h q.2, if_neg fun q => h q.2]
  · by_cases h : v < x
    · simp [h, show v < x + 1 by omega]
    · simp [h, show ¬ v < x + 1 by omega]

section
variable {h0 : Heap} {k : ZN} {F : List (Nat × Ob)} (N : ZNok h0 k F) (g : G) (hf : g.fits) (P W T : List Int)
include N hf

theorem pz_wins (who : Int) (s : List Bool) (hsl : s.length = g.owner.length) (hW : W.length = g.owner.length) (hn : g.owner.length ≤ 3000) :
    AC Try.prog 67 [.ptr k.s 0, .int .i64 who, .ro true (bools s)] (ZH h0 k g P W T F) fun _ h' => h' = ZH h0 k g P (winsX g.owner.length who s W) T F := by
  refine AC.body Θ_ok Try.func67 rfl rfl (Nat.le_of_ble_eq_true rfl) ?_
  refine AW.seq fun _ k1 => AW.region [] Θ_ok ?_
  simp
  refine k1 _ ?_
  refine AW.block ?_
  refine AW.loopI (X := Nat) (fun x => x ≤ s.length) (fun x => ⟨24, [(0, .ptr k.s 0), (1, .int .i64 who), (8, .ro true (bools s)), (9, .int .i64 s.length), (10, .int .i64 x)], ZH h0 k g P (winsY g.owner.length who s W x) T F⟩) (fun x => s.length - x) 0 (Nat.zero_le _) (GStep.eq (by simp) (subH_of_eq (by rw [winsY_zero hW]))) fun x hx => ?_
  refine AW.seq fun _ k2 => AW.region [] Θ_ok ?_
  simp
  refine k2 _ ?_
  by_cases hlt : x < s.length
  · have inc := wrap_succ (show x < 9223372036854775807 by omega)
    have hlt' : x < g.owner.length := by omega
    have hh : hasN s x = s[x] := by simp [hasN, hlt]
    have pp := winsY_put (n := g.owner.length) (who := who) (s := s) (W := W) (x := x)
    have pn := winsY_not (n := g.owner.length) (who := who) (s := s) (W := W) (x := x)
    rw [hh] at pp pn
    have lX := winsY_len g.owner.length who s W x
    generalize hWs : winsY g.owner.length who s W (x + 1) = W2 at *
    generalize winsY g.owner.length who s W x = W1 at *
    have hs := ZH.s N g P W1 T
    have hw := ZH.w N g P W1 T
    have pW := ZH.putW N g P W1 T
    have mX := map_set_int W1 x who
    generalize W1.set x who = W3 at *
    generalize hH : ZH h0 k g P W1 T F = H at *
    refine AW.seq fun _ k2 => AW.cond true (by simp [Int.natCast_inj, hlt]) (fun _ => ?_) (fun h => by cases h)
    refine AW.skip ?_
    simp
    refine k2 _ ?_
    refine AW.seq fun _ k2 => ?_
    refine AW.block ?_
    refine AW.seq fun _ k3 => AW.region [] Θ_ok ?_
    simp [hlt]
    refine k3 _ ?_
    refine AW.seq fun _ k3 => AW.region [] Θ_ok ?_
    simp
    refine k3 _ ?_
    cases hb : s[x]
    · refine AW.cond false (by simp [Int.natCast_inj, hb]) (fun h => by cases h) (fun _ => ?_)
      refine AW.skip ?_
      simp
      refine k2 _ ?_
      refine AW.region [] Θ_ok ?_
      simp
      exact ⟨x + 1, by omega, by omega, GStep.eq (by simp [inc]) (subH_of_eq (by rw [hWs, ← pn hb, hH]))⟩
    · refine AW.cond true (by simp [Int.natCast_inj, hb]) (fun _ => ?_) (fun h => by cases h)
      refine AW.region [] Θ_ok ?_
      simp [hs, hw, lX, hlt', mX, obI_mk]
      refine ⟨by omega, k2 _ ?_⟩
      refine AW.region [] Θ_ok ?_
      simp
      exact ⟨x + 1, by omega, by omega, GStep.eq (by simp [inc]) (subH_of_eq (by rw [hWs, pW, pp hb]))⟩
  · obtain rfl : x = s.length := by omega
    refine AW.seq fun _ k3 => AW.cond false (by simp) (fun h => by cases h) (fun _ => ?_)
    refine AW.exit ?_
    simp [Try.f67]
    exact Fin.refl (by rw [hsl, winsY_full])

theorem pz_won (who : Int) (part : List Bool) (hsl : part.length = g.owner.length) (hW : W.length = g.owner.length) (hn : g.owner.length ≤ 3000) :
    AC Try.prog 109 [.ptr k.s 0, .int .i64 who, .ro true (bools part)] (ZH h0 k g P W T F) fun r h' => r = .ro true (bools (wonL who part W)) ∧ h' = ZH h0 k g P W T F := by
  have hs := ZH.s N g P W T
  have hw := ZH.w N g P W T
  generalize ZH h0 k g P W T F = H at *
  refine AC.body Θ_ok Try.func109 rfl rfl (Nat.le_of_ble_eq_true rfl) ?_
  refine AW.seq fun _ k1 => AW.region [] Θ_ok ?_
  simp
  refine k1 _ ?_
  refine AW.seq fun _ k1 => AW.region [12] Θ_ok ?_
  simp
  refine ⟨by omega, fun o ho => k1 _ ?_⟩
  have e1 : k.s ≠ o := fun e => by rw [e, ho] at hs; cases hs
  have e2 : k.w ≠ o := fun e => by rw [e, ho] at hw; cases hw
  have hs2 : ∀ X, upd H o X k.s = some (obZ g P k F.length) := fun X => by rw [upd_ne _ _ e1]; exact hs
  have hw2 : ∀ X, upd H o X k.w = some (obI W) := fun X => by rw [upd_ne _ _ e2]; exact hw
  rw [replicate_tab, flat_tab (fun _ _ => rfl), stB_zero _ (wonP who part W)]
  refine AW.seq fun _ k1 => ?_
  refine AW.seq fun _ k2 => AW.region [] Θ_ok ?_
  simp
  refine k2 _ ?_
  refine AW.block ?_
  refine AW.loopI (X := Nat) (fun x => x ≤ part.length) (fun x => ⟨37, [(0, .ptr k.s 0), (1, .int .i64 who), (7, .mu o part.length), (13, .ro true (bools part)), (14, .int .i64 part.length), (15, .int .i64 x)], upd H o (some ⟨stB part.length x (wonP who part W), 4, 1, true⟩)⟩) (fun x => part.length - x) 0 (Nat.zero_le _) (GStep.eq (by simp) (subH.refl _)) fun x hx => ?_
  refine AW.seq fun _ k2 => AW.region [] Θ_ok ?_
  simp
  refine k2 _ ?_
  by_cases hlt : x < part.length
  · have inc := wrap_succ (show x < 9223372036854775807 by omega)
    have hlt' : x < g.owner.length := by omega
    have hltW : x < W.length := by omega
    have hset := stB_set part.length x (wonP who part W)
    have hb : wonP who part W x = (part[x] && decide (W[x] = who)) := by simp [wonP, hasN, fI, hlt, hltW]
    rw [hb] at hset
    have dW := map_drop_int W hltW
    generalize hX2 : (stB part.length (x + 1) (wonP who part W)) = X2 at *
    have lX := stB_len part.length x (wonP who part W)
    generalize (stB part.length x (wonP who part W)) = X1 at *
    refine AW.seq fun _ k2 => AW.cond true (by simp [Int.natCast_inj, hlt]) (fun _ => ?_) (fun h => by cases h)
    refine AW.skip ?_
    simp
    refine k2 _ ?_
    refine AW.seq fun _ k2 => ?_
    refine AW.block ?_
    refine AW.seq fun _ k3 => AW.region [] Θ_ok ?_
    simp [hlt]
    refine k3 _ ?_
    refine AW.region [] Θ_ok ?_
    cases hb : part[x]
    · rw [hb, Bool.false_and] at hset
      simp [hs2, hw2, hlt, hlt', hltW, dW, lX, hb, hset]
      refine ⟨by omega, k2 _ ?_⟩
      refine AW.region [] Θ_ok ?_
      simp
      exact ⟨x + 1, by omega, by omega, GStep.eq (by simp [inc]) (subH_of_eq (by simp only [upd_upd, hX2]))⟩
    · rw [hb, Bool.true_and] at hset
      have hq : (W[x] == who) = decide (W[x] = who) := rfl
      simp [hs2, hw2, hlt, hlt', hltW, dW, lX, hb, hq, hset]
      refine ⟨by omega, k2 _ ?_⟩
      refine AW.region [] Θ_ok ?_
      simp
      exact ⟨x + 1, by omega, by omega, GStep.eq (by simp [inc]) (subH_of_eq (by simp only [upd_upd, hX2]))⟩
  · obtain rfl : x = part.length := by omega
    refine AW.seq fun _ k2 => AW.cond false (by simp [Int.natCast_inj]) (fun h => by cases h) (fun _ => ?_)
    refine AW.exit ?_
    simp
    refine k1 _ ?_
    refine AW.seq fun _ kr => AW.region [] Θ_ok ?_
    simp
    refine kr _ (AW.ret ?_)
    simp [Try.f109]
    refine Fin.freeze (k := true) (upd_same _ _ _) (fun _ => rfl) rfl (by simp) (stB_ones _ _ _) H (by simp [upd_none_id ho]; exact subH.refl _) ⟨?_, rfl⟩
    rw [stB_full]; rfl

theorem pz_goes (who : Int) (hw : who = 0 ∨ who = 1) (part s : List Bool) (hpl : part.length = g.owner.length) (hsl : s.length ≤ 3000) (hT : T.length = g.owner.length) (hm : mayE g = 0) :
    AC Try.prog 108 [.ptr k.s 0, .int .i64 who, .ro true (bools part), .ro true (bools s)] (ZH h0 k g P W T F) fun r h' => r = .ro true (bools (goesR g who part s)) ∧ h' = ZH h0 k g P W (goesX g who part s T) F := by
  have hn := (may_ok hm).1
  have sO := graph_Only g hf part
  rw [waysA, if_pos hm] at sO
  have hfO : (onlyG g part).fits := waysG_fits hf _
  have hok : okP (onlyG g part) who := ⟨only_may hm, hw⟩
  have sR := attract_Region (onlyG g part) hfO who s (by omega)
  rw [regA, if_pos hok] at sR
  have sW := attract_Ways (onlyG g part) hfO who s (by omega)
  rw [awayA, if_pos hok] at sW
  have sA := pre_And g (regL (onlyG g part) who s) part hf.owner
  rw [show andL g (regL (onlyG g part) who s) part = goesR g who part s from rfl] at sA
  have hX : goesX g who part s T = goY g.owner.length (awayL (onlyG g part) who s) part T g.owner.length := goY_full.symm
  have lA : (awayL (onlyG g part) who s).length = g.owner.length := by rw [awayL, awaysR, length_tab, only_len hm]
  have hA : ∀ v, v < g.owner.length → -1 ≤ fI (awayL (onlyG g part) who s) v := fun v hv => by
    rcases away_ge (g := onlyG g part) (who := who) (s := s) (only_may hm) (v := v) (by rw [only_len hm]; exact hv) with q | ⟨_, _, u, q, _⟩ <;> omega
  rw [hX]
  generalize goesR g who part s = R at *
  generalize awayL (onlyG g part) who s = A at *
  generalize regL (onlyG g part) who s = Rg at *
  have eO : (onlyG g part).av = .agg [.ro false (ints g.owner), .ro false (rows (waysL g (onlyP part)))] := by rw [onlyG, waysG_eq hm]; rfl
  rw [eO] at sR sW
  generalize waysL g (onlyP part) = L at *
  have hs := ZH.s N g P W T
  refine AC.body Θ_ok Try.func108 rfl rfl (Nat.le_of_ble_eq_true rfl) ?_
  refine AW.seq fun _ k1 => AW.region [] Θ_ok ?_
  simp
  refine k1 _ ?_
  refine AW.seq fun _ k1 => AW.regionAt 6 [9] Θ_ok fun B hB => ?_
  simp [hs]
  refine sO.use (by simp [G.av]) ?_
  refine hB _ ?_
  clear hB B
  simp [newA]
  intro o ho
  refine k1 _ ?_
  refine AW.box 9 (o := o) rfl (upd_same _ _ _) ?_
  simp only [upd_upd, upd_none_id ho]
  refine AW.seq fun _ k1 => AW.draw [] 11 [] Θ_ok mixed (by kernel_rfl) (by kernel_rfl) ?_
  refine vcDraw_split 8 fun B hB => ?_
  simp [vcPre, vcTail, callA, isAlloc, isLoad, effOp, obl, obA, mkOK, valA, hs]
  refine ⟨_, sR.wk (by simp), ?_⟩
  refine hB _ _ _ ?_
  clear hB B
  refine vcPre_split 2 fun B hB => ?_
  simp [vcPre, vcTail, callA, isAlloc, isLoad, effOp, obl, obA, mkOK, valA]
  refine ⟨_, sA.wk (by simp [G.av]), ?_⟩
  refine hB _ _ _ ?_
  clear hB B
  simp [vcPre, vcTail, callA, isAlloc, isLoad, effOp, obl, obA, mkOK, valA]
  refine k1 _ ?_
  refine AW.seq fun _ k1 => ?_
  refine AW.seq fun _ k2 => AW.regionAt 4 [] Θ_ok fun B hB => ?_
  simp
  refine sW.use (by simp) ?_
  refine hB _ ?_
  clear hB B
  simp
  refine k2 _ ?_
  refine AW.block ?_
  refine AW.loopI (X := Nat) (fun x => x ≤ A.length) (fun x => ⟨56, [(0, .ptr k.s 0), (2, .ro true (bools part)), (10, .ro true (bools R)), (32, .ro true (ints A)), (33, .int .i64 A.length), (34, .int .i64 x)], ZH h0 k g P W (goY g.owner.length A part T x) F⟩) (fun x => A.length - x) 0 (Nat.zero_le _) (GStep.eq (by simp) (subH_of_eq (by rw [goY_zero hT]))) fun x hx => ?_
  clear hs
  refine AW.seq fun _ k2 => AW.region [] Θ_ok ?_
  simp
  refine k2 _ ?_
  by_cases hlt : x < A.length
  · have inc := wrap_succ (show x < 9223372036854775807 by omega)
    have hlt' : x < g.owner.length := by omega
    have hltP : x < part.length := by omega
    have hh : hasN part x = part[x] := by simp [hasN, hltP]
    have ha : fI A x = A[x] := by simp [fI, hlt]
    have hA0 := hA x hlt'
    have pp := goY_put (n := g.owner.length) (A := A) (part := part) (T := T) (x := x)
    have pn := goY_not (n := g.owner.length) (A := A) (part := part) (T := T) (x := x)
    rw [hh, ha] at pp pn
    rw [ha] at hA0
    have lX := goY_len g.owner.length A part T x
    generalize hWs : goY g.owner.length A part T (x + 1) = T2 at *
    generalize goY g.owner.length A part T x = T1 at *
    have hs := ZH.s N g P W T1
    have ht := ZH.t N g P W T1
    have pT := ZH.putT N g P W T1
    have mX := map_set_int T1 x A[x]
    generalize hT3 : T1.set x A[x] = T3 at *
    generalize hH : ZH h0 k g P W T1 F = H at *
    refine AW.seq fun _ k2 => AW.cond true (by simp [Int.natCast_inj, hlt]) (fun _ => ?_) (fun h => by cases h)
    refine AW.skip ?_
    simp
    refine k2 _ ?_
    refine AW.seq fun _ k2 => ?_
    refine AW.block ?_
    refine AW.seq fun _ k3 => AW.region [] Θ_ok ?_
    simp [hlt]
    refine k3 _ ?_
    by_cases c1 : 0 ≤ A[x]
    · cases hb : part[x]
      · refine AW.seq fun _ k3 => AW.region [] Θ_ok ?_
        simp [hltP, c1, hb]
        refine k3 _ ?_
        refine AW.cond false (by simp [Int.natCast_inj, c1, hb]) (fun h => by cases h) (fun _ => ?_)
        refine AW.skip ?_
        simp
        refine k2 _ ?_
        refine AW.region [] Θ_ok ?_
        simp
        exact ⟨x + 1, by omega, by omega, GStep.eq (by simp [inc]) (subH_of_eq (by rw [hWs, ← pn (fun q => by rw [hb] at q; cases q.2), hH]))⟩
      · refine AW.seq fun _ k3 => AW.region [] Θ_ok ?_
        simp [hltP, c1, hb]
        refine k3 _ ?_
        refine AW.cond true (by simp [Int.natCast_inj, c1, hb]) (fun _ => ?_) (fun h => by cases h)
        refine AW.region [] Θ_ok ?_
        simp [hs, ht, lX, hlt', mX, obI_mk]
        refine ⟨by omega, k2 _ ?_⟩
        refine AW.region [] Θ_ok ?_
        simp
        exact ⟨x + 1, by omega, by omega, GStep.eq (by simp [inc]) (subH_of_eq (by rw [hWs, pT, pp c1 hb]))⟩
    · have c1' : A[x] < 0 := by omega
      refine AW.seq fun _ k3 => AW.region [] Θ_ok ?_
      simp [hltP, c1, c1']
      refine k3 _ ?_
      refine AW.cond false (by simp [Int.natCast_inj, c1, c1']) (fun h => by cases h) (fun _ => ?_)
      refine AW.skip ?_
      simp
      refine k2 _ ?_
      refine AW.region [] Θ_ok ?_
      simp
      exact ⟨x + 1, by omega, by omega, GStep.eq (by simp [inc]) (subH_of_eq (by rw [hWs, ← pn (fun q => c1 q.1), hH]))⟩
  · obtain rfl : x = A.length := by omega
    refine AW.seq fun _ k2 => AW.cond false (by simp [Int.natCast_inj]) (fun h => by cases h) (fun _ => ?_)
    refine AW.exit ?_
    simp
    refine k1 _ ?_
    refine AW.seq fun _ kr => AW.region [] Θ_ok ?_
    simp
    refine kr _ (AW.ret ?_)
    simp [Try.f108]
    exact Fin.refl ⟨rfl, by rw [lA]⟩

def stayV (g : G) (who : Int) (part s : List Bool) (T : List Int) (v : Nat) : Int := if hasN s v = true ∧ ow g v = who then ((nx g v).find? (hasI part)).getD (fI T v) else fI T v
def stayY (g : G) (who : Int) (part s : List Bool) (T : List Int) (x : Nat) : List Int := tab g.owner.length fun v => if v < x then stayV g who part s T v else fI T v
omit N hf in
theorem stayY_len (who : Int) (part s : List Bool) (x : Nat) : (stayY g who part s T x).length = g.owner.length := length_tab _ _
omit N hf in
theorem stayY_zero {who : Int} {part s : List Bool} (h : T.length = g.owner.length) : stayY g who part s T 0 = T := by
  refine (tab_ext h fun i hi => ?_).symm
  rw [if_neg (Nat.not_lt_zero _)]; simp [fI, show i < T.length by omega]
omit N hf in
theorem stayY_full {who : Int} {part s : List Bool} : stayY g who part s T g.owner.length = staysX g who part s T := tab_congr fun i hi => by rw [if_pos hi]; rfl
omit N hf in
theorem stayY_put {who : Int} {part s : List Bool} {x : Nat} : (stayY g who part s T x).set x (stayV g who part s T x) = stayY g who part s T (x + 1) := by
  rw [stayY, set_tab]
  refine tab_congr fun v _ => ?_
  by_cases e : v = x
  · subst e; simp
  · by_cases h : v < x
    · simp [e, h, show v < x + 1 by omega]
    · simp [e, h, show ¬ v < x + 1 by omega]
omit N hf in
theorem stayY_not {who : Int} {part s : List Bool} {x : Nat} (h : stayV g who part s T x = fI T x) : stayY g who part s T x = stayY g who part s T (x + 1) := by
  refine tab_congr fun v _ => ?_
  by_cases e : v = x
  · subst e; rw [if_neg (Nat.lt_irrefl _), if_pos (Nat.lt_succ_self _), h]
  · by_cases h : v < x
    · simp [h, show v < x + 1 by omega]
    · simp [h, show ¬ v < x + 1 by omega]

theorem pz_stays (who : Int) (part s : List Bool) (hpl : part.length = g.owner.length) (hsl : s.length = g.owner.length) (hT : T.length = g.owner.length) (hm : mayE g = 0) :
    AC Try.prog 110 [.ptr k.s 0, .int .i64 who, .ro true (bools part), .ro true (bools s)] (ZH h0 k g P W T F) fun _ h' => h' = ZH h0 k g P W (staysX g who part s T) F := by
  have hn := (may_ok hm).1
  have hn2 := (may_ok hm).2.1
  refine AC.body Θ_ok Try.func110 rfl rfl (Nat.le_of_ble_eq_true rfl) ?_
  refine AW.seq fun _ k1 => AW.region [] Θ_ok ?_
  simp
  refine k1 _ ?_
  refine AW.block ?_
  refine AW.loopI (X := Nat) (fun x => x ≤ s.length) (fun x => ⟨59, [(0, .ptr k.s 0), (1, .int .i64 who), (2, .ro true (bools part)), (12, .ro true (bools s)), (13, .int .i64 s.length), (14, .int .i64 x)], ZH h0 k g P W (stayY g who part s T x) F⟩) (fun x => s.length - x) 0 (Nat.zero_le _) (GStep.eq (by simp) (subH_of_eq (by rw [stayY_zero g T hT]))) fun x hx => ?_
  refine AW.seq fun _ k2 => AW.region [] Θ_ok ?_
  simp
  refine k2 _ ?_
  by_cases hlt : x < s.length
  · have inc := wrap_succ (show x < 9223372036854775807 by omega)
    have hlt' : x < g.owner.length := by omega
    have hltn : x < g.next.length := by omega
    have en : nx g x = g.next[x] := by simp [nx, hltn]
    have eo : ow g x = g.owner[x] := by simp [ow, hlt']
    have hh : hasN s x = s[x] := by simp [hasN, hlt]
    have hw : stayV g who part s T x = if s[x] = true ∧ g.owner[x] = who then (g.next[x].find? (hasI part)).getD (fI T x) else fI T x := by
      unfold stayV; rw [en, eo, hh]
    have hnx := (nx_ok hm hlt').2
    rw [en] at hnx
    have hlen : g.next[x].length ≤ 17592186044416 := hf.row _ (List.getElem_mem _)
    have pp := stayY_put (g := g) (T := T) (who := who) (part := part) (s := s) (x := x)
    have pn := stayY_not (g := g) (T := T) (who := who) (part := part) (s := s) (x := x)
    have lX := stayY_len g T who part s x
    generalize hWs : stayY g who part s T (x + 1) = T2 at *
    generalize stayY g who part s T x = T1 at *
    have hs := ZH.s N g P W T1
    have ht := ZH.t N g P W T1
    have pT := ZH.putT N g P W T1
    generalize fI T x = a0 at *
    generalize stayV g who part s T x = wv at *
    generalize hH : ZH h0 k g P W T1 F = H at *
    refine AW.seq fun _ k2 => AW.cond true (by simp [Int.natCast_inj, hlt]) (fun _ => ?_) (fun h => by cases h)
    refine AW.skip ?_
    simp
    refine k2 _ ?_
    refine AW.seq fun _ k2 => ?_
    refine AW.block ?_
    refine AW.seq fun _ k3 => AW.region [] Θ_ok ?_
    simp [hlt]
    refine k3 _ ?_
    refine AW.seq fun _ k3 => ?_
    cases hg : s[x]
    · rw [if_neg (fun q => by rw [hg] at q; cases q.1)] at hw
      refine AW.seq fun _ k4 => AW.region [] Θ_ok ?_
      simp [hg]
      refine k4 _ ?_
      refine AW.cond true (by simp [Int.natCast_inj, hg]) (fun _ => ?_) (fun h => by cases h)
      refine AW.exit ?_
      simp
      refine k2 _ ?_
      refine AW.region [] Θ_ok ?_
      simp
      exact ⟨x + 1, by omega, by omega, GStep.eq (by simp [inc]) (subH_of_eq (by rw [hWs, ← pn hw, hH]))⟩
    · by_cases ho1 : g.owner[x] = who
      · rw [if_pos ⟨hg, ho1⟩] at hw
        refine AW.seq fun _ k4 => AW.region [] Θ_ok ?_
        simp [hg, hs, hlt', ho1]
        refine k4 _ ?_
        refine AW.cond false (by simp [Int.natCast_inj, ho1]) (fun h => by cases h) (fun _ => ?_)
        refine AW.skip ?_
        simp
        refine k3 _ ?_
        refine AW.seq fun _ k3 => AW.region [] Θ_ok ?_
        simp [hs, hltn]
        refine k3 _ ?_
        refine AW.block ?_
        refine AW.loopI (X := Nat) (fun y => y ≤ g.next[x].length ∧ ∀ j (h : j < g.next[x].length), j < y → hasI part g.next[x][j] = false) (fun y => ⟨59, [(0, .ptr k.s 0), (1, .int .i64 who), (2, .ro true (bools part)), (8, .int .i64 x), (12, .ro true (bools s)), (13, .int .i64 s.length), (14, .int .i64 x), (40, .ro false (ints g.next[x])), (41, .int .i64 g.next[x].length), (42, .int .i64 y)], H⟩) (fun y => g.next[x].length - y) 0 ⟨Nat.zero_le _, fun j _ h => by omega⟩ (GStep.eq (by simp) (subH.refl _)) fun y hy => ?_
        obtain ⟨hy, hno⟩ := hy
        refine AW.seq fun _ k4 => AW.region [] Θ_ok ?_
        simp
        refine k4 _ ?_
        by_cases hlt2 : y < g.next[x].length
        · have inc2 := wrap_succ (show y < 9223372036854775807 by omega)
          obtain ⟨u0, u1⟩ := hnx _ (List.getElem_mem hlt2)
          obtain ⟨u, hu⟩ : ∃ u : Nat, g.next[x][y] = u := ⟨(g.next[x][y]).toNat, by omega⟩
          have hun : u < part.length := by omega
          have eu : hasI part g.next[x][y] = part[u] := by rw [hu]; simp [hasI, hun]
          refine AW.seq fun _ k4 => AW.cond true (by simp [Int.natCast_inj, hlt2]) (fun _ => ?_) (fun h => by cases h)
          refine AW.skip ?_
          simp
          refine k4 _ ?_
          refine AW.seq fun _ k4 => ?_
          refine AW.block ?_
          refine AW.seq fun _ k5 => AW.region [] Θ_ok ?_
          simp [hlt2, hu]
          refine k5 _ ?_
          refine AW.seq fun _ k5 => AW.region [] Θ_ok ?_
          simp [hun]
          refine k5 _ ?_
          cases c1 : part[u]
          · refine AW.cond false (by simp [Int.natCast_inj, c1]) (fun h => by cases h) (fun _ => ?_)
            refine AW.skip ?_
            simp
            refine k4 _ ?_
            refine AW.region [] Θ_ok ?_
            simp
            exact ⟨y + 1, ⟨by omega, fun j hj hj2 => by
              by_cases e : j = y
              · subst e; rw [eu, c1]
              · exact hno j hj (by omega)⟩, by omega, GStep.eq (by simp [inc2]) (subH.refl _)⟩
          · have hf1 : (g.next[x].find? (hasI part)) = some (g.next[x][y]) := by
              rw [List.find?_eq_some_iff_getElem]
              refine ⟨by rw [eu, c1], y, hlt2, rfl, fun j hj => ?_⟩
              rw [hno j (by omega) hj]; rfl
            rw [hf1, Option.getD_some, hu] at hw
            have mY := map_set_int T1 x wv
            rw [pp] at mY
            rw [hw] at mY
            refine AW.cond true (by simp [Int.natCast_inj, c1]) (fun _ => ?_) (fun h => by cases h)
            refine AW.seq fun _ k5 => AW.region [] Θ_ok ?_
            simp [hs, ht, hlt', lX, mY, obI_mk]
            refine ⟨by omega, k5 _ ?_⟩
            refine AW.exit ?_
            simp
            refine k2 _ ?_
            refine AW.region [] Θ_ok ?_
            simp
            exact ⟨x + 1, by omega, by omega, GStep.eq (by simp [inc]) (subH_of_eq (by rw [hWs, pT]))⟩
        · obtain rfl : y = g.next[x].length := by omega
          have hf1 : (g.next[x].find? (hasI part)) = none := by
            rw [List.find?_eq_none]
            intro w hw
            obtain ⟨j, hj, rfl⟩ := List.getElem_of_mem hw
            rw [hno j hj hj]; simp
          rw [hf1, Option.getD_none] at hw
          refine AW.seq fun _ k4 => AW.cond false (by simp [Int.natCast_inj]) (fun h => by cases h) (fun _ => ?_)
          refine AW.exit ?_
          simp
          refine k2 _ ?_
          refine AW.region [] Θ_ok ?_
          simp
          exact ⟨x + 1, by omega, by omega, GStep.eq (by simp [inc]) (subH_of_eq (by rw [hWs, ← pn hw, hH]))⟩
      · rw [if_neg (fun q => ho1 q.2)] at hw
        refine AW.seq fun _ k4 => AW.region [] Θ_ok ?_
        simp [hg, hs, hlt', ho1]
        refine k4 _ ?_
        refine AW.cond true (by simp [Int.natCast_inj, hg, ho1]) (fun _ => ?_) (fun h => by cases h)
        refine AW.exit ?_
        simp
        refine k2 _ ?_
        refine AW.region [] Θ_ok ?_
        simp
        exact ⟨x + 1, by omega, by omega, GStep.eq (by simp [inc]) (subH_of_eq (by rw [hWs, ← pn hw, hH]))⟩
  · obtain rfl : x = s.length := by omega
    refine AW.seq fun _ k3 => AW.cond false (by simp) (fun h => by cases h) (fun _ => ?_)
    refine AW.exit ?_
    simp [Try.f110]
    exact Fin.refl (by rw [hsl, stayY_full])

theorem pz_push (s : List Bool) (hF : F.length ≤ 1000000) :
    AC Try.prog 69 [.ptr k.s 0, .ro true (bools s)] (ZH h0 k g P W T F) fun _ h' => ∃ f q', ZNok h0 ⟨k.s, k.w, k.t, q', true⟩ ((f, obF ⟨s, 0, 0, [], []⟩) :: F) ∧ h' = ZH h0 ⟨k.s, k.w, k.t, q', true⟩ g P W T ((f, obF ⟨s, 0, 0, [], []⟩) :: F) := by
  have hs := ZH.s N g P W T
  have hq := ZH.q N g P W T
  have pu := fun f q' h1 h2 => ZH.push (f := f) (q' := q') N g P W T (obF ⟨s, 0, 0, [], []⟩) h1 h2
  generalize ZH h0 k g P W T F = H at *
  refine AC.body Θ_ok Try.func69 rfl rfl (Nat.le_of_ble_eq_true rfl) ?_
  refine AW.region [11] Θ_ok ?_
  simp [hs, newA]
  intro f hfn
  have e1 : k.q ≠ f := fun e => by rw [e, hfn] at hq; cases hq
  have eX : (⟨[AV.ro true (bools s), AV.int IntKind.i64 0, AV.int IntKind.i64 0, AV.nils, AV.nils], 105, 5, true⟩ : Ob) = obF ⟨s, 0, 0, [], []⟩ := rfl
  rw [eX]
  have hq' : upd H f (some (obF ⟨s, 0, 0, [], []⟩)) k.q = some (obQ (nms F) k.nn) := by rw [upd_ne _ _ e1]; exact hq
  have lQ : (obQ (nms F) k.nn).cells.length = F.length := by simp
  have eQ : (obQ (nms F) k.nn).cells.take F.length ++ [.ptr f 0] = (obQ (f :: nms F) true).cells := by
    rw [← lQ, List.take_length]; simp
  have pu := fun q' h2 => pu f q' hfn h2
  generalize obF ⟨s, 0, 0, [], []⟩ = X at *
  generalize hQ0 : obQ (nms F) k.nn = Q0 at *
  have q1 : Q0.ty = 103 := by rw [← hQ0]; rfl
  have q2 : Q0.sz = 1 := by rw [← hQ0]; rfl
  have eO : (⟨(obQ (f :: nms F) true).cells, 103, 1, true⟩ : Ob) = obQ (f :: nms F) true := rfl
  generalize upd H f (some X) = H1 at *
  generalize obQ (f :: nms F) true = Q1 at *
  simp [appendA, hq', q1, q2, lQ, eQ, eO]
  refine ⟨rfl, ⟨by omega, by omega⟩, fun q' hq2 => ?_⟩
  obtain ⟨N2, p1, p2⟩ := pu q' hq2
  simp [p1]
  have eZ : (⟨[AV.ro false (ints g.owner), AV.ro false (rows g.next), AV.ro false (ints P), AV.mu k.w g.owner.length, AV.mu k.t g.owner.length, AV.mu q' (F.length + 1)], 88, 6, true⟩ : Ob) = obZ g P ⟨k.s, k.w, k.t, q', true⟩ (F.length + 1) := rfl
  rw [eZ, p2]
  exact Fin.refl ⟨f, q', N2, rfl⟩

theorem pz_pop {f : Nat} {X : Ob} (N : ZNok h0 k ((f, X) :: F)) (hF : F.length ≤ 1000000) :
    AC Try.prog 94 [.ptr k.s 0] (ZH h0 k g P W T ((f, X) :: F)) fun _ h' => h' = ZH h0 k g P W T F := by
  have hs := ZH.s N g P W T
  have hq := ZH.q N g P W T
  have sub := ZH.sub N g P W T
  have w1 : IntKind.i64.wrap (((F.length + 1 : Nat) : Int) - 1) = (F.length : Nat) := by rw [show ((F.length + 1 : Nat) : Int) - 1 = (F.length : Int) by omega]; exact wrap_nat (by omega)
  have ne : k.q ≠ k.s := fun e => by
    have := N.nd
    simp [e] at this
  generalize ZH h0 k g P W T ((f, X) :: F) = H at *
  refine AC.body Θ_ok Try.func94 rfl rfl (Nat.le_of_ble_eq_true rfl) ?_
  have w2 : IntKind.i64.wrap (F.length : Int) = (F.length : Nat) := wrap_nat (by omega)
  refine AW.draw [] 14 [] Θ_ok mixed (by kernel_rfl) (by kernel_rfl) ?_
  simp [vcDraw, vcPre, vcTail, callA, isAlloc, isLoad, effOp, obl, obA, mkOK, valA, hs, w1, w2]
  refine ⟨by omega, ?_⟩
  have eZ : (⟨[AV.ro false (ints g.owner), AV.ro false (rows g.next), AV.ro false (ints P), AV.mu k.w g.owner.length, AV.mu k.t g.owner.length, AV.mu k.q F.length], 88, 6, true⟩ : Ob) = obZ g P k F.length := rfl
  rw [eZ]
  have hq2 : upd H k.s (some (obZ g P k F.length)) k.q = some (obQ (nms ((f, X) :: F)) k.nn) := by rw [upd_ne _ _ ne]; exact hq
  refine Fin.gv (GV.trunc hq2 F.length) ?_
  have eQ : (⟨(obQ (nms ((f, X) :: F)) k.nn).cells.take F.length, (obQ (nms ((f, X) :: F)) k.nn).ty, (obQ (nms ((f, X) :: F)) k.nn).sz, (obQ (nms ((f, X) :: F)) k.nn).nn⟩ : Ob) = obQ (nms F) k.nn := by
    have e : (obQ (nms ((f, X) :: F)) k.nn).cells = (obQ (nms F) k.nn).cells ++ [.ptr f 0] := by simp
    have l : (obQ (nms F) k.nn).cells.length = F.length := by simp
    rw [e, List.take_left' l]; rfl
  rw [eQ]
  exact Fin.gv (GV.sub sub) (Fin.refl rfl)
end
end Go.Par

set_option linter.unusedSimpArgs false
set_option linter.unusedVariables false
set_option linter.unusedSectionVars false
set_option maxRecDepth 8000
set_option maxHeartbeats 1000000
namespace Go.Par
open Go.Proofs

def fo (a : List Bool) (st who : Int) (b r : AV) : Ob := ⟨[.ro true (bools a), .int .i64 st, .int .i64 who, b, r], 105, 5, true⟩
@[simp] theorem fo_cells (a : List Bool) (st who : Int) (b r : AV) : (fo a st who b r).cells = [.ro true (bools a), .int .i64 st, .int .i64 who, b, r] := rfl
@[simp] theorem fo_ty (a : List Bool) (st who : Int) (b r : AV) : (fo a st who b r).ty = 105 := rfl
@[simp] theorem fo_sz (a : List Bool) (st who : Int) (b r : AV) : (fo a st who b r).sz = 5 := rfl
@[simp] theorem fo_nn (a : List Bool) (st who : Int) (b r : AV) : (fo a st who b r).nn = true := rfl
theorem fo_mk (a : List Bool) (st who : Int) (b r : AV) : (⟨[.ro true (bools a), .int .i64 st, .int .i64 who, b, r], 105, 5, true⟩ : Ob) = fo a st who b r := rfl
theorem fo_zero (a : List Bool) (w : Int) (b r : List Bool) : obF ⟨a, 0, w, b, r⟩ = fo a 0 w .nils .nils := rfl
theorem fo_one (a : List Bool) (st : Nat) (w : Int) (b r : List Bool) : obF ⟨a, st + 1, w, b, r⟩ = fo a ((st + 1 : Nat) : Int) w (.ro true (bools b)) (.ro true (bools r)) := by simp [obF, fo]

def topX (P : List Int) (part : List Bool) (x : Nat) : Int := (List.range x).foldl (fun t v => if hasN part v then max t (fI P v) else t) 0
theorem topX_zero (P : List Int) (part : List Bool) : topX P part 0 = 0 := rfl
theorem topX_full (P : List Int) (part : List Bool) : topX P part part.length = topP P part := rfl
theorem topX_succ (P : List Int) (part : List Bool) (x : Nat) : topX P part (x + 1) = if hasN part x then max (topX P part x) (fI P x) else topX P part x := by
  rw [topX, List.range_succ, List.foldl_append]; rfl
theorem topX_ge {g : G} {P : List Int} (ok : POk g P) (part : List Bool) (x : Nat) : 0 ≤ topX P part x ∧ topX P part x ≤ 5 := by
  induction x with
  | zero => simp [topX_zero]
  | succ x ih =>
    rw [topX_succ]
    have := ok.hi x
    split <;> omega
def bestP (P : List Int) (part : List Bool) (top : Int) (v : Nat) : Bool := hasN part v && decide (fI P v = top)

section
variable {h0 : Heap} {k : ZN} {F : List (Nat × Ob)} (g : G) (hf : g.fits) {P : List Int} (ok : POk g P) (W T : List Int)
include hf ok

theorem pz_begins {f : Nat} {in_ : List Bool} (hin : in_.length = g.owner.length) (N : ZNok h0 k ((f, obF ⟨in_, 0, 0, [], []⟩) :: F)) (hF : F.length ≤ 100000) (hT : T.length = g.owner.length)
    {top who : Int} {best rest : List Bool} (etop : top = topP P in_) (ewho : who = whoP top) (ebest : best = bestL P in_ top) (erest : rest = lessL g in_ (goesR g who in_ best)) :
    AC Try.prog 91 [.ptr k.s 0, .ptr f 0] (ZH h0 k g P W T ((f, obF ⟨in_, 0, 0, [], []⟩) :: F)) fun _ h' => ∃ f2 q', ZNok h0 ⟨k.s, k.w, k.t, q', true⟩ ((f2, obF ⟨rest, 0, 0, [], []⟩) :: (f, obF ⟨in_, 1, who, best, rest⟩) :: F) ∧
      h' = ZH h0 ⟨k.s, k.w, k.t, q', true⟩ g P W (goesX g who in_ best T) ((f2, obF ⟨rest, 0, 0, [], []⟩) :: (f, obF ⟨in_, 1, who, best, rest⟩) :: F) := by
  have hn := (may_ok ok.m).1
  have NX : ∀ X, ZNok h0 k ((f, X) :: F) := fun _ => N
  have hlP := ok.len
  have htop := topX_ge ok in_ in_.length
  rw [topX_full, ← etop] at htop
  have hw01 : who = 0 ∨ who = 1 := by rw [ewho, whoP]; split <;> simp
  have fs := fun X W T => ZH.s (NX X) g P W T
  have ff := fun X W T => ZH.fr (NX X) g P W T
  have fp := fun X X' W T => ZH.putF (NX X) g P W T X'
  rw [fo_zero]
  refine AC.body Θ_ok Try.func91 rfl rfl (Nat.le_of_ble_eq_true rfl) ?_
  refine AW.seq fun _ k1 => AW.region [] Θ_ok ?_
  simp
  refine k1 _ ?_
  refine AW.seq fun _ k1 => ?_
  have h1 := ff (fo in_ 0 0 .nils .nils) W T
  have h2 := fs (fo in_ 0 0 .nils .nils) W T
  have p1 := fun X' => fp (fo in_ 0 0 .nils .nils) X' W T
  generalize ZH h0 k g P W T ((f, fo in_ 0 0 .nils .nils) :: F) = H at *
  refine AW.seq fun _ k2 => AW.region [] Θ_ok ?_
  simp [h1]
  refine k2 _ ?_
  refine AW.block ?_
  refine AW.loopI (X := Nat) (fun x => x ≤ in_.length) (fun x => ⟨109, [(0, .ptr k.s 0), (1, .ptr f 0), (4, .int .i64 (topX P in_ x)), (12, .ro true (bools in_)), (13, .int .i64 in_.length), (14, .int .i64 x)], H⟩) (fun x => in_.length - x) 0 (Nat.zero_le _) (GStep.eq (by simp [topX_zero]) (subH.refl _)) fun x hx => ?_
  refine AW.seq fun _ k2 => AW.region [] Θ_ok ?_
  simp
  refine k2 _ ?_
  by_cases hlt : x < in_.length
  · have inc := wrap_succ (show x < 9223372036854775807 by omega)
    have hltP : x < P.length := by omega
    have hs := topX_succ P in_ x
    have hh : hasN in_ x = in_[x] := by simp [hasN, hlt]
    have hv : fI P x = P[x] := by simp [fI, hltP]
    rw [hh, hv] at hs
    generalize hWs : topX P in_ (x + 1) = t2 at *
    generalize topX P in_ x = t1 at *
    refine AW.seq fun _ k2 => AW.cond true (by simp [Int.natCast_inj, hlt]) (fun _ => ?_) (fun h => by cases h)
    refine AW.skip ?_
    simp
    refine k2 _ ?_
    refine AW.seq fun _ k2 => ?_
    refine AW.block ?_
    refine AW.seq fun _ k3 => AW.region [] Θ_ok ?_
    simp [hlt]
    refine k3 _ ?_
    refine AW.seq fun _ k3 => AW.region [] Θ_ok ?_
    simp
    refine k3 _ ?_
    cases hb : in_[x]
    · rw [hb] at hs
      simp at hs
      refine AW.cond false (by simp [Int.natCast_inj, hb]) (fun h => by cases h) (fun _ => ?_)
      refine AW.skip ?_
      simp
      refine k2 _ ?_
      refine AW.region [] Θ_ok ?_
      simp
      exact ⟨x + 1, by omega, by omega, GStep.eq (by simp [inc, hWs, hs]) (subH.refl _)⟩
    · rw [hb, if_pos rfl] at hs
      have hm : (if t1 < P[x] then P[x] else t1) = t2 := by rw [hs]; split <;> omega
      refine AW.cond true (by simp [Int.natCast_inj, hb]) (fun _ => ?_) (fun h => by cases h)
      refine AW.region [] Θ_ok ?_
      simp [h2, hltP, hm]
      refine k2 _ ?_
      refine AW.region [] Θ_ok ?_
      simp
      exact ⟨x + 1, by omega, by omega, GStep.eq (by simp [inc, hWs]) (subH.refl _)⟩
  obtain rfl : x = in_.length := by omega
  rw [topX_full, ← etop]
  refine AW.seq fun _ k2 => AW.cond false (by simp [Int.natCast_inj]) (fun h => by cases h) (fun _ => ?_)
  refine AW.exit ?_
  simp
  refine k1 _ ?_
  refine AW.seq fun _ k1 => AW.region [] Θ_ok ?_
  simp [h1, p1, fo_mk]
  refine k1 _ ?_
  have hrem : (top.tmod 2 == 1) = decide (top % 2 = 1) := by rw [Int.tmod_eq_emod_of_nonneg htop.1]; rfl
  refine AW.seqTo ⟨109, [(0, .ptr k.s 0), (1, .ptr f 0), (4, .int .i64 top)], ZH h0 k g P W T ((f, fo in_ 0 who .nils .nils) :: F)⟩ (fun K k1 => ?_) ?_
  · clear h1 h2 p1
    refine AW.seq fun _ k2 => AW.region [] Θ_ok ?_
    simp [hrem]
    refine k2 _ ?_
    have h1 := ff (fo in_ 0 1 .nils .nils) W T
    have p1 := fun X' => fp (fo in_ 0 1 .nils .nils) X' W T
    by_cases c : top % 2 = 1
    · have e : who = 0 := by rw [ewho, whoP, if_pos c]
      generalize ZH h0 k g P W T ((f, fo in_ 0 1 .nils .nils) :: F) = H1 at *
      refine AW.cond true (by simp [Int.natCast_inj, c]) (fun _ => ?_) (fun h => by cases h)
      refine AW.region [] Θ_ok ?_
      simp [h1, p1, fo_mk]
      exact k1 _ (GStep.eq (by simp) (subH_of_eq (by rw [e])))
    · have e : who = 1 := by rw [ewho, whoP, if_neg c]
      refine AW.cond false (by simp [Int.natCast_inj, c]) (fun h => by cases h) (fun _ => ?_)
      refine AW.skip ?_
      simp
      exact k1 _ (GStep.eq (by simp) (subH_of_eq (by rw [e])))
  clear h1 h2 p1
  have h1 := ff (fo in_ 0 who .nils .nils) W T
  have p1 := fun X' => fp (fo in_ 0 who .nils .nils) X' W T
  refine AW.seq fun _ k1 => AW.region [45] Θ_ok ?_
  generalize hH : ZH h0 k g P W T ((f, fo in_ 0 who .nils .nils) :: F) = H at *
  simp [h1]
  refine ⟨by omega, fun b hb => ?_⟩
  have e1 : f ≠ b := fun e => by rw [e, hb] at h1; cases h1
  simp [upd_ne _ _ e1, h1, fo_mk]
  refine k1 _ ?_
  rw [upd_comm _ _ _ (Ne.symm e1), p1, replicate_tab, flat_tab (fun _ _ => rfl), stB_zero _ (bestP P in_ top)]
  have hb2 : ZH h0 k g P W T ((f, fo in_ 0 who (.mu b in_.length) .nils) :: F) b = none := by rw [← p1, upd_ne _ _ (Ne.symm e1)]; exact hb
  clear h1 p1 hb hH
  have h1 := ff (fo in_ 0 who (.mu b in_.length) .nils) W T
  have h2 := fs (fo in_ 0 who (.mu b in_.length) .nils) W T
  have p1 := fun X' => fp (fo in_ 0 who (.mu b in_.length) .nils) X' W T
  generalize ZH h0 k g P W T ((f, fo in_ 0 who (.mu b in_.length) .nils) :: F) = H at *
  have e2 : k.s ≠ b := fun e => by rw [e, hb2] at h2; cases h2
  have h1' : ∀ X, upd H b X f = some (fo in_ 0 who (.mu b in_.length) .nils) := fun X => by rw [upd_ne _ _ e1]; exact h1
  have h2' : ∀ X, upd H b X k.s = some (obZ g P k (F.length + 1)) := fun X => by rw [upd_ne _ _ e2]; exact h2
  refine AW.seq fun _ k1 => ?_
  refine AW.seq fun _ k2 => AW.region [] Θ_ok ?_
  simp [h1']
  refine k2 _ ?_
  refine AW.block ?_
  refine AW.loopI (X := Nat) (fun x => x ≤ in_.length) (fun x => ⟨109, [(0, .ptr k.s 0), (1, .ptr f 0), (4, .int .i64 top), (51, .ro true (bools in_)), (52, .int .i64 in_.length), (53, .int .i64 x)], upd H b (some ⟨stB in_.length x (bestP P in_ top), 4, 1, true⟩)⟩) (fun x => in_.length - x) 0 (Nat.zero_le _) (GStep.eq (by simp) (subH.refl _)) fun x hx => ?_
  refine AW.seq fun _ k2 => AW.region [] Θ_ok ?_
  simp
  refine k2 _ ?_
  by_cases hlt : x < in_.length
  · have inc := wrap_succ (show x < 9223372036854775807 by omega)
    have hltP : x < P.length := by omega
    have hset := stB_set in_.length x (bestP P in_ top)
    have hbv : bestP P in_ top x = (in_[x] && decide (P[x] = top)) := by simp [bestP, hasN, fI, hlt, hltP]
    rw [hbv] at hset
    have lX := stB_len in_.length x (bestP P in_ top)
    generalize hX2 : stB in_.length (x + 1) (bestP P in_ top) = X2 at *
    generalize stB in_.length x (bestP P in_ top) = X1 at *
    refine AW.seq fun _ k2 => AW.cond true (by simp [Int.natCast_inj, hlt]) (fun _ => ?_) (fun h => by cases h)
    refine AW.skip ?_
    simp
    refine k2 _ ?_
    refine AW.seq fun _ k2 => ?_
    refine AW.block ?_
    refine AW.seq fun _ k3 => AW.region [] Θ_ok ?_
    simp [hlt]
    refine k3 _ ?_
    cases hb : in_[x]
    · rw [hb, Bool.false_and] at hset
      refine AW.draw [] 18 [] Θ_ok mixed (by kernel_rfl) (by kernel_rfl) ?_
      simp [vcDraw, vcPre, vcTail, callA, isAlloc, isLoad, effOp, obl, obA, mkOK, valA, h1', h2', hlt, hltP, lX, hb, hset]
      refine ⟨by omega, k2 _ ?_⟩
      refine AW.region [] Θ_ok ?_
      simp
      exact ⟨x + 1, by omega, by omega, GStep.eq (by simp [inc]) (subH_of_eq (by simp only [upd_upd, hX2]))⟩
    · rw [hb, Bool.true_and] at hset
      have hq : (P[x] == top) = decide (P[x] = top) := rfl
      refine AW.draw [] 18 [] Θ_ok mixed (by kernel_rfl) (by kernel_rfl) ?_
      simp [vcDraw, vcPre, vcTail, callA, isAlloc, isLoad, effOp, obl, obA, mkOK, valA, h1', h2', hlt, hltP, lX, hb, hq, hset]
      refine ⟨by omega, k2 _ ?_⟩
      refine AW.region [] Θ_ok ?_
      simp
      exact ⟨x + 1, by omega, by omega, GStep.eq (by simp [inc]) (subH_of_eq (by simp only [upd_upd, hX2]))⟩
  obtain rfl : x = in_.length := by omega
  refine AW.seq fun _ k2 => AW.cond false (by simp [Int.natCast_inj]) (fun h => by cases h) (fun _ => ?_)
  refine AW.exit ?_
  simp
  refine k1 _ ?_
  have gv : GV (.mu b in_.length) (upd H b (some ⟨stB in_.length in_.length (bestP P in_ top), 4, 1, true⟩)) (.ro true (bools best)) (upd (upd H b (some ⟨stB in_.length in_.length (bestP P in_ top), 4, 1, true⟩)) b none) := by
    refine GV.freeze (upd_same _ _ _) (fun _ => rfl) (by simp [ebest, bestL]) (fun y hy => ?_) ?_
    · obtain ⟨z, _, rfl⟩ := List.mem_map.1 hy; rfl
    · rw [stB_full, flat_bools, ebest]
      simp only [Nat.mul_one]
      rw [List.take_of_length_le (by simp)]
      rfl
  refine AW.ghost (GStep.cell (S := ⟨109, _, _⟩) (p := f) (j := 3) (h1' _) rfl gv (by rw [upd_upd, upd_ne _ _ e1]; exact h1) (by simp)) ?_
  have eH : upd (upd (upd H b (some ⟨stB in_.length in_.length (bestP P in_ top), 4, 1, true⟩)) b none) f (some ⟨(fo in_ 0 who (.mu b in_.length) .nils).cells.set 3 (.ro true (bools best)), (fo in_ 0 who (.mu b in_.length) .nils).ty, (fo in_ 0 who (.mu b in_.length) .nils).sz, (fo in_ 0 who (.mu b in_.length) .nils).nn⟩) = ZH h0 k g P W T ((f, fo in_ 0 who (.ro true (bools best)) .nils) :: F) := by
    rw [upd_upd, upd_none_id hb2, ← p1]; rfl
  simp only [eH]
  clear eH gv h1' h2' h1 h2 p1 hb2 e1 e2
  have lbest : best.length = g.owner.length := by rw [ebest, bestL, length_tab]; exact hin
  have sg := pz_goes (NX (fo in_ 0 who (.ro true (bools best)) .nils)) g hf P W T who hw01 in_ best hin (by omega) hT ok.m
  have lT2 : (goesX g who in_ best T).length = g.owner.length := length_tab _ _
  generalize goesX g who in_ best T = T2 at *
  have sl := pz_less (NX (fo in_ 0 who (.ro true (bools best)) .nils)) g hf P W T2 in_ (goesR g who in_ best)
  rw [← erest] at sl
  generalize goesR g who in_ best = A at *
  have h1 := ff (fo in_ 0 who (.ro true (bools best)) .nils) W T
  have h2 := fs (fo in_ 0 who (.ro true (bools best)) .nils) W T
  have g1 := ff (fo in_ 0 who (.ro true (bools best)) .nils) W T2
  have g2 := fs (fo in_ 0 who (.ro true (bools best)) .nils) W T2
  have p1 := fun X' => fp (fo in_ 0 who (.ro true (bools best)) .nils) X' W T2
  generalize ZH h0 k g P W T ((f, fo in_ 0 who (.ro true (bools best)) .nils) :: F) = H at *
  generalize ZH h0 k g P W T2 ((f, fo in_ 0 who (.ro true (bools best)) .nils) :: F) = H2 at *
  refine AW.seq fun _ k1 => AW.draw [] 19 [5, 10, 14, 18] Θ_ok mixed (by kernel_rfl) (by kernel_rfl) ?_
  simp [vcDraw, vcPre, vcTail, callA, isAlloc, isLoad, effOp, obl, obA, mkOK, valA, h1, h2]
  refine (sg.wk (by simp)).mono ?_
  rintro r h' ⟨rfl, rfl⟩
  simp [g1, g2]
  refine (sl.wk (by simp)).mono ?_
  rintro r h' ⟨rfl, rfl⟩
  simp [g1, g2, p1, fo_mk]
  refine k1 _ ?_
  clear h1 h2 g1 g2 p1 sg sl
  have h1 := ff (fo in_ 0 who (.ro true (bools best)) (.ro true (bools rest))) W T2
  have p1 := fun X' => fp (fo in_ 0 who (.ro true (bools best)) (.ro true (bools rest))) X' W T2
  generalize ZH h0 k g P W T2 ((f, fo in_ 0 who (.ro true (bools best)) (.ro true (bools rest))) :: F) = H at *
  refine AW.seq fun _ k1 => AW.region [] Θ_ok ?_
  simp [h1, p1, fo_mk]
  refine k1 _ ?_
  clear h1 p1
  have e1 : fo in_ 1 who (.ro true (bools best)) (.ro true (bools rest)) = obF ⟨in_, 1, who, best, rest⟩ := (fo_one in_ 0 who best rest).symm
  rw [e1]
  have h1 := ff (obF ⟨in_, 1, who, best, rest⟩) W T2
  have sp := pz_push (NX (obF ⟨in_, 1, who, best, rest⟩)) g hf P W T2 rest (by simp; omega)
  generalize hH : ZH h0 k g P W T2 ((f, obF ⟨in_, 1, who, best, rest⟩) :: F) = H at *
  refine AW.regionAt 6 [] Θ_ok fun B hB => ?_
  simp [h1]
  refine sp.mono ?_
  rintro r h' ⟨f2, q', N2, rfl⟩
  refine hB _ ?_
  clear hB B
  simp [Try.f91]
  exact Fin.refl ⟨f2, q', N2, rfl⟩
end
end Go.Par

set_option linter.unusedSimpArgs false
set_option linter.unusedVariables false
set_option linter.unusedSectionVars false
set_option maxRecDepth 8000
set_option maxHeartbeats 1000000
namespace Go.Par
open Go.Proofs

section
variable {h0 : Heap} {k : ZN} {F : List (Nat × Ob)} (g : G) (hf : g.fits) {P : List Int} (ok : POk g P) (W T : List Int)
include hf ok

theorem pz_halves {f : Nat} {in_ best rest : List Bool} {who : Int} (hin : in_.length = g.owner.length) (hbl : best.length = g.owner.length) (hrl : rest.length = g.owner.length) (hw01 : who = 0 ∨ who = 1) (N : ZNok h0 k ((f, obF ⟨in_, 1, who, best, rest⟩) :: F)) (hF : F.length ≤ 100000) (hW : W.length = g.owner.length) (hT : T.length = g.owner.length)
    {other back : List Bool} (eoth : other = wonL (1 - who) rest W) (eback : back = goesR g (1 - who) in_ other) :
    AC Try.prog 92 [.ptr k.s 0, .ptr f 0] (ZH h0 k g P W T ((f, obF ⟨in_, 1, who, best, rest⟩) :: F)) fun _ h' =>
      (anyL g other = false ∧ h' = ZH h0 k g P (winsX g.owner.length who in_ W) (staysX g who in_ best T) F) ∨
      (anyL g other = true ∧ ∃ f2 q', ZNok h0 ⟨k.s, k.w, k.t, q', true⟩ ((f2, obF ⟨lessL g in_ back, 0, 0, [], []⟩) :: (f, obF ⟨in_, 2, who, best, rest⟩) :: F) ∧
        h' = ZH h0 ⟨k.s, k.w, k.t, q', true⟩ g P (winsX g.owner.length (1 - who) back W) (goesX g (1 - who) in_ other T) ((f2, obF ⟨lessL g in_ back, 0, 0, [], []⟩) :: (f, obF ⟨in_, 2, who, best, rest⟩) :: F)) := by
  have hn := (may_ok ok.m).1
  have NX : ∀ X, ZNok h0 k ((f, X) :: F) := fun _ => N
  have fs := fun X W T => ZH.s (NX X) g P W T
  have ff := fun X W T => ZH.fr (NX X) g P W T
  have fp := fun X X' W T => ZH.putF (NX X) g P W T X'
  have e1 : obF ⟨in_, 1, who, best, rest⟩ = fo in_ 1 who (.ro true (bools best)) (.ro true (bools rest)) := fo_one in_ 0 who best rest
  have e2 : obF ⟨in_, 2, who, best, rest⟩ = fo in_ 2 who (.ro true (bools best)) (.ro true (bools rest)) := fo_one in_ 1 who best rest
  have w1 : IntKind.i64.wrap (1 - who) = 1 - who := wrap_id (by omega) (by omega)
  have lo : other.length = g.owner.length := by rw [eoth, wonL, length_tab]; exact hrl
  have lb : back.length = g.owner.length := by rw [eback]; exact len_and _ _ _
  have sw := pz_won N g hf P W T (1 - who) rest hrl hW hn
  rw [← eoth] at sw
  have sa := pz_any N g hf P W T other
  have ss := pz_stays N g hf P W T who in_ best hin hbl hT ok.m
  have swi := pz_wins N g hf P W (staysX g who in_ best T) who in_ hin hW hn
  have spp := pz_pop (ZNok.less N) g hf P (winsX g.owner.length who in_ W) (staysX g who in_ best T) N (by omega)
  have sg := pz_goes N g hf P W T (1 - who) (by omega) in_ other hin (by omega) hT ok.m
  rw [← eback] at sg
  have swi2 := pz_wins N g hf P W (goesX g (1 - who) in_ other T) (1 - who) back lb hW hn
  have h1 := ff (obF ⟨in_, 1, who, best, rest⟩) W T
  have h1s := ff (obF ⟨in_, 1, who, best, rest⟩) W (staysX g who in_ best T)
  have h1g := ff (obF ⟨in_, 1, who, best, rest⟩) W (goesX g (1 - who) in_ other T)
  have h1w := ff (obF ⟨in_, 1, who, best, rest⟩) (winsX g.owner.length (1 - who) back W) (goesX g (1 - who) in_ other T)
  have p1 := fun X' => fp (obF ⟨in_, 1, who, best, rest⟩) X' (winsX g.owner.length (1 - who) back W) (goesX g (1 - who) in_ other T)
  rw [e1] at *
  generalize winsX g.owner.length who in_ W = Wa at *
  generalize staysX g who in_ best T = Ta at *
  generalize winsX g.owner.length (1 - who) back W = Wb at *
  generalize goesX g (1 - who) in_ other T = Tb at *
  generalize ZH h0 k g P W T ((f, fo in_ 1 who (.ro true (bools best)) (.ro true (bools rest))) :: F) = H at *
  generalize ZH h0 k g P W Ta ((f, fo in_ 1 who (.ro true (bools best)) (.ro true (bools rest))) :: F) = H2 at *
  generalize ZH h0 k g P Wa Ta ((f, fo in_ 1 who (.ro true (bools best)) (.ro true (bools rest))) :: F) = H3 at *
  generalize ZH h0 k g P W Tb ((f, fo in_ 1 who (.ro true (bools best)) (.ro true (bools rest))) :: F) = H4 at *
  generalize ZH h0 k g P Wb Tb ((f, fo in_ 1 who (.ro true (bools best)) (.ro true (bools rest))) :: F) = H5 at *
  refine AC.body Θ_ok Try.func92 rfl rfl (Nat.le_of_ble_eq_true rfl) ?_
  refine AW.seq fun _ k1 => AW.draw [] 10 [4] Θ_ok mixed (by kernel_rfl) (by kernel_rfl) ?_
  simp [vcDraw, vcPre, vcTail, callA, isAlloc, isLoad, effOp, obl, obA, mkOK, valA, h1, w1]
  refine sw.mono ?_
  rintro r h' ⟨rfl, rfl⟩
  simp [h1]
  refine k1 _ ?_
  refine AW.seq fun _ k1 => ?_
  refine AW.seq fun _ k2 => AW.regionAt 3 [] Θ_ok fun B hB => ?_
  simp
  refine (sa.wk (by simp)).mono ?_
  rintro r h' ⟨rfl, rfl⟩
  generalize hav : anyL g other = av at *
  refine hB _ ?_
  clear hB B
  simp
  refine k2 _ ?_
  cases av
  · refine AW.cond true (by simp [Int.natCast_inj]) (fun _ => ?_) (fun h => by cases h)
    refine AW.seq fun _ k1 => AW.draw [] 13 [] Θ_ok mixed (by kernel_rfl) (by kernel_rfl) ?_
    simp [vcDraw, vcPre, vcTail, callA, isAlloc, isLoad, effOp, obl, obA, mkOK, valA, h1]
    refine ss.mono ?_
    rintro r h' rfl
    refine k1 _ ?_
    refine AW.seq fun _ k1 => AW.draw [] 9 [] Θ_ok mixed (by kernel_rfl) (by kernel_rfl) ?_
    simp [vcDraw, vcPre, vcTail, callA, isAlloc, isLoad, effOp, obl, obA, mkOK, valA, h1s]
    refine swi.mono ?_
    rintro r h' rfl
    refine k1 _ ?_
    refine AW.seq fun _ k1 => AW.regionAt 2 [] Θ_ok fun B hB => ?_
    simp
    refine spp.mono ?_
    rintro r h' rfl
    refine hB _ ?_
    refine k1 _ (AW.ret ?_)
    simp [Try.f92]
    exact Fin.refl rfl
  · refine AW.cond false (by simp [Int.natCast_inj]) (fun h => by cases h) (fun _ => ?_)
    refine AW.skip ?_
    simp
    refine k1 _ ?_
    refine AW.seq fun _ k1 => AW.draw [] 11 [4] Θ_ok mixed (by kernel_rfl) (by kernel_rfl) ?_
    simp [vcDraw, vcPre, vcTail, callA, isAlloc, isLoad, effOp, obl, obA, mkOK, valA, h1, w1]
    refine sg.mono ?_
    rintro r h' ⟨rfl, rfl⟩
    simp [h1g]
    refine k1 _ ?_
    refine AW.seq fun _ k1 => AW.regionAt 8 [] Θ_ok fun B hB => ?_
    simp [h1g, w1]
    refine swi2.mono ?_
    rintro r h' rfl
    refine hB _ ?_
    clear hB B
    refine k1 _ ?_
    refine AW.seq fun _ k1 => AW.region [] Θ_ok ?_
    simp [h1w, p1, fo_mk]
    refine k1 _ ?_
    clear h1 h1s h1g h1w p1 sw sa ss swi spp sg swi2
    have h1 := ff (fo in_ 2 who (.ro true (bools best)) (.ro true (bools rest))) Wb Tb
    have sl := pz_less (NX (fo in_ 2 who (.ro true (bools best)) (.ro true (bools rest)))) g hf P Wb Tb in_ back
    have sp := pz_push (NX (fo in_ 2 who (.ro true (bools best)) (.ro true (bools rest)))) g hf P Wb Tb (lessL g in_ back) (by simp; omega)
    generalize ZH h0 k g P Wb Tb ((f, fo in_ 2 who (.ro true (bools best)) (.ro true (bools rest))) :: F) = H6 at *
    refine AW.regionAt 8 [] Θ_ok fun B hB => ?_
    simp [h1]
    refine (sl.wk (by simp)).mono ?_
    rintro r h' ⟨rfl, rfl⟩
    refine hB _ ?_
    clear hB B
    simp [Try.f92]
    refine sp.mono ?_
    rintro r h' ⟨f2, q', N2, rfl⟩
    refine Fin.refl ⟨f2, q', ?_, ?_⟩
    · rw [e2]; exact N2
    · rw [e2]

theorem pz_solve1 {f : Nat} {X : Ob} (N : ZNok h0 k ((f, X) :: F)) (hF : F.length ≤ 100000) (a : AV) :
    AC Try.prog 93 [a, .rop [.ptr k.s 0]] (ZH h0 k g P W T ((f, X) :: F)) fun _ h' => h' = ZH h0 k g P W T F := by
  have sp := pz_pop (ZNok.less N) g hf P W T N (by omega)
  generalize ZH h0 k g P W T ((f, X) :: F) = H at *
  refine AC.body Θ_ok Try.func93 rfl rfl (Nat.le_of_ble_eq_true rfl) ?_
  refine AW.regionAt 2 [] Θ_ok fun B hB => ?_
  simp
  refine sp.mono ?_
  rintro r h' rfl
  refine hB _ ?_
  simp [Try.f93]
  exact Fin.refl rfl
end
end Go.Par

set_option linter.unusedSimpArgs false
set_option linter.unusedVariables false
set_option linter.unusedSectionVars false
set_option maxRecDepth 8000
set_option maxHeartbeats 1000000
namespace Go.Par
open Go.Proofs

/-! ### What holds of all states of the machine -/
theorem goes_in {g : G} {P : List Int} (ok : POk g P) {who : Int} {part s : List Bool} {v : Nat} (hv : v < g.owner.length) (h1 : hasN s v = true) (h2 : hasN part v = true) : inP g (goesR g who part s) v := by
  refine ⟨hv, ?_⟩
  rw [goesR, has_and hv, h2, Bool.and_true]
  exact reg_in (by rw [only_len ok.m]; exact hv) h1

theorem best_some {g : G} {P : List Int} (ok : POk g P) {part : List Bool} (hl : part.length = g.owner.length) (h : anyL g part = true) : ∃ v, inP g part v ∧ hasN (bestL P part (topP P part)) v = true := by
  obtain ⟨v0, hv0⟩ := anyL_iff.1 h
  obtain ⟨m1, m2, m3⟩ := max_fold P (hasN part) ok.lo (List.range part.length) 0
  rw [show (List.range part.length).foldl (fun t v => if hasN part v then max t (fI P v) else t) 0 = topP P part from rfl] at m1 m2 m3
  have key : ∀ v, inP g part v → fI P v = topP P part → hasN (bestL P part (topP P part)) v = true := fun v hv e => by
    rw [bestL, hasN_tab (by rw [hl]; exact hv.1), hv.2, Bool.true_and, decide_eq_true_eq]; exact e
  rcases m3 with q | ⟨v, hv, q1, q2⟩
  · have h1 := m2 v0 (by simp [hl, hv0.1]) hv0.2
    have h2 := ok.lo v0
    exact ⟨v0, hv0, key v0 hv0 (by omega)⟩
  · exact ⟨v, ⟨by simpa [hl] using hv, q1⟩, key v ⟨by simpa [hl] using hv, q1⟩ q2.symm⟩

structure FOk (g : G) (f : Fr) : Prop where
  len : f.in_.length = g.owner.length
  le : f.step ≤ 2
  zero : f.step = 0 → f = ⟨f.in_, 0, 0, [], []⟩
  one : f.step = 1 → f.best.length = g.owner.length ∧ f.rest.length = g.owner.length ∧ (f.who = 0 ∨ f.who = 1) ∧ ∀ v, hasN f.rest v = true → hasN f.in_ v = true

structure ZOk (g : G) (s : ZS) : Prop where
  lW : s.W.length = g.owner.length
  lT : s.T.length = g.owner.length
  fr : ∀ f ∈ s.st, FOk g f
  ch : s.st.Pairwise fun a b => cntS a.in_ < cntS b.in_

theorem ZOk.small {g : G} {s : ZS} (h : ZOk g s) : s.st.length ≤ g.owner.length + 1 := by
  have := nodup_lt (n := g.owner.length + 1) (l := s.st.map fun f => cntS f.in_) (by
    rw [List.nodup_iff_pairwise_ne, List.pairwise_map]
    exact h.ch.imp fun q e => by omega) fun x hx => by
      obtain ⟨f, hf, rfl⟩ := List.mem_map.1 hx
      have := cntS_le f.in_
      rw [(h.fr f hf).len] at this
      omega
  simpa using this

theorem whoP_two (t : Int) : whoP t = 0 ∨ whoP t = 1 := by unfold whoP; split <;> simp

theorem zok_step {g : G} {P : List Int} (ok : POk g P) {s : ZS} (h : ZOk g s) (hne : s.st ≠ []) : ZOk g (zstep g P s) := by
  obtain ⟨st, W, T⟩ := s
  cases st with
  | nil => exact absurd rfl hne
  | cons f K =>
    have hfr := h.fr f (by simp)
    have hK := List.pairwise_cons.1 h.ch
    have lT := h.lT
    have lW := h.lW
    simp only at lT lW
    have pop : ∀ W' T', W'.length = g.owner.length → T'.length = g.owner.length → ZOk g ⟨K, W', T'⟩ := fun W' T' h1 h2 => ⟨h1, h2, fun f' hf' => h.fr f' (by simp [hf']), hK.2⟩
    obtain ⟨a, st, who, best, rest⟩ := f
    by_cases ha : anyL g a = false
    · simp only [zstep, ha, if_true]
      exact pop _ _ lW lT
    · have ha' : anyL g a = true := by simpa using ha
      have hl : a.length = g.owner.length := hfr.len
      match st, hfr with
      | 0, hfr =>
        simp only [zstep, ha', Bool.true_eq_false, if_false]
        obtain ⟨v, v1, v2⟩ := best_some ok hl ha'
        have lb : (bestL P a (topP P a)).length = g.owner.length := by rw [bestL, length_tab]; exact hl
        refine ⟨lW, length_tab _ _, fun f' hf' => ?_, ?_⟩
        · rcases List.mem_cons.1 hf' with rfl | hf'
          · exact ⟨len_and _ _ _, by simp, fun _ => rfl, fun e => (by cases e)⟩
          · rcases List.mem_cons.1 hf' with rfl | hf'
            · exact ⟨hl, by simp, fun e => (by cases e), fun _ => ⟨lb, len_and _ _ _, whoP_two _, fun u hu => by
                have hul : u < g.owner.length := by have := hasN_lt hu; rwa [lessL, len_and] at this
                rw [lessL, has_and hul, Bool.and_eq_true] at hu; exact hu.1⟩⟩
            · exact h.fr f' (by simp [hf'])
        · have hlt := cnt_less (g := g) hl v1 (goes_in (who := whoP (topP P a)) ok v1.1 v2 v1.2)
          refine List.pairwise_cons.2 ⟨fun b hb => ?_, List.pairwise_cons.2 ⟨hK.1, hK.2⟩⟩
          rcases List.mem_cons.1 hb with rfl | hb
          · exact hlt
          · have := hK.1 b hb; simp only at this ⊢; omega
      | 1, hfr =>
        obtain ⟨b1, b2, b3, b4⟩ := hfr.one rfl
        simp only at b1 b2 b3 b4
        simp only [zstep, ha', Bool.true_eq_false, if_false]
        by_cases ho : anyL g (wonL (1 - who) rest W) = false
        · rw [if_pos ho]
          exact pop _ _ (length_tab _ _) (length_tab _ _)
        · rw [if_neg ho]
          obtain ⟨v, v1, v2⟩ := anyL_iff.1 (show anyL g (wonL (1 - who) rest W) = true by simpa using ho)
          have v3 : hasN a v = true := by
            rw [wonL, hasN_tab (by omega), Bool.and_eq_true] at v2
            exact b4 v v2.1
          refine ⟨length_tab _ _, length_tab _ _, fun f' hf' => ?_, ?_⟩
          · rcases List.mem_cons.1 hf' with rfl | hf'
            · exact ⟨len_and _ _ _, by simp, fun _ => rfl, fun e => (by cases e)⟩
            · rcases List.mem_cons.1 hf' with rfl | hf'
              · exact ⟨hl, by simp, fun e => (by cases e), fun e => (by cases e)⟩
              · exact h.fr f' (by simp [hf'])
          · have hlt := cnt_less (g := g) hl ⟨v1, v3⟩ (goes_in (who := 1 - who) ok v1 v2 v3)
            refine List.pairwise_cons.2 ⟨fun b hb => ?_, List.pairwise_cons.2 ⟨hK.1, hK.2⟩⟩
            rcases List.mem_cons.1 hb with rfl | hb
            · exact hlt
            · have := hK.1 b hb; simp only at this ⊢; omega
      | st + 2, hfr =>
        simp only [zstep, ha', Bool.true_eq_false, if_false]
        exact pop _ _ lW lT

structure ZX where
  k : ZN
  F : List (Nat × Ob)
  s : ZS
  m : Nat

theorem Zto.nil {g : G} {P : List Int} {m : Nat} {s s' : ZS} (h : Zto g P m s s') (e : s.st = []) : m = 0 ∧ s = s' := by
  cases m with
  | zero => exact ⟨rfl, h⟩
  | succ m => exact absurd e h.1
theorem Zto.cons {g : G} {P : List Int} {m : Nat} {s s' : ZS} (h : Zto g P m s s') (e : s.st ≠ []) (e' : s'.st = []) : ∃ m', m = m' + 1 ∧ Zto g P m' (zstep g P s) s' := by
  cases m with
  | zero => have : s = s' := h; subst this; exact absurd e' e
  | succ m => exact ⟨m, rfl, h.2⟩

def stepsV (s : Nat) : AV := .ro true [.bnd 91 [.ptr s 0], .bnd 92 [.ptr s 0], .clo 93 [.rop [.ptr s 0]]]

section
variable {h0 : Heap} (g : G) (hf : g.fits) {P : List Int} (ok : POk g P)
include hf ok

theorem pz_solve {k0 : ZN} {F0 : List (Nat × Ob)} {s0 fin : ZS} {m0 : Nat} (N0 : ZNok h0 k0 F0) (hF0 : F0.map Prod.snd = s0.st.map obF) (hs0 : ZOk g s0) (hz : Zto g P m0 s0 fin) (hfin : fin.st = []) :
    AC Try.prog 70 [.ptr k0.s 0] (ZH h0 k0 g P s0.W s0.T F0) fun _ h' => ∃ k' : ZN, ZNok h0 k' [] ∧ k'.s = k0.s ∧ k'.w = k0.w ∧ k'.t = k0.t ∧ h' = ZH h0 k' g P fin.W fin.T [] := by
  have hn := (may_ok ok.m).1
  refine AC.body Θ_ok Try.func70 rfl rfl (Nat.le_of_ble_eq_true rfl) ?_
  refine AW.seq fun _ k1 => AW.region [] Θ_ok ?_
  simp
  refine k1 _ ?_
  refine AW.seq fun _ k1 => AW.region [] Θ_ok ?_
  simp
  refine ⟨rfl, k1 _ ?_⟩
  refine AW.block ?_
  refine AW.loopI (X := ZX) (fun z => ZNok h0 z.k z.F ∧ z.F.map Prod.snd = z.s.st.map obF ∧ ZOk g z.s ∧ Zto g P z.m z.s fin ∧ z.k.s = k0.s ∧ z.k.w = k0.w ∧ z.k.t = k0.t) (fun z => ⟨46, [(1, .rop [.ptr k0.s 0]), (2, stepsV k0.s)], ZH h0 z.k g P z.s.W z.s.T z.F⟩) (fun z => z.m) ⟨k0, F0, s0, m0⟩ ⟨N0, hF0, hs0, hz, rfl, rfl, rfl⟩ (GStep.eq (by simp [stepsV]) (subH.refl _)) ?_
  rintro ⟨k, F, s, m⟩ ⟨N, hF, hs, hzz, ks, kw, kt⟩
  simp only at N hF hs hzz ks kw kt ⊢
  have lF : F.length = s.st.length := by have := congrArg List.length hF; simpa using this
  have small := hs.small
  have h2 := ZH.s N g P s.W s.T
  have h3 := ZH.q N g P s.W s.T
  rw [← ks]
  refine AW.seq fun _ k1 => ?_
  generalize hH : ZH h0 k g P s.W s.T F = H at *
  refine AW.seq fun _ k2 => AW.region [] Θ_ok ?_
  simp [h2]
  refine k2 _ ?_
  cases hst : s.st with
  | nil =>
    obtain ⟨rfl, rfl⟩ := hzz.nil hst
    have hF0 : F = [] := List.length_eq_zero_iff.1 (by rw [lF, hst]; rfl)
    subst hF0
    refine AW.cond false (by simp) (fun h => by cases h) (fun _ => ?_)
    refine AW.exit ?_
    simp [Try.f70]
    exact Fin.refl ⟨k, N, rfl, by rw [kw], by rw [kt], hH.symm⟩
  | cons f K =>
    obtain ⟨⟨nf, X⟩, F', rfl⟩ : ∃ p F', F = p :: F' := by
      cases F with
      | nil => rw [hst] at lF; simp at lF
      | cons p F' => exact ⟨p, F', rfl⟩
    rw [hst] at hF
    simp only [List.map_cons, List.cons.injEq] at hF
    obtain ⟨hX, hF'⟩ := hF
    subst hX
    have lF' : F'.length ≤ 100000 := by rw [hst] at lF small; simp at lF small; omega
    obtain ⟨m', rfl, hzz'⟩ := hzz.cons (by rw [hst]; simp) hfin
    have hs' := zok_step ok hs (by rw [hst]; simp)
    have hfr := hs.fr f (by rw [hst]; simp)
    obtain ⟨st, W, T⟩ := s
    simp only at hst
    subst hst
    obtain ⟨a, fs, who, best, rest⟩ := f
    have h4 := ZH.fr N g P W T
    rw [hH] at h4
    simp only at h2 h3 hH
    have dq : List.drop F'.length (obQ (nms ((nf, obF ⟨a, fs, who, best, rest⟩) :: F')) k.nn).cells = [.ptr nf 0] := by
      have e : (obQ (nms ((nf, obF ⟨a, fs, who, best, rest⟩) :: F')) k.nn).cells = (obQ (nms F') k.nn).cells ++ [.ptr nf 0] := by simp
      have l : (obQ (nms F') k.nn).cells.length = F'.length := by simp
      rw [e, List.drop_left' l]
    have w1 : IntKind.i64.wrap (((F'.length + 1 : Nat) : Int) - 1) = (F'.length : Nat) := by rw [show ((F'.length + 1 : Nat) : Int) - 1 = (F'.length : Int) by omega]; exact wrap_nat (by omega)
    have w2 : IntKind.i64.wrap (F'.length : Int) = (F'.length : Nat) := wrap_nat (by omega)
    generalize hQ : obQ (nms ((nf, obF ⟨a, fs, who, best, rest⟩) :: F')) k.nn = Q at *
    have sa := pz_any N g hf P W T a
    have spp := pz_pop (ZNok.less N) g hf P W T N (by omega)
    rw [hH] at sa spp
    refine AW.cond true (by simp) (fun _ => ?_) (fun h => by cases h)
    refine AW.skip ?_
    simp
    refine k1 _ ?_
    refine AW.block ?_
    refine AW.seq fun _ k1 => AW.draw [] 12 [] Θ_ok mixed (by kernel_rfl) (by kernel_rfl) ?_
    simp [vcDraw, vcPre, vcTail, callA, isAlloc, isLoad, effOp, obl, obA, mkOK, valA, h2, h3, dq, w1, w2]
    refine ⟨by omega, k1 _ ?_⟩
    refine AW.seq fun _ k1 => ?_
    refine AW.seq fun _ k2 => AW.draw [] 5 [] Θ_ok mixed (by kernel_rfl) (by kernel_rfl) ?_
    simp [vcDraw, vcPre, vcTail, callA, isAlloc, isLoad, effOp, obl, obA, mkOK, valA, h4]
    refine (sa.wk (by simp)).mono ?_
    rintro r h' ⟨rfl, rfl⟩
    have hz0 : zstep g P ⟨⟨a, fs, who, best, rest⟩ :: K, W, T⟩ = if anyL g a = false then ⟨K, W, T⟩ else zstep g P ⟨⟨a, fs, who, best, rest⟩ :: K, W, T⟩ := by
      split
      · rename_i e; simp only [zstep, e, if_true]
      · rfl
    generalize hav : anyL g a = av at *
    simp
    refine k2 _ ?_
    cases av
    · rw [if_pos rfl] at hz0
      rw [hz0] at hzz' hs'
      refine AW.cond true (by simp [Int.natCast_inj]) (fun _ => ?_) (fun h => by cases h)
      refine AW.seq fun _ k3 => AW.regionAt 1 [] Θ_ok fun B hB => ?_
      simp
      refine hB _ ?_
      simp
      refine spp.mono ?_
      rintro r h' rfl
      refine k3 _ ?_
      refine AW.exit ?_
      simp
      exact ⟨⟨k, F', ⟨K, W, T⟩, m'⟩, ⟨ZNok.less N, hF', hs', hzz', rfl, kw, kt⟩, by simp only; omega, GStep.eq (by simp) (subH.refl _)⟩
    · clear hz0 sa spp
      refine AW.cond false (by simp [Int.natCast_inj]) (fun h => by cases h) (fun _ => ?_)
      refine AW.skip ?_
      simp
      refine k1 _ ?_
      match fs, hfr with
      | 0, hfr =>
        have hz := hfr.zero rfl
        simp only [Fr.mk.injEq, true_and] at hz
        obtain ⟨rfl, rfl, rfl⟩ := hz
        have e0 : zstep g P ⟨⟨a, 0, 0, [], []⟩ :: K, W, T⟩ = ⟨⟨lessL g a (goesR g (whoP (topP P a)) a (bestL P a (topP P a))), 0, 0, [], []⟩ :: ⟨a, 1, whoP (topP P a), bestL P a (topP P a), lessL g a (goesR g (whoP (topP P a)) a (bestL P a (topP P a)))⟩ :: K, W, goesX g (whoP (topP P a)) a (bestL P a (topP P a)) T⟩ := by
          simp only [zstep, hav, Bool.true_eq_false, if_false]
        rw [e0] at hzz' hs'
        have sb := pz_begins g hf ok W T hfr.len N lF' hs.lT rfl rfl rfl rfl
        rw [hH] at sb
        refine AW.regionAt 8 [] Θ_ok fun B hB => ?_
        simp [h4, stepsV]
        refine hB _ ?_
        simp
        refine sb.mono ?_
        rintro r h' ⟨f2, q', N2, rfl⟩
        exact ⟨⟨_, _, _, m'⟩, ⟨N2, by simp [hF'], hs', hzz', rfl, kw, kt⟩, by simp only; omega, GStep.eq (by simp [stepsV]) (subH.refl _)⟩
      | 1, hfr =>
        obtain ⟨b1, b2, b3, b4⟩ := hfr.one rfl
        have e0 : zstep g P ⟨⟨a, 1, who, best, rest⟩ :: K, W, T⟩ = if anyL g (wonL (1 - who) rest W) = false then ⟨K, winsX g.owner.length who a W, staysX g who a best T⟩ else
            ⟨⟨lessL g a (goesR g (1 - who) a (wonL (1 - who) rest W)), 0, 0, [], []⟩ :: ⟨a, 2, who, best, rest⟩ :: K, winsX g.owner.length (1 - who) (goesR g (1 - who) a (wonL (1 - who) rest W)) W, goesX g (1 - who) a (wonL (1 - who) rest W) T⟩ := by
          simp only [zstep, hav, Bool.true_eq_false, if_false]
        rw [e0] at hzz' hs'
        have sb := pz_halves g hf ok W T hfr.len b1 b2 b3 N lF' hs.lW hs.lT rfl rfl
        rw [hH] at sb
        refine AW.regionAt 8 [] Θ_ok fun B hB => ?_
        simp [h4, stepsV]
        refine hB _ ?_
        simp
        refine sb.mono ?_
        rintro r h' (⟨c, rfl⟩ | ⟨c, f2, q', N2, rfl⟩)
        · rw [if_pos c] at hzz' hs'
          exact ⟨⟨k, F', _, m'⟩, ⟨ZNok.less N, hF', hs', hzz', rfl, kw, kt⟩, by simp only; omega, GStep.eq (by simp [stepsV]) (subH.refl _)⟩
        · rw [if_neg (by rw [c]; simp)] at hzz' hs'
          exact ⟨⟨_, _, _, m'⟩, ⟨N2, by simp [hF'], hs', hzz', rfl, kw, kt⟩, by simp only; omega, GStep.eq (by simp [stepsV]) (subH.refl _)⟩
      | fs + 2, hfr =>
        have hle := hfr.le
        obtain rfl : fs = 0 := by simp only at hle; omega
        have e0 : zstep g P ⟨⟨a, 0 + 2, who, best, rest⟩ :: K, W, T⟩ = ⟨K, W, T⟩ := by
          simp only [zstep, hav, Bool.true_eq_false, if_false]
        rw [e0] at hzz' hs'
        have sb := pz_solve1 g hf ok W T N lF' (.ptr nf 0)
        rw [hH] at sb
        refine AW.regionAt 8 [] Θ_ok fun B hB => ?_
        simp [h4, stepsV]
        refine hB _ ?_
        simp
        refine sb.mono ?_
        rintro r h' rfl
        exact ⟨⟨k, F', _, m'⟩, ⟨ZNok.less N, hF', hs', hzz', rfl, kw, kt⟩, by simp only; omega, GStep.eq (by simp [stepsV]) (subH.refl _)⟩
end
end Go.Par

set_option linter.unusedSimpArgs false
set_option linter.unusedVariables false
set_option linter.unusedSectionVars false
set_option maxRecDepth 8000
set_option maxHeartbeats 1000000
namespace Go.Par
open Go.Proofs

theorem parity_May (g : G) (hf : g.fits) (P : List Int) (hP : P.length ≤ 1152921504606846976) : Pure Try.prog 63 [g.av, .ro false (ints P)] (.bool (mayP g P)) := by
  intro h
  refine AC.body Θ_ok Try.func63 rfl rfl (Nat.le_of_ble_eq_true rfl) ?_
  refine AW.seq fun _ k1 => AW.region [] Θ_ok ?_
  simp
  refine k1 _ ?_
  refine AW.seq fun _ k1 => ?_
  by_cases hm : mayE g = 0
  · by_cases hl : P.length = g.owner.length
    · have hl' : (P.length : Int) = g.owner.length := by omega
      refine AW.seq fun _ k2 => AW.regionAt 2 [] Θ_ok fun B hB => ?_
      simp
      refine (graph_May g hf).use (by simp [G.av]) ?_
      refine hB _ ?_
      clear hB B
      simp [hm, hl, hl']
      refine k2 _ ?_
      refine AW.cond false (by simp [Int.natCast_inj, hm, hl]) (fun h => by cases h) (fun _ => ?_)
      refine AW.skip ?_
      simp
      refine k1 _ ?_
      refine AW.seq fun _ k1 => ?_
      refine AW.seq fun _ k2 => AW.region [] Θ_ok ?_
      simp
      refine k2 _ ?_
      refine AW.block ?_
      refine AW.loopI (X := Nat) (fun x => x ≤ P.length ∧ ∀ j (h : j < P.length), j < x → 0 ≤ P[j] ∧ P[j] < 6) (fun x => ⟨31, [(18, .ro false (ints P)), (19, .int .i64 P.length), (20, .int .i64 x)], h⟩) (fun x => P.length - x) 0 ⟨Nat.zero_le _, fun j _ h => by omega⟩ (GStep.eq (by simp) (subH.refl _)) fun x hx => ?_
      obtain ⟨hx, hno⟩ := hx
      refine AW.seq fun _ k2 => AW.region [] Θ_ok ?_
      simp
      refine k2 _ ?_
      by_cases hlt : x < P.length
      · have inc := wrap_succ (show x < 9223372036854775807 by omega)
        refine AW.seq fun _ k2 => AW.cond true (by simp [Int.natCast_inj, hlt]) (fun _ => ?_) (fun h => by cases h)
        refine AW.skip ?_
        simp
        refine k2 _ ?_
        refine AW.seq fun _ k2 => ?_
        refine AW.block ?_
        refine AW.seq fun _ k3 => AW.region [] Θ_ok ?_
        simp [hlt]
        refine k3 _ ?_
        by_cases c1 : P[x] < 0
        · refine AW.seq fun _ k3 => AW.region [] Θ_ok ?_
          simp [c1]
          refine k3 _ ?_
          refine AW.cond true (by simp [Int.natCast_inj, c1]) (fun _ => ?_) (fun h => by cases h)
          refine AW.seq fun _ kr => AW.region [] Θ_ok ?_
          simp
          refine kr _ (AW.ret ?_)
          simp [Try.f63]
          have : mayP g P = false := by
            rw [← Bool.not_eq_true]
            intro q
            simp only [mayP, Bool.and_eq_true, decide_eq_true_eq, List.all_eq_true] at q
            have := q.2 P[x] (List.getElem_mem hlt)
            omega
          exact Fin.refl ⟨by rw [this], rfl⟩
        · by_cases c2 : 6 ≤ P[x]
          · refine AW.seq fun _ k3 => AW.region [] Θ_ok ?_
            simp [c1, c2, Int.not_lt.1 c1]
            refine k3 _ ?_
            refine AW.cond true (by simp [Int.natCast_inj, c1, c2, Int.not_lt.1 c1]) (fun _ => ?_) (fun h => by cases h)
            refine AW.seq fun _ kr => AW.region [] Θ_ok ?_
            simp
            refine kr _ (AW.ret ?_)
            simp [Try.f63]
            have : mayP g P = false := by
              rw [← Bool.not_eq_true]
              intro q
              simp only [mayP, Bool.and_eq_true, decide_eq_true_eq, List.all_eq_true] at q
              have := q.2 P[x] (List.getElem_mem hlt)
              omega
            exact Fin.refl ⟨by rw [this], rfl⟩
          · have c3 : P[x] < 6 := by omega
            refine AW.seq fun _ k3 => AW.region [] Θ_ok ?_
            simp [c1, c2, c3, Int.not_lt.1 c1]
            refine k3 _ ?_
            refine AW.cond false (by simp [Int.natCast_inj, c1, c2, c3, Int.not_lt.1 c1]) (fun h => by cases h) (fun _ => ?_)
            refine AW.skip ?_
            simp
            refine k2 _ ?_
            refine AW.region [] Θ_ok ?_
            simp
            exact ⟨x + 1, ⟨by omega, fun j h hj => by
              by_cases e : j = x
              · subst e; exact ⟨by omega, by omega⟩
              · exact hno j h (by omega)⟩, by omega, GStep.eq (by simp [inc]) (subH.refl _)⟩
      · obtain rfl : x = P.length := by omega
        refine AW.seq fun _ k2 => AW.cond false (by simp [Int.natCast_inj]) (fun h => by cases h) (fun _ => ?_)
        refine AW.exit ?_
        simp
        refine k1 _ ?_
        refine AW.seq fun _ kr => AW.region [] Θ_ok ?_
        simp
        refine kr _ (AW.ret ?_)
        simp [Try.f63]
        have : mayP g P = true := by
          simp only [mayP, Bool.and_eq_true, decide_eq_true_eq, List.all_eq_true]
          refine ⟨⟨hm, hl⟩, fun p hp => ?_⟩
          obtain ⟨j, hj, rfl⟩ := List.getElem_of_mem hp
          exact hno j hj hj
        exact Fin.refl ⟨by rw [this], rfl⟩
    · have hl' : ¬ (P.length : Int) = g.owner.length := by omega
      have : mayP g P = false := by simp [mayP, hl]
      refine AW.seq fun _ k2 => AW.regionAt 2 [] Θ_ok fun B hB => ?_
      simp
      refine (graph_May g hf).use (by simp [G.av]) ?_
      refine hB _ ?_
      clear hB B
      simp [hm, hl, hl']
      refine k2 _ ?_
      refine AW.cond true (by simp [Int.natCast_inj, hm, hl]) (fun _ => ?_) (fun h => by cases h)
      refine AW.seq fun _ kr => AW.region [] Θ_ok ?_
      simp
      refine kr _ (AW.ret ?_)
      simp [Try.f63]
      exact Fin.refl ⟨by rw [this], rfl⟩
  · have : mayP g P = false := by simp [mayP, hm]
    refine AW.seq fun _ k2 => AW.regionAt 2 [] Θ_ok fun B hB => ?_
    simp
    refine (graph_May g hf).use (by simp [G.av]) ?_
    refine hB _ ?_
    clear hB B
    simp [hm]
    refine k2 _ ?_
    refine AW.cond true (by simp [Int.natCast_inj, hm]) (fun _ => ?_) (fun h => by cases h)
    refine AW.seq fun _ kr => AW.region [] Θ_ok ?_
    simp
    refine kr _ (AW.ret ?_)
    simp [Try.f63]
    exact Fin.refl ⟨by rw [this], rfl⟩

theorem ZH.start {h : Heap} {nw nt ns nq : Nat} (g : G) (P Z : List Int) {S0 : Ob} (hnw : h nw = none) (hnt : upd h nw (some (obI Z)) nt = none) (hns : upd (upd h nw (some (obI Z))) nt (some (obI Z)) ns = none)
    (hnq : upd (upd (upd h nw (some (obI Z))) nt (some (obI Z))) ns (some S0) nq = none) :
    ZNok h ⟨ns, nw, nt, nq, false⟩ [] ∧ upd (upd (upd (upd (upd h nw (some (obI Z))) nt (some (obI Z))) ns (some S0)) ns (some (obZ g P ⟨ns, nw, nt, nq, false⟩ 0))) nq (some (obQ [] false)) = ZH h ⟨ns, nw, nt, nq, false⟩ g P Z Z [] := by
  have N1 : HN h (nms [(nw, obI Z)]) := HL.new (l := []) ⟨List.nodup_nil, fun o ho => by cases ho⟩ hnw
  have N2 : HN h (nms [(nt, obI Z), (nw, obI Z)]) := HL.new (l := [(nw, obI Z)]) N1 hnt
  have N3 : HN h (nms [(ns, S0), (nt, obI Z), (nw, obI Z)]) := HL.new (l := [(nt, obI Z), (nw, obI Z)]) N2 hns
  have N4 : HN h (nms [(nq, obQ [] false), (ns, obZ g P ⟨ns, nw, nt, nq, false⟩ 0), (nt, obI Z), (nw, obI Z)]) := HL.new (l := [(ns, S0), (nt, obI Z), (nw, obI Z)]) N3 hnq
  have p : List.Perm [(nq, obQ [] false), (ns, obZ g P ⟨ns, nw, nt, nq, false⟩ 0), (nt, obI Z), (nw, obI Z)] (ZL ⟨ns, nw, nt, nq, false⟩ g P Z Z []) := by
    have := List.reverse_perm (ZL ⟨ns, nw, nt, nq, false⟩ g P Z Z [])
    refine List.Perm.trans ?_ this
    simp only [ZL, List.reverse_cons, List.reverse_nil, List.nil_append, List.cons_append, List.length_nil]
    refine List.Perm.cons _ ?_
    refine (List.Perm.swap _ _ _).trans ?_
    exact List.Perm.cons _ (List.Perm.swap _ _ _)
  have pn := p.map Prod.fst
  refine ⟨⟨pn.nodup_iff.1 N4.nd, fun o ho => N4.free o (pn.mem_iff.2 ho)⟩, ?_⟩
  rw [upd_upd]
  exact HL.perm p N4.nd

noncomputable def solA (g : G) (P : List Int) : AV := if mayP g P then .tup [.ro true (ints (winL g P)), .ro true (ints (toL g P))] else .tup [.nils, .nils]
def negY (n x : Nat) : List Int := tab n fun v => if v < x then -1 else 0
theorem negY_len (n x : Nat) : (negY n x).length = n := length_tab _ _
theorem negY_set (n x : Nat) : (negY n x).set x (-1) = negY n (x + 1) := by
  rw [negY, set_tab]
  refine tab_congr fun v _ => ?_
  by_cases e : v = x
  · subst e; simp
  · by_cases h : v < x
    · simp [e, h, show v < x + 1 by omega]
    · simp [e, h, show ¬ v < x + 1 by omega]
def finY (g : G) (W T : List Int) (x : Nat) : List Int := tab g.owner.length fun v => if v < x ∧ fI W v ≠ ow g v then -1 else fI T v
theorem finY_len (g : G) (W T : List Int) (x : Nat) : (finY g W T x).length = g.owner.length := length_tab _ _
theorem finY_zero {g : G} {W T : List Int} (h : T.length = g.owner.length) : finY g W T 0 = T := by
  refine (tab_ext h fun i hi => ?_).symm
  rw [if_neg fun q => Nat.not_lt_zero _ q.1]; simp [fI, show i < T.length by omega]
theorem finY_put {g : G} {W T : List Int} {x : Nat} (h : fI W x ≠ ow g x) : (finY g W T x).set x (-1) = finY g W T (x + 1) := by
  rw [finY, set_tab]
  refine tab_congr fun v _ => ?_
  by_cases e : v = x
  · subst e; rw [if_pos rfl, if_pos ⟨Nat.lt_succ_self _, h⟩]
  · by_cases h : v < x
    · simp [e, h, show v < x + 1 by omega]
    · simp [e, h, show ¬ v < x + 1 by omega]
theorem finY_not {g : G} {W T : List Int} {x : Nat} (h : fI W x = ow g x) : finY g W T x = finY g W T (x + 1) := by
  refine tab_congr fun v _ => ?_
  by_cases e : v = x
  · subst e; rw [if_neg fun q => q.2 h, if_neg fun q => q.2 h]
  · by_cases h : v < x
    · simp [h, show v < x + 1 by omega]
    · simp [h, show ¬ v < x + 1 by omega]
end Go.Par
