import Derived.Test.YtaipmknajpbpkaaPyB
import Derived.Test.YtaipmknajpbpkaaAgB
set_option linter.unusedSimpArgs false
set_option linter.unusedVariables false
set_option maxRecDepth 8000
set_option maxHeartbeats 1000000
namespace Go.Par
open Go.Proofs

/-- The names of what a solver holds. -/
structure ZN where
  s : Nat
  w : Nat
  t : Nat
  q : Nat
  nn : Bool

def obZ (g : G) (P : List Int) (k : ZN) (n : Nat) : Ob := ⟨[.ro false (ints g.owner), .ro false (rows g.next), .ro false (ints P), .mu k.w g.owner.length, .mu k.t g.owner.length, .mu k.q n], 88, 6, true⟩
@[simp] theorem obZ_cells (g : G) (P : List Int) (k : ZN) (n : Nat) : (obZ g P k n).cells = [.ro false (ints g.owner), .ro false (rows g.next), .ro false (ints P), .mu k.w g.owner.length, .mu k.t g.owner.length, .mu k.q n] := rfl
@[simp] theorem obZ_ty (g : G) (P : List Int) (k : ZN) (n : Nat) : (obZ g P k n).ty = 88 := rfl
@[simp] theorem obZ_sz (g : G) (P : List Int) (k : ZN) (n : Nat) : (obZ g P k n).sz = 6 := rfl
@[simp] theorem obZ_nn (g : G) (P : List Int) (k : ZN) (n : Nat) : (obZ g P k n).nn = true := rfl
def obQ (fs : List Nat) (nn : Bool) : Ob := ⟨fs.reverse.map fun f => .ptr f 0, 103, 1, nn⟩
@[simp] theorem obQ_cells (fs : List Nat) (nn : Bool) : (obQ fs nn).cells = fs.reverse.map fun f => .ptr f 0 := rfl
@[simp] theorem obQ_ty (fs : List Nat) (nn : Bool) : (obQ fs nn).ty = 103 := rfl
@[simp] theorem obQ_sz (fs : List Nat) (nn : Bool) : (obQ fs nn).sz = 1 := rfl
@[simp] theorem obQ_nn (fs : List Nat) (nn : Bool) : (obQ fs nn).nn = nn := rfl
/-- A frame: its part, its step, whose it is; the rest of it is there from step 1 on. -/
def obF (f : Fr) : Ob := ⟨[.ro true (bools f.in_), .int .i64 f.step, .int .i64 f.who, if f.step = 0 then .nils else .ro true (bools f.best), if f.step = 0 then .nils else .ro true (bools f.rest)], 105, 5, true⟩
@[simp] theorem obF_cells (f : Fr) : (obF f).cells = [.ro true (bools f.in_), .int .i64 f.step, .int .i64 f.who, if f.step = 0 then .nils else .ro true (bools f.best), if f.step = 0 then .nils else .ro true (bools f.rest)] := rfl
@[simp] theorem obF_ty (f : Fr) : (obF f).ty = 105 := rfl
@[simp] theorem obF_sz (f : Fr) : (obF f).sz = 5 := rfl
@[simp] theorem obF_nn (f : Fr) : (obF f).nn = true := rfl

def ZL (k : ZN) (g : G) (P W T : List Int) (F : List (Nat × Ob)) : List (Nat × Ob) := (k.s, obZ g P k F.length) :: (k.w, obI W) :: (k.t, obI T) :: (k.q, obQ (nms F) k.nn) :: F
def ZH (h0 : Heap) (k : ZN) (g : G) (P W T : List Int) (F : List (Nat × Ob)) : Heap := HL h0 (ZL k g P W T F)
abbrev ZNok (h0 : Heap) (k : ZN) (F : List (Nat × Ob)) : Prop := HN h0 (k.s :: k.w :: k.t :: k.q :: nms F)

section
variable {h0 : Heap} {k : ZN} {F : List (Nat × Ob)} (N : ZNok h0 k F) (g : G) (P W T : List Int)
include N
theorem ZH.s : ZH h0 k g P W T F k.s = some (obZ g P k F.length) := HL.at (k := 0) N.nd rfl
theorem ZH.w : ZH h0 k g P W T F k.w = some (obI W) := HL.at (k := 1) N.nd rfl
theorem ZH.t : ZH h0 k g P W T F k.t = some (obI T) := HL.at (k := 2) N.nd rfl
theorem ZH.q : ZH h0 k g P W T F k.q = some (obQ (nms F) k.nn) := HL.at (k := 3) N.nd rfl
theorem ZH.putW (W' : List Int) : upd (ZH h0 k g P W T F) k.w (some (obI W')) = ZH h0 k g P W' T F := HL.put (k := 1) N.nd rfl
theorem ZH.putT (T' : List Int) : upd (ZH h0 k g P W T F) k.t (some (obI T')) = ZH h0 k g P W T' F := HL.put (k := 2) N.nd rfl
end
section
variable {h0 : Heap} {k : ZN} {F : List (Nat × Ob)} {f : Nat} {X : Ob} (N : ZNok h0 k ((f, X) :: F)) (g : G) (P W T : List Int)
include N
theorem ZH.fr : ZH h0 k g P W T ((f, X) :: F) f = some X := HL.at (k := 4) N.nd rfl
theorem ZH.putF (X' : Ob) : upd (ZH h0 k g P W T ((f, X) :: F)) f (some X') = ZH h0 k g P W T ((f, X') :: F) := by
  have := HL.put (h0 := h0) (A' := X') (l := ZL k g P W T ((f, X) :: F)) (k := 4) N.nd rfl
  rw [ZH, this]; rfl
theorem ZNok.less : ZNok h0 k F := by
  have := N.del 4
  simpa [List.eraseIdx] using this
theorem ZH.sub : subH (ZH h0 k g P W T F) (upd (upd (ZH h0 k g P W T ((f, X) :: F)) k.s (some (obZ g P k F.length))) k.q (some (obQ (nms F) k.nn))) := by
  have h1 := HL.put (h0 := h0) (A' := obZ g P k F.length) (l := ZL k g P W T ((f, X) :: F)) (k := 0) N.nd rfl
  have N' : HN h0 (nms ((ZL k g P W T ((f, X) :: F)).set 0 (k.s, obZ g P k F.length))) := N
  have h2 := HL.put (h0 := h0) (A' := obQ (nms F) k.nn) (l := (ZL k g P W T ((f, X) :: F)).set 0 (k.s, obZ g P k F.length)) (k := 3) N'.nd rfl
  rw [ZH, ZH, h1, h2]
  have N2 : HN h0 (nms ((((ZL k g P W T ((f, X) :: F)).set 0 (k.s, obZ g P k F.length))).set 3 (k.q, obQ (nms F) k.nn))) := N
  have h3 := HL.del (h0 := h0) (a := f) (A := X) N2 (k := 4) rfl
  have e : ((((ZL k g P W T ((f, X) :: F)).set 0 (k.s, obZ g P k F.length))).set 3 (k.q, obQ (nms F) k.nn)).eraseIdx 4 = ZL k g P W T F := rfl
  rw [e] at h3
  rw [← h3]
  exact upd_none_sub _ _
end

/-- One frame more. -/
theorem ZH.push {h0 : Heap} {k : ZN} {F : List (Nat × Ob)} (N : ZNok h0 k F) (g : G) (P W T : List Int) {f q' : Nat} (X : Ob) (hf : ZH h0 k g P W T F f = none) (hq : upd (ZH h0 k g P W T F) f (some X) q' = none) :
    ZNok h0 ⟨k.s, k.w, k.t, q', true⟩ ((f, X) :: F) ∧
    (upd (upd (upd (ZH h0 k g P W T F) f (some X)) k.q none) q' (some (obQ (f :: nms F) true))) k.s = some (obZ g P k F.length) ∧
    upd (upd (upd (upd (ZH h0 k g P W T F) f (some X)) k.q none) q' (some (obQ (f :: nms F) true))) k.s (some (obZ g P ⟨k.s, k.w, k.t, q', true⟩ (F.length + 1))) = ZH h0 ⟨k.s, k.w, k.t, q', true⟩ g P W T ((f, X) :: F) := by
  have N1 : HN h0 (nms ((f, X) :: ZL k g P W T F)) := HL.new N hf
  obtain ⟨h1, h2⟩ := HL.ren (h0 := h0) (A' := obQ (f :: nms F) true) (a' := q') (l := (f, X) :: ZL k g P W T F) (k := 4) N1 rfl hq
  have e0 : upd (ZH h0 k g P W T F) f (some X) = HL h0 ((f, X) :: ZL k g P W T F) := rfl
  rw [e0, h1]
  have h3 := HL.put (h0 := h0) (A' := obZ g P ⟨k.s, k.w, k.t, q', true⟩ (F.length + 1)) (l := ((f, X) :: ZL k g P W T F).set 4 (q', obQ (f :: nms F) true)) (k := 1) h2.nd rfl
  have h4 := HL.at (h0 := h0) (l := ((f, X) :: ZL k g P W T F).set 4 (q', obQ (f :: nms F) true)) (k := 1) h2.nd rfl
  have N2 : HN h0 (nms ((((f, X) :: ZL k g P W T F).set 4 (q', obQ (f :: nms F) true)).set 1 (k.s, obZ g P ⟨k.s, k.w, k.t, q', true⟩ (F.length + 1)))) := h2
  have perm : (((((f, X) :: ZL k g P W T F).set 4 (q', obQ (f :: nms F) true)).set 1 (k.s, obZ g P ⟨k.s, k.w, k.t, q', true⟩ (F.length + 1)))).Perm (ZL ⟨k.s, k.w, k.t, q', true⟩ g P W T ((f, X) :: F)) := by
    show List.Perm ((f, X) :: (k.s, _) :: (k.w, _) :: (k.t, _) :: (q', _) :: F) ((k.s, _) :: (k.w, _) :: (k.t, _) :: (q', _) :: (f, X) :: F)
    exact List.perm_middle (l₁ := [(k.s, obZ g P ⟨k.s, k.w, k.t, q', true⟩ (F.length + 1)), (k.w, obI W), (k.t, obI T), (q', obQ (f :: nms F) true)]).symm
  refine ⟨⟨(perm.map Prod.fst).nodup_iff.1 N2.nd, fun o ho => N2.free o ((perm.map Prod.fst).mem_iff.2 ho)⟩, h4, ?_⟩
  rw [h3]
  exact HL.perm perm N2.nd

section
variable {h0 : Heap} {k : ZN} {F : List (Nat × Ob)} (N : ZNok h0 k F) (g : G) (hf : g.fits) (P W T : List Int)
include N hf

theorem pz_any (s : List Bool) : AC Try.prog 95 [.ptr k.s 0, .ro false (bools s)] (ZH h0 k g P W T F) fun r h' => r = .bool (anyL g s) ∧ h' = ZH h0 k g P W T F := by
  have hs := ZH.s N g P W T
  have sC := pre_Count g s hf.owner
  generalize ZH h0 k g P W T F = H at *
  refine AC.body Θ_ok Try.func95 rfl rfl (Nat.le_of_ble_eq_true rfl) ?_
  refine AW.seq fun _ k1 => AW.region [] Θ_ok ?_
  simp
  refine k1 _ ?_
  refine AW.seq fun _ k1 => AW.regionAt 6 [] Θ_ok fun B hB => ?_
  simp [hs]
  refine sC.use (by simp [G.av]) ?_
  refine hB _ ?_
  clear hB B
  simp
  refine k1 _ (AW.ret ?_)
  simp [Try.f95]
  refine Fin.refl ⟨by simp [anyL], rfl⟩

theorem pz_less (a b : List Bool) : AC Try.prog 68 [.ptr k.s 0, .ro false (bools a), .ro false (bools b)] (ZH h0 k g P W T F) fun r h' => r = .ro true (bools (lessL g a b)) ∧ h' = ZH h0 k g P W T F := by
  have hs := ZH.s N g P W T
  have sN := pre_Not g b hf.owner
  have sA := pre_And g a (notL g b) hf.owner
  rw [show andL g a (notL g b) = lessL g a b from rfl] at sA
  generalize ZH h0 k g P W T F = H at *
  generalize notL g b = nb at *
  refine AC.body Θ_ok Try.func68 rfl rfl (Nat.le_of_ble_eq_true rfl) ?_
  refine AW.seq fun _ k1 => AW.region [] Θ_ok ?_
  simp
  refine k1 _ ?_
  refine AW.seq fun _ kr => AW.draw [] 13 [] Θ_ok mixed (by kernel_rfl) (by kernel_rfl) ?_
  refine vcDraw_split 11 fun B hB => ?_
  simp [vcPre, vcTail, callA, isAlloc, isLoad, effOp, obl, obA, mkOK, valA, hs]
  refine ⟨_, sN.wk (by simp [G.av]), ?_⟩
  refine hB _ _ _ ?_
  clear hB B
  refine vcPre_split 1 fun B hB => ?_
  simp [vcPre, vcTail, callA, isAlloc, isLoad, effOp, obl, obA, mkOK, valA]
  refine ⟨_, sA.wk (by simp [G.av]), ?_⟩
  refine hB _ _ _ ?_
  clear hB B
  simp [vcPre, vcTail, callA, isAlloc, isLoad, effOp, obl, obA, mkOK, valA]
  refine kr _ (AW.ret ?_)
  simp [Try.f68]
  exact Fin.refl ⟨rfl, rfl⟩
end
end Go.Par
