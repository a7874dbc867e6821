/- Measures as values; parryref9.next, below. -/
import Derived.Test.YtkpdhglbkmbojaaSmP
import Derived.Test.YtkpdhglbkmbojaaRkC
set_option linter.unusedSimpArgs false
set_option linter.unusedVariables false
set_option maxRecDepth 8000
set_option maxHeartbeats 1000000
namespace Go.Par
open Go.Proofs

structure M4 where
  a : Int
  b : Int
  c : Int
  t : Bool
def M4.l (m : M4) : List AV := [.int .i64 m.a, .int .i64 m.b, .int .i64 m.c, .bool m.t]
def msN : Ms → M4
  | none => ⟨0, 0, 0, true⟩
  | some (a, b, c) => ⟨a, b, c, false⟩
def avM (m : Ms) : AV := .agg (msN m).l
def obM (ty : TypeId) (m : M4) : Ob := ⟨m.l, ty, 4, true⟩
@[simp] theorem obM_cells (ty : TypeId) (a b c : Int) (t : Bool) : (obM ty ⟨a, b, c, t⟩).cells = [.int .i64 a, .int .i64 b, .int .i64 c, .bool t] := rfl
@[simp] theorem obM_ty (ty : TypeId) (m : M4) : (obM ty m).ty = ty := rfl
@[simp] theorem obM_sz (ty : TypeId) (m : M4) : (obM ty m).sz = 4 := rfl
@[simp] theorem obM_nn (ty : TypeId) (m : M4) : (obM ty m).nn = true := rfl
theorem obM_mk (ty : TypeId) (a b c : Int) (t : Bool) : (⟨[.int .i64 a, .int .i64 b, .int .i64 c, .bool t], ty, 4, true⟩ : Ob) = obM ty ⟨a, b, c, t⟩ := rfl
@[simp] theorem avM_none : avM none = .agg [.int .i64 0, .int .i64 0, .int .i64 0, .bool true] := rfl
@[simp] theorem avM_some (a b c : Nat) : avM (some (a, b, c)) = .agg [.int .i64 a, .int .i64 b, .int .i64 c, .bool false] := rfl

/-- Two measures that are being made. -/
def NX (ty : TypeId) (o r : Nat) (A B : M4) : List (Nat × Ob) := [(r, obM ty B), (o, obM ty A)]
def NXH (h : Heap) (ty : TypeId) (o r : Nat) (A B : M4) : Heap := HL h (NX ty o r A B)
abbrev NXN (h : Heap) (o r : Nat) : Prop := HN h [r, o]
section
variable {h : Heap} {ty : TypeId} {o r : Nat} (N : NXN h o r) (A B : M4)
include N
theorem NXH.gr : NXH h ty o r A B r = some (obM ty B) := HL.at (k := 0) N.nd rfl
theorem NXH.go : NXH h ty o r A B o = some (obM ty A) := HL.at (k := 1) N.nd rfl
theorem NXH.putR (B' : M4) : upd (NXH h ty o r A B) r (some (obM ty B')) = NXH h ty o r A B' := HL.put (k := 0) N.nd rfl
theorem NXH.putO (A' : M4) : upd (NXH h ty o r A B) o (some (obM ty A')) = NXH h ty o r A' B := HL.put (k := 1) N.nd rfl
end
/-- What is below the priority is forgotten: in some rounds. -/
def zc (p k x : Nat) (a : Int) : Int := if k < x ∧ 2 * k + 1 < p then 0 else a
def zM (p x : Nat) (a b c : Int) : M4 := ⟨zc p 0 x a, zc p 1 x b, zc p 2 x c, false⟩
def M4.at (m : M4) (i : Nat) : Int := if i = 0 then m.a else if i = 1 then m.b else m.c
def M4.put (m : M4) (i : Nat) (v : Int) : M4 := ⟨if i = 0 then v else m.a, if i = 1 then v else m.b, if i = 2 then v else m.c, m.t⟩
theorem three {x : Nat} (h : x < 3) : x = 0 ∨ x = 1 ∨ x = 2 := by omega
theorem M4.len (ty : TypeId) (m : M4) : (obM ty m).cells.length = 4 := rfl
theorem M4.set (ty : TypeId) (m : M4) {x : Nat} (h : x < 3) (v : Int) : (⟨(obM ty m).cells.set x (.int .i64 v), ty, 4, true⟩ : Ob) = obM ty (m.put x v) := by
  rcases three h with rfl | rfl | rfl <;> rfl
theorem M4.drop (ty : TypeId) (m : M4) {x : Nat} (h : x < 3) : (obM ty m).cells.drop x = .int .i64 (m.at x) :: (obM ty m).cells.drop (x + 1) := by
  rcases three h with rfl | rfl | rfl <;> rfl
theorem M4.drop3 (ty : TypeId) (m : M4) : (obM ty m).cells.drop 3 = [.bool m.t] := rfl
theorem M4.take (ty : TypeId) (m : M4) : (obM ty m).cells.take 4 = m.l := rfl
theorem M4.llen (m : M4) : m.l.length = 4 := rfl
theorem M4.one (m : M4) : allOne m.l := by simp [allOne, M4.l, AV.one]
theorem M4.over (ty : TypeId) (m m' : M4) : (⟨setAt (obM ty m).cells 0 m'.l, ty, 4, true⟩ : Ob) = obM ty m' := rfl
theorem M4.over0 (m' : M4) : setAt [.int .i64 0, .int .i64 0, .int .i64 0, .bool false] 0 m'.l = m'.l := rfl
theorem M4.mkL (ty : TypeId) (m : M4) : (⟨m.l, ty, 4, true⟩ : Ob) = obM ty m := rfl
def moA (mo : Mo) (x : Nat) : Int := if x = 0 then (mo.a : Int) else if x = 1 then (mo.b : Int) else (mo.c : Int)
def moC (mo : Mo) : List AV := [.int .i64 mo.a, .int .i64 mo.b, .int .i64 mo.c]
theorem moC_drop (mo : Mo) {x : Nat} (h : x < 3) : (moC mo).drop x = .int .i64 (moA mo x) :: (moC mo).drop (x + 1) := by
  rcases three h with rfl | rfl | rfl <;> rfl
/-- What was full is forgotten, too. -/
def yM (p x : Nat) (a b c : Int) : M4 := ⟨if 0 < x then 0 else a, if 1 < x then 0 else b, if 2 < x then 0 else c, false⟩
theorem zM_put {p x : Nat} {a b c : Int} (hx : x < 3) (h : 2 * x + 1 < p) : (zM p x a b c).put x 0 = zM p (x + 1) a b c := by
  rcases three hx with rfl | rfl | rfl <;> simp [zM, M4.put, zc] <;> omega
theorem zM_not {p x : Nat} {a b c : Int} (hx : x < 3) (h : ¬ 2 * x + 1 < p) : zM p x a b c = zM p (x + 1) a b c := by
  rcases three hx with rfl | rfl | rfl <;> simp [zM, M4.put, zc] <;> omega
theorem yM_put {p x : Nat} {a b c : Int} (hx : x < 3) : (yM p x a b c).put x 0 = yM p (x + 1) a b c := by
  rcases three hx with rfl | rfl | rfl <;> simp [yM, M4.put]
theorem yM_at {p x : Nat} {a b c : Int} (hx : x < 3) : (yM p x a b c).at x = M4.at ⟨a, b, c, false⟩ x := by
  rcases three hx with rfl | rfl | rfl <;> simp [yM, M4.at]
theorem zM_zero {p : Nat} {a b c : Int} : zM p 0 a b c = ⟨a, b, c, false⟩ := by simp [zM, zc]
theorem zM_yM {p : Nat} (hp : p ≤ 5) (ho : p % 2 = 1) {a b c : Int} : zM p 3 a b c = yM p (p / 2) a b c := by
  have : p = 1 ∨ p = 3 ∨ p = 5 := by omega
  rcases this with rfl | rfl | rfl <;> simp [zM, zc, yM]
theorem next_even {mo : Mo} {p : Nat} (hp : p ≤ 5) (he : p % 2 = 0) {a b c : Nat} : AV.agg (zM p 3 a b c).l = avM (nextM mo p (some (a, b, c))) := by
  have : p = 0 ∨ p = 2 ∨ p = 4 := by omega
  rcases this with rfl | rfl | rfl <;> simp [zM, zc, nextM, M4.l]
theorem next_at {mo : Mo} {p x : Nat} (hp : p ≤ 5) (ho : p % 2 = 1) {a b c : Nat} (hx : x < 3) (hpx : p / 2 ≤ x) (hf : ∀ k, p / 2 ≤ k → k < x → ¬ M4.at ⟨a, b, c, false⟩ k < moA mo k) (hlt : M4.at ⟨a, b, c, false⟩ x < moA mo x) :
    AV.agg ((yM p x a b c).put x (M4.at ⟨a, b, c, false⟩ x + 1)).l = avM (nextM mo p (some (a, b, c))) := by
  have : p = 1 ∨ p = 3 ∨ p = 5 := by omega
  have h0 := hf 0
  have h1 := hf 1
  have h2 := hf 2
  simp only [M4.at, moA] at h0 h1 h2 hlt
  rcases this with rfl | rfl | rfl <;> rcases three hx with rfl | rfl | rfl <;> simp at h0 h1 h2 hlt hpx <;> simp only [nextM] <;> (repeat' split) <;> first | (exfalso; omega) | (simp [M4.l, M4.put, M4.at, yM]; done)
theorem next_top {mo : Mo} {p : Nat} (hp : p ≤ 5) (ho : p % 2 = 1) {a b c : Nat} (hf : ∀ k, p / 2 ≤ k → k < 3 → ¬ M4.at ⟨a, b, c, false⟩ k < moA mo k) : avM none = avM (nextM mo p (some (a, b, c))) := by
  have : p = 1 ∨ p = 3 ∨ p = 5 := by omega
  have h0 := hf 0
  have h1 := hf 1
  have h2 := hf 2
  simp only [M4.at, moA] at h0 h1 h2
  rcases this with rfl | rfl | rfl <;> simp at h0 h1 h2 <;> simp [nextM, show ¬ c < mo.c by omega] <;> (try simp [show ¬ b < mo.b by omega]) <;> (try simp [show ¬ a < mo.a by omega])

theorem r9_next (mo : Mo) (ok : mo.ok) (p : Nat) (hp : p ≤ 5) (m : Ms) (hm : msOk mo m) : Pure Try.prog 63 [avM m, .int .i64 p, .agg [.int .i64 mo.a, .int .i64 mo.b, .int .i64 mo.c]] (avM (nextM mo p m)) := by
  have two := ok
  obtain ⟨oa, ob, oc⟩ := ok
  intro h
  refine AC.body Θ_ok Try.func63 rfl rfl (Nat.le_of_ble_eq_true rfl) ?_
  refine AW.seq fun _ k1 => AW.region [3, 6] Θ_ok ?_
  cases m with
  | none =>
    simp [newA]
    refine fun o ho r hr => k1 _ ?_
    rw [obM_mk] at hr
    rw [obM_mk, obM_mk]
    have N1 := HL.new (l := []) ⟨List.nodup_nil, fun o ho => by cases ho⟩ ho (h0 := h)
    have N : NXN h o r := HL.new (l := [(o, obM 69 ⟨0, 0, 0, true⟩)]) N1 hr
    rw [show upd (upd h o (some (obM 69 ⟨0, 0, 0, true⟩))) r (some (obM 69 ⟨0, 0, 0, false⟩)) = NXH h 69 o r ⟨0, 0, 0, true⟩ ⟨0, 0, 0, false⟩ from rfl]
    have go := NXH.go (ty := 69) N ⟨0, 0, 0, true⟩ ⟨0, 0, 0, false⟩
    have gr := NXH.gr (ty := 69) N ⟨0, 0, 0, true⟩ ⟨0, 0, 0, false⟩
    have pr := NXH.putR (ty := 69) N ⟨0, 0, 0, true⟩ ⟨0, 0, 0, false⟩ ⟨0, 0, 0, true⟩
    have gr2 := NXH.gr (ty := 69) N ⟨0, 0, 0, true⟩ ⟨0, 0, 0, true⟩
    refine AW.seq fun _ k1 => ?_
    refine AW.seq fun _ k2 => AW.region [] Θ_ok ?_
    simp [go]
    refine k2 _ ?_
    refine AW.cond true (by simp [Int.natCast_inj, go]) (fun _ => ?_) (fun h => by cases h)
    refine AW.seq fun _ kr => AW.region [] Θ_ok ?_
    simp [go, gr, setAt, obM_mk, pr]
    refine kr _ (AW.ret ?_)
    simp [Try.f63, gr2]
    refine Fin.gv (GV.sub (HL.sub N)) (Fin.refl ⟨rfl, rfl⟩)
  | some t =>
    obtain ⟨a, b, c⟩ := t
    simp [newA]
    refine fun o ho r hr => k1 _ ?_
    rw [obM_mk] at hr
    rw [obM_mk, obM_mk]
    have N1 := HL.new (l := []) ⟨List.nodup_nil, fun o ho => by cases ho⟩ ho (h0 := h)
    have N : NXN h o r := HL.new (l := [(o, obM 69 ⟨a, b, c, false⟩)]) N1 hr
    rw [show upd (upd h o (some (obM 69 ⟨a, b, c, false⟩))) r (some (obM 69 ⟨0, 0, 0, false⟩)) = NXH h 69 o r (zM p 0 a b c) ⟨0, 0, 0, false⟩ by rw [zM_zero]; rfl]
    have hne : o ≠ r := fun e => by
      have := N.nd
      simp [e] at this
    simp only [msOk] at hm
    clear ho hr N1
    have fin : ∀ A : M4, avM (nextM mo p (some (a, b, c))) = .agg A.l → ∀ Q : AV → Heap → Prop, Q (avM (nextM mo p (some (a, b, c)))) h → Fin (.agg A.l) (NXH h 69 o r A A) Q := fun A e Q q => Fin.gv (GV.sub (HL.sub N)) (Fin.refl (by rw [← e]; exact q))
    refine AW.seq fun _ k1 => ?_
    have g0 := NXH.go (ty := 69) N (zM p 0 a b c) ⟨0, 0, 0, false⟩
    rw [zM_zero] at g0
    rw [zM_zero]
    refine AW.seq fun _ k2 => AW.region [] Θ_ok ?_
    simp [g0]
    refine k2 _ ?_
    refine AW.cond false (by simp [Int.natCast_inj]) (fun h => by cases h) (fun _ => ?_)
    refine AW.skip ?_
    simp
    refine k1 _ ?_
    refine AW.seq fun _ k1 => ?_
    refine AW.seq fun _ k2 => AW.region [] Θ_ok ?_
    simp
    refine k2 _ ?_
    refine AW.block ?_
    refine AW.loopI (X := Nat) (fun x => x ≤ 3) (fun x => ⟨54, [(1, .int .i64 p), (3, .ptr o 0), (5, .rop (moC mo)), (6, .ptr r 0), (12, .int .i64 x)], NXH h 69 o r (zM p x a b c) ⟨0, 0, 0, false⟩⟩) (fun x => 3 - x) 0 (Nat.zero_le _) (GStep.eq (by simp [moC]) (subH_of_eq (by simp only [zM_zero]))) fun x hx => ?_
    refine AW.seq fun _ k2 => AW.region [] Θ_ok ?_
    simp
    refine k2 _ ?_
    by_cases hlt : x < 3
    · have inc := wrap_succ (show x < 9223372036854775807 by omega)
      have w1 : IntKind.i64.wrap (2 * (x : Int)) = 2 * (x : Int) := wrap_id (by omega) (by omega)
      have w2 : IntKind.i64.wrap (2 * (x : Int) + 1) = 2 * (x : Int) + 1 := wrap_id (by omega) (by omega)
      have hlt' : (x : Int) < 3 := by omega
      have gx := NXH.go (ty := 69) N (zM p x a b c) ⟨0, 0, 0, false⟩
      have sx := M4.set 69 (zM p x a b c) hlt 0
      have lx := M4.len 69 (zM p x a b c)
      have ox := NXH.putO (ty := 69) N (zM p x a b c) ⟨0, 0, 0, false⟩ ((zM p x a b c).put x 0)
      refine AW.seq fun _ k2 => AW.cond true (by simp [Int.natCast_inj, hlt, hlt']) (fun _ => ?_) (fun h => by cases h)
      refine AW.skip ?_
      simp
      refine k2 _ ?_
      refine AW.seq fun _ k2 => ?_
      refine AW.block ?_
      refine AW.seq fun _ k3 => AW.region [] Θ_ok ?_
      simp
      refine k3 _ ?_
      refine AW.seq fun _ k3 => AW.region [] Θ_ok ?_
      simp [w1, w2]
      refine k3 _ ?_
      by_cases c1 : 2 * x + 1 < p
      · have c2 : 2 * (x : Int) + 1 < (p : Int) := by omega
        refine AW.cond true (by simp [Int.natCast_inj, c1, c2]) (fun _ => ?_) (fun h => by cases h)
        refine AW.region [] Θ_ok ?_
        simp [hlt, hlt', gx, sx, lx, ox]
        refine ⟨by omega, k2 _ ?_⟩
        refine AW.region [] Θ_ok ?_
        simp
        exact ⟨x + 1, by omega, by omega, GStep.eq (by simp [inc]) (subH_of_eq (by simp only [zM_put hlt c1]))⟩
      · have c2 : ¬ 2 * (x : Int) + 1 < (p : Int) := by omega
        have c3 : (p : Int) ≤ 2 * (x : Int) + 1 := by omega
        refine AW.cond false (by simp [Int.natCast_inj, c1, c2, c3]) (fun h => by cases h) (fun _ => ?_)
        refine AW.skip ?_
        simp
        refine k2 _ ?_
        refine AW.region [] Θ_ok ?_
        simp
        exact ⟨x + 1, by omega, by omega, GStep.eq (by simp [inc]) (subH_of_eq (by simp only [zM_not hlt c1]))⟩
    obtain rfl : x = 3 := by omega
    refine AW.seq fun _ k2 => AW.cond false (by simp [Int.natCast_inj]) (fun h => by cases h) (fun _ => ?_)
    refine AW.exit ?_
    simp
    refine k1 _ ?_
    refine AW.seq fun _ k1 => ?_
    have tm : (p : Int).tmod 2 = ((p % 2 : Nat) : Int) := by rw [Int.tmod_eq_emod_of_nonneg (by omega)]; omega
    have hre : ∀ A B : M4, upd (NXH h 69 o r A B) r (some (obM 69 A)) = NXH h 69 o r A A := fun A B => NXH.putR N A B A
    have hgo : ∀ A B : M4, NXH h 69 o r A B o = some (obM 69 A) := fun A B => NXH.go N A B
    have hgr : ∀ A B : M4, NXH h 69 o r A B r = some (obM 69 B) := fun A B => NXH.gr N A B
    by_cases he : p % 2 = 0
    · rw [he] at tm
      have e := next_even (mo := mo) (a := a) (b := b) (c := c) hp he
      generalize zM p 3 a b c = A at *
      refine AW.seq fun _ k2 => AW.region [] Θ_ok ?_
      simp [tm]
      refine k2 _ ?_
      refine AW.cond true (by simp [Int.natCast_inj]) (fun _ => ?_) (fun h => by cases h)
      refine AW.seq fun _ kr => AW.region [] Θ_ok ?_
      simp [hgo, hgr, M4.len, M4.take, M4.llen, M4.one, M4.over0, M4.mkL, hre]
      refine kr _ (AW.ret ?_)
      simp [Try.f63, hgr, M4.take, M4.llen, M4.mkL, hre, List.take_of_length_le]
      refine ⟨Nat.le_of_eq rfl, fin A e.symm _ ?_⟩
      exact ⟨rfl, rfl⟩
    have ho1 : p % 2 = 1 := by omega
    rw [ho1] at tm
    refine AW.seq fun _ k2 => AW.region [] Θ_ok ?_
    simp [tm]
    refine k2 _ ?_
    refine AW.cond false (by simp [Int.natCast_inj]) (fun h => by cases h) (fun _ => ?_)
    refine AW.skip ?_
    simp
    refine k1 _ ?_
    refine AW.seq fun _ k1 => ?_
    have td : (p : Int).tdiv 2 = ((p / 2 : Nat) : Int) := by rw [Int.tdiv_eq_ediv_of_nonneg (by omega)]; omega
    have wd : IntKind.i64.wrap ((p : Int) / 2) = (p : Int) / 2 := wrap_id (by omega) (by omega)
    refine AW.seq fun _ k2 => AW.region [] Θ_ok ?_
    simp [td, wd]
    refine k2 _ ?_
    rw [zM_yM hp ho1]
    refine AW.block ?_
    refine AW.loopI (X := Nat) (fun x => p / 2 ≤ x ∧ x ≤ 3 ∧ ∀ k, p / 2 ≤ k → k < x → ¬ M4.at ⟨a, b, c, false⟩ k < moA mo k) (fun x => ⟨54, [(3, .ptr o 0), (5, .rop (moC mo)), (6, .ptr r 0), (8, .int .i64 x)], NXH h 69 o r (yM p x a b c) ⟨0, 0, 0, false⟩⟩) (fun x => 3 - x) (p / 2) ⟨Nat.le_refl _, by omega, fun k h1 h2 => by omega⟩ (GStep.eq (by simp) (subH.refl _)) fun x hx => ?_
    obtain ⟨hpx, hx, hfull⟩ := hx
    refine AW.seq fun _ k2 => ?_
    refine AW.seq fun _ k3 => AW.region [] Θ_ok ?_
    simp
    refine k3 _ ?_
    by_cases hlt : x < 3
    · have inc := wrap_succ (show x < 9223372036854775807 by omega)
      have hlt' : (x : Int) < 3 := by omega
      have dx := M4.drop 69 (yM p x a b c) hlt
      have dm := moC_drop mo hlt
      have ex := yM_at (p := p) (a := a) (b := b) (c := c) hlt
      have sx := M4.set 69 (yM p x a b c) hlt 0
      have sx2 := M4.set 69 (yM p x a b c) hlt (M4.at ⟨a, b, c, false⟩ x + 1)
      have px := NXH.putO (ty := 69) N (yM p x a b c) ⟨0, 0, 0, false⟩ ((yM p x a b c).put x 0)
      have px2 := NXH.putO (ty := 69) N (yM p x a b c) ⟨0, 0, 0, false⟩ ((yM p x a b c).put x (M4.at ⟨a, b, c, false⟩ x + 1))
      have yx := yM_put (p := p) (a := a) (b := b) (c := c) hlt
      have nx' := next_at (mo := mo) (a := a) (b := b) (c := c) hp ho1 hlt hpx hfull
      have hw : IntKind.i64.wrap (M4.at ⟨a, b, c, false⟩ x + 1) = M4.at ⟨a, b, c, false⟩ x + 1 := by
        refine wrap_id ?_ ?_ <;> unfold M4.at <;> (repeat' split) <;> simp only <;> omega
      obtain ⟨q, hq⟩ : ∃ q, q = M4.at ⟨a, b, c, false⟩ x := ⟨_, rfl⟩
      obtain ⟨Y, hY⟩ : ∃ Y, Y = yM p x a b c := ⟨_, rfl⟩
      rw [← hq] at ex sx2 px2 nx' hw
      rw [← hY] at dx ex sx sx2 px px2 yx nx' ⊢
      refine AW.cond true (by simp [Int.natCast_inj, hlt, hlt']) (fun _ => ?_) (fun h => by cases h)
      refine AW.skip ?_
      simp
      refine k2 _ ?_
      refine AW.seq fun _ k3 => ?_
      refine AW.block ?_
      refine AW.seq fun _ k4 => ?_
      refine AW.seq fun _ k5 => AW.draw [] 8 [] Θ_ok mixed (by kernel_rfl) (by kernel_rfl) ?_
      simp [vcDraw, vcPre, vcTail, callA, isAlloc, isLoad, effOp, obl, obA, mkOK, valA, hgo, dx, dm, ex, hlt, hlt']
      refine k5 _ ?_
      by_cases c1 : q < moA mo x
      · refine AW.cond true (by simp [Int.natCast_inj, c1]) (fun _ => ?_) (fun h => by cases h)
        refine AW.seq fun _ kr => AW.region [] Θ_ok ?_
        simp [hgo, dx, ex, hw, hlt, hlt', M4.len, sx2, px2]
        refine ⟨by omega, kr _ ?_⟩
        generalize Y.put x (q + 1) = A at *
        refine AW.seq fun _ kr => AW.region [] Θ_ok ?_
        simp [hgo, hgr, M4.len, M4.take, M4.llen, M4.one, M4.over0, M4.mkL, hre]
        refine kr _ (AW.ret ?_)
        simp [Try.f63, hgr, M4.take, M4.llen, M4.mkL, hre, List.take_of_length_le]
        refine ⟨Nat.le_of_eq rfl, fin A (nx' c1).symm _ ?_⟩
        exact ⟨rfl, rfl⟩
      · have c2 := Int.not_lt.1 c1
        refine AW.cond false (by simp [Int.natCast_inj, c1, c2]) (fun h => by cases h) (fun _ => ?_)
        refine AW.skip ?_
        simp
        refine k4 _ ?_
        refine AW.region [] Θ_ok ?_
        simp [hgo, M4.len, sx, px, hlt, hlt']
        refine ⟨by omega, k3 _ ?_⟩
        refine AW.region [] Θ_ok ?_
        simp
        exact ⟨x + 1, ⟨by omega, by omega, fun k h1 h2 => by
          by_cases e : k = x
          · subst e; rw [← hq]; exact Int.not_lt.1 c1
          · exact Int.not_lt.1 (hfull k h1 (by omega))⟩, by omega, GStep.eq (by simp [inc]) (subH_of_eq (by simp only [yx]))⟩
    obtain rfl : x = 3 := by omega
    refine AW.cond false (by simp [Int.natCast_inj]) (fun h => by cases h) (fun _ => ?_)
    refine AW.exit ?_
    simp
    refine k1 _ ?_
    have e := next_top (mo := mo) (a := a) (b := b) (c := c) hp ho1 hfull
    generalize yM p 3 a b c = Y at *
    have ht : ∀ A B : M4, upd (NXH h 69 o r A B) r (some (obM 69 ⟨0, 0, 0, true⟩)) = NXH h 69 o r A ⟨0, 0, 0, true⟩ := fun A B => NXH.putR N A B _
    refine AW.seq fun _ kr => AW.region [] Θ_ok ?_
    simp [hgo, hgr, setAt, fillA, obM_mk, ht]
    refine kr _ (AW.ret ?_)
    simp [Try.f63, hgr]
    exact Fin.gv (GV.sub (HL.sub N)) (Fin.refl ⟨by rw [← e]; rfl, rfl⟩)
end Go.Par
