/- Texts WpC WpE WpF WpG, one behind another. -/
import Derived.Test.YtigipgahgkngcaaFgB
import Derived.Test.YtigipgahgkngcaaRgA
import Derived.Test.YtigipgahgkngcaaRkA
import Derived.Test.YtigipgahgkngcaaMgC
import Derived.Test.YtigipgahgkngcaaWpB
import Derived.Test.YtigipgahgkngcaaWgA
import Derived.Test.YtigipgahgkngcaaPhA
set_option linter.unusedSimpArgs false
set_option linter.unusedVariables false
namespace Go.Par

structure RtI (g : G) (from_ : List Bool) (out : List Bool) : Prop where
  len : out.length = g.owner.length
  sound : ∀ v, hasN out v = true → Reaches g from_ v
  has : ∀ v, v < g.owner.length → hasN from_ v = true → hasN out v = true
structure RtR (g : G) (from_ : List Bool) (k x y : Nat) (out : List Bool) (more : Bool) : Prop where
  i : RtI g from_ out
  cnt : out.count false + k ≤ g.owner.length
  yes : more = true → out.count false + (k + 1) ≤ g.owner.length
  no : more = false → (∀ v, v < x → hasN out v = true → ∀ w : Nat, (w : Int) ∈ g.next.getD v [] → hasN out w = true) ∧ ∀ w : Nat, (w : Int) ∈ (g.next.getD x []).take y → hasN out w = true
section
variable {g : G} {from_ out : List Bool} {k x y : Nat} {more : Bool}
theorem RtI.done (I : RtI g from_ out) (h : ∀ v, v < g.owner.length → hasN out v = true → ∀ w : Nat, (w : Int) ∈ g.next.getD v [] → hasN out w = true) : out = reachL g from_ := by
  have full : ∀ v, Reaches g from_ v → hasN out v = true := by
    intro v r
    induction r with
    | start v hv hf => exact I.has v hv hf
    | step v w hr hw ih =>
      refine h v ?_ ih w hw
      have := hasN_lt ih
      rw [I.len] at this; exact this
  refine tab_ext I.len fun i hi => ?_
  have hi' : i < out.length := by rw [I.len]; exact hi
  have e : hasN out i = out[i] := by simp [hasN, hi']
  rw [List.getElem?_eq_getElem hi']
  congr 1
  cases hb : out[i]
  · have : ¬ Reaches g from_ i := fun h => by
      have := full i h
      rw [e, hb] at this; cases this
    simp [this]
  · have : Reaches g from_ i := I.sound i (by rw [e, hb])
    simp [this]
theorem RtR.init (I : RtI g from_ out) (h : out.count false + k ≤ g.owner.length) : RtR g from_ k 0 0 out false :=
  ⟨I, h, fun q => (by cases q), fun _ => ⟨fun v hv => by omega, fun w hw => by simp at hw⟩⟩
theorem RtR.skip (I : RtR g from_ k x 0 out more) (h : hasN out x = false) : RtR g from_ k (x + 1) 0 out more := by
  refine ⟨I.i, I.cnt, I.yes, fun q => ⟨fun v hv hb => ?_, fun w hw => by simp at hw⟩⟩
  by_cases e : v = x
  · subst e; rw [h] at hb; cases hb
  · exact (I.no q).1 v (by omega) hb
theorem RtR.next (I : RtR g from_ k x y out more) (hy : y = (g.next.getD x []).length) : RtR g from_ k (x + 1) 0 out more := by
  refine ⟨I.i, I.cnt, I.yes, fun q => ⟨fun v hv hb w hw => ?_, fun w hw => by simp at hw⟩⟩
  by_cases e : v = x
  · subst e
    refine (I.no q).2 w ?_
    rw [hy, List.take_length]; exact hw
  · exact (I.no q).1 v (by omega) hb w hw
theorem RtR.old (I : RtR g from_ k x y out more) {w : Nat} (hw : (g.next.getD x [])[y]? = some (w : Int)) (h : hasN out w = true) : RtR g from_ k x (y + 1) out more := by
  refine ⟨I.i, I.cnt, I.yes, fun q => ⟨(I.no q).1, fun u hu => ?_⟩⟩
  rw [List.take_add_one, hw] at hu
  simp only [Option.toList_some, List.mem_append, List.mem_singleton] at hu
  rcases hu with hu | hu
  · exact (I.no q).2 u hu
  · have : u = w := by omega
    subst this; exact h
theorem RtR.new (I : RtR g from_ k x y out more) {w : Nat} (hw : (g.next.getD x [])[y]? = some (w : Int)) (hx : hasN out x = true) (hl : w < g.owner.length) (h : hasN out w = false) : RtR g from_ k x (y + 1) (out.set w true) true ∧ hasN (out.set w true) x = true := by
  have hwl : w < out.length := by rw [I.i.len]; exact hl
  have hb : out[w] = false := by rw [← h]; simp [hasN, hwl]
  have hc := count_set out w hwl hb
  have hm := List.mem_of_getElem? hw
  have hs : ∀ v, hasN out v = true → hasN (out.set w true) v = true := fun v hv => by
    rw [hasN_set out w v hwl]; split <;> simp [hv]
  have := I.cnt
  refine ⟨⟨⟨by rw [List.length_set]; exact I.i.len, fun v hv => ?_, fun v h1 h2 => hs v (I.i.has v h1 h2)⟩, by omega, fun _ => by omega, fun q => (by cases q)⟩, hs x hx⟩
  rw [hasN_set out w v hwl] at hv
  by_cases e : v = w
  · subst e; exact .step x v (I.i.sound x hx) hm
  · rw [if_neg e] at hv; exact I.i.sound v hv
theorem RtR.stop (I : RtR g from_ k g.owner.length 0 out false) : out = reachL g from_ := I.i.done (I.no rfl).1
theorem RtI.full (I : RtI g from_ out) (h : out.count false + g.owner.length ≤ g.owner.length) : out = reachL g from_ := by
  have h0 : out.count false = 0 := by omega
  have all : ∀ v, v < g.owner.length → hasN out v = true := fun v hv => by
    have hv' : v < out.length := by rw [I.len]; exact hv
    have e : hasN out v = out[v] := by simp [hasN, hv']
    rw [e]
    cases hb : out[v] with
    | true => rfl
    | false =>
      have : false ∈ out := by rw [← hb]; exact List.getElem_mem hv'
      exact absurd (List.count_pos_iff.2 this) (by omega)
  refine tab_ext I.len fun i hi => ?_
  have hi' : i < out.length := by rw [I.len]; exact hi
  have e : hasN out i = out[i] := by simp [hasN, hi']
  rw [List.getElem?_eq_getElem hi']
  have h1 := all i hi
  have h2 := I.sound i h1
  rw [e] at h1
  simp [h1, h2]
theorem RtI.row (hf : (rowL g from_).length = g.owner.length) (h : ∀ v, v < g.owner.length → hasN (rowL g from_) v = hasN from_ v) : RtI g from_ (rowL g from_) := by
  refine ⟨hf, fun v hv => ?_, fun v h1 h2 => by rw [h v h1]; exact h2⟩
  have hl := hasN_lt hv
  rw [hf] at hl
  rw [h v hl] at hv
  exact .start v hl hv
end
end Go.Par

set_option linter.unusedSimpArgs false
set_option linter.unusedVariables false
set_option maxRecDepth 8000
set_option maxHeartbeats 4000000
namespace Go.Par
open Go.Proofs

structure ReX where
  out : List Bool
  more : Bool
  x : Nat
theorem get_hasN {L : List Bool} {v : Nat} (h : v < L.length) : L[v] = hasN L v := by simp [hasN, h]

theorem r9_Reach (g : G) (hf : g.fits) (from_ : List Bool) : Pure Try.prog 42 [g.av, .ro false (bools from_)] (reachA g from_) := by
  intro h
  refine AC.body Θ_ok Try.func42 rfl rfl (Nat.le_of_ble_eq_true rfl) ?_
  refine AW.seq fun _ k1 => AW.region [] Θ_ok ?_
  simp
  refine k1 _ ?_
  refine AW.seq fun _ k1 => ?_
  by_cases hm : mayE g = 0
  · have hn := (may_ok hm).2.1
    have h3 := (may_ok hm).1
    refine AW.seq fun _ k2 => AW.region [] Θ_ok ?_
    simp
    refine (r9_May g hf).use (by simp [G.av]) ?_
    try simp [hm]
    refine k2 _ ?_
    refine AW.cond false (by simp [Int.natCast_inj]) (fun h => by cases h) (fun _ => ?_)
    refine AW.skip ?_
    simp
    refine k1 _ ?_
    refine AW.seq fun _ k4 => AW.regionAt 3 [] Θ_ok fun B hB => ?_
    simp
    refine ((r9_RowM g hf.owner from_ h).wk (by simp [G.av])).mono fun r h' hq => ?_
    obtain ⟨o, ho, rfl, rfl⟩ := hq
    refine hB _ ?_
    clear hB B
    simp
    refine k4 _ ?_
    have lR : (rowL g from_).length = g.owner.length := length_tab _ _
    have I0 : RtI g from_ (rowL g from_) := RtI.row lR fun v hv => by rw [hasN, rowL, getD_tab, if_pos hv]
    have fin : ∀ (tm : Tm), get tm 5 = .mu o g.owner.length → ∀ (out : List Bool) (K : St → Prop), out.length = g.owner.length → K ⟨57, (5, .ro true (bools out)) :: tm, h⟩ → True := fun _ _ _ _ _ _ => trivial
    clear fin
    generalize rowL g from_ = out0 at *
    refine AW.seqTo ⟨57, [(5, .ro true (bools (reachL g from_)))], h⟩ (fun _ k5 => ?_) ?_
    · refine AW.seq fun _ k6 => AW.region [] Θ_ok ?_
      simp
      refine k6 _ ?_
      refine AW.block ?_
      refine AW.loopI (X := ReX) (fun t => t.x ≤ g.owner.length ∧ RtI g from_ t.out ∧ t.out.count false + t.x ≤ g.owner.length) (fun t => ⟨57, [(2, .rop [.ro false (ints g.owner), .ro false (rows g.next)]), (5, .mu o g.owner.length), (17, .int .i64 g.owner.length), (18, .int .i64 t.x)], upd h o (some (obB t.out))⟩) (fun t => g.owner.length - t.x) ⟨out0, false, 0⟩ ⟨Nat.zero_le _, I0, by have := List.count_le_length (a := false) (l := out0); simp only; omega⟩ (GStep.eq (by simp) (subH.refl _)) ?_
      clear lR I0 out0
      rintro ⟨out, more, k⟩ ⟨hk, I, hc⟩
      simp only at hk I hc ⊢
      have hend : ∀ (tm : Tm) (out : List Bool), out.length = g.owner.length → get tm 5 = .mu o g.owner.length → out = reachL g from_ → GStep ⟨57, tm, upd h o (some (obB out))⟩ ⟨57, [(5, .ro true (bools (reachL g from_)))], h⟩ := fun tm out hl hg he => by
        refine GStep.trans (GStep.freeze (t := 5) (n := g.owner.length) (k := true) (by simpa using hg) (upd_same _ _ _) (fun _ => rfl) rfl (by simp [hl]) (fun u hu => by obtain ⟨z, _, rfl⟩ := List.mem_map.1 hu; rfl)) (GStep.eq (by simp [he, bools]) ?_)
        simp only
        rw [upd_upd, upd_none_id ho]; exact subH.refl _
      refine AW.seq fun _ k7 => AW.region [] Θ_ok ?_
      simp
      refine k7 _ ?_
      by_cases hlt : k < g.owner.length
      · have inc := wrap_succ (show k < 9223372036854775807 by omega)
        refine AW.seq fun _ k8 => AW.cond true (by simp [Int.natCast_inj, hlt]) (fun _ => ?_) (fun h => by cases h)
        refine AW.skip ?_
        simp
        refine k8 _ ?_
        refine AW.seq fun _ k9 => ?_
        refine AW.block ?_
        refine AW.seq fun _ k10 => AW.region [] Θ_ok ?_
        simp
        refine k10 _ ?_
        refine AW.seqEx (X := ReX) (fun t => RtR g from_ k g.owner.length 0 t.out t.more) (fun t => ⟨57, [(2, .rop [.ro false (ints g.owner), .ro false (rows g.next)]), (5, .mu o g.owner.length), (6, .bool t.more), (17, .int .i64 g.owner.length), (18, .int .i64 k)], upd h o (some (obB t.out))⟩) (fun _ k11 => ?_) ?_
        · refine AW.seq fun _ k12 => AW.region [] Θ_ok ?_
          simp
          refine k12 _ ?_
          refine AW.block ?_
          refine AW.loopI (X := ReX) (fun t => t.x ≤ g.owner.length ∧ RtR g from_ k t.x 0 t.out t.more) (fun t => ⟨57, [(2, .rop [.ro false (ints g.owner), .ro false (rows g.next)]), (5, .mu o g.owner.length), (6, .bool t.more), (17, .int .i64 g.owner.length), (18, .int .i64 k), (21, .int .i64 g.owner.length), (22, .int .i64 t.x)], upd h o (some (obB t.out))⟩) (fun t => g.owner.length - t.x) ⟨out, false, 0⟩ ⟨Nat.zero_le _, RtR.init I hc⟩ (GStep.eq (by simp) (subH.refl _)) ?_
          clear I hc out more
          rintro ⟨out, more, x⟩ ⟨hx, I⟩
          simp only at hx I ⊢
          have hoo : upd h o (some (obB out)) o = some (obB out) := upd_same _ _ _
          have lO := I.i.len
          refine AW.seq fun _ k13 => AW.region [] Θ_ok ?_
          simp
          refine k13 _ ?_
          by_cases hlx : x < g.owner.length
          · have incx := wrap_succ (show x < 9223372036854775807 by omega)
            have hxo : x < out.length := by omega
            have hxn : x < g.next.length := by omega
            have hrx := hf.row _ (List.getElem_mem hxn)
            have hgd : g.next.getD x [] = g.next[x] := by simp [hxn]
            have hox := get_hasN hxo
            have hdr := map_drop_bool out hxo
            rw [hox] at hdr
            refine AW.seq fun _ k14 => AW.cond true (by simp [Int.natCast_inj, hlx]) (fun _ => ?_) (fun h => by cases h)
            refine AW.skip ?_
            simp
            refine k14 _ ?_
            refine AW.seq fun _ k15 => ?_
            refine AW.block ?_
            refine AW.seq fun _ k16 => AW.region [] Θ_ok ?_
            simp
            refine k16 _ ?_
            refine AW.seq fun _ k17 => ?_
            cases hb : hasN out x with
            | false =>
              rw [hb] at hdr
              refine AW.seq fun _ k18 => AW.region [] Θ_ok ?_
              simp [hoo, lO, hlx, hdr]
              refine k18 _ ?_
              refine AW.cond true (by simp [Int.natCast_inj]) (fun _ => ?_) (fun h => by cases h)
              refine AW.exit ?_
              simp
              refine k15 _ ?_
              refine AW.region [] Θ_ok ?_
              simp
              exact ⟨⟨out, more, x + 1⟩, ⟨hlx, I.skip hb⟩, by simp only; omega, GStep.eq (by simp [incx]) (subH.refl _)⟩
            | true =>
              rw [hb] at hdr
              refine AW.seq fun _ k18 => AW.region [] Θ_ok ?_
              simp [hoo, lO, hlx, hdr]
              refine k18 _ ?_
              refine AW.cond false (by simp [Int.natCast_inj]) (fun h => by cases h) (fun _ => ?_)
              refine AW.skip ?_
              simp
              refine k17 _ ?_
              refine AW.seq fun _ k19 => AW.region [] Θ_ok ?_
              simp [hxn]
              refine k19 _ ?_
              refine AW.block ?_
              refine AW.loopI (X := ReX) (fun t => t.x ≤ g.next[x].length ∧ RtR g from_ k x t.x t.out t.more ∧ hasN t.out x = true) (fun t => ⟨57, [(2, .rop [.ro false (ints g.owner), .ro false (rows g.next)]), (5, .mu o g.owner.length), (6, .bool t.more), (17, .int .i64 g.owner.length), (18, .int .i64 k), (21, .int .i64 g.owner.length), (22, .int .i64 x), (34, .ro false (ints g.next[x])), (35, .int .i64 g.next[x].length), (36, .int .i64 t.x)], upd h o (some (obB t.out))⟩) (fun t => g.next[x].length - t.x) ⟨out, more, 0⟩ ⟨Nat.zero_le _, I, hb⟩ (GStep.eq (by simp) (subH.refl _)) ?_
              clear I hb hoo lO hxo hox hdr out more
              rintro ⟨out, more, y⟩ ⟨hy, I, hb⟩
              simp only at hy I hb ⊢
              have hoo : upd h o (some (obB out)) o = some (obB out) := upd_same _ _ _
              have lO := I.i.len
              refine AW.seq fun _ k20 => AW.region [] Θ_ok ?_
              simp
              refine k20 _ ?_
              by_cases hly : y < g.next[x].length
              · have incy := wrap_succ (show y < 9223372036854775807 by omega)
                obtain ⟨w, hw⟩ : ∃ w : Nat, g.next[x][y] = (w : Int) := ⟨g.next[x][y].toNat, by have := ((may_row hm hlx hxn).2 _ (List.getElem_mem hly)).1; omega⟩
                have hwn : w < g.owner.length := by have := ((may_row hm hlx hxn).2 _ (List.getElem_mem hly)).2; omega
                have hwg : (g.next.getD x [])[y]? = some (w : Int) := by rw [hgd, List.getElem?_eq_getElem hly, hw]
                have hwo : w < out.length := by omega
                have how := get_hasN hwo
                have hdr := map_drop_bool out hwo
                rw [how] at hdr
                have hset := map_set_bool out w true
                refine AW.seq fun _ k21 => AW.cond true (by simp [Int.natCast_inj, hly]) (fun _ => ?_) (fun h => by cases h)
                refine AW.skip ?_
                simp
                refine k21 _ ?_
                refine AW.seq fun _ k22 => ?_
                refine AW.block ?_
                refine AW.seq fun _ k23 => AW.region [] Θ_ok ?_
                simp [hly, hw]
                refine k23 _ ?_
                cases hc : hasN out w with
                | false =>
                  rw [hc] at hdr
                  obtain ⟨I2, hb2⟩ := I.new hwg hb hwn hc
                  obtain ⟨out2, ho2⟩ : ∃ out2, out2 = out.set w true := ⟨_, rfl⟩
                  rw [← ho2] at I2 hb2 hset
                  cases hmo : more
                  · refine AW.seq fun _ k24 => AW.region [] Θ_ok ?_
                    simp [hoo, lO, hwn, hdr]
                    refine k24 _ ?_
                    refine AW.region [] Θ_ok ?_
                    simp [hoo, lO, hwn, hset, obB_mk]
                    refine ⟨by omega, k22 _ ?_⟩
                    refine AW.region [] Θ_ok ?_
                    simp
                    exact ⟨⟨out2, true, y + 1⟩, ⟨hly, I2, hb2⟩, by simp only; omega, GStep.eq (by simp [incy]) (subH.refl _)⟩
                  · refine AW.seq fun _ k24 => AW.region [] Θ_ok ?_
                    simp [hoo, lO, hwn, hdr]
                    refine k24 _ ?_
                    refine AW.region [] Θ_ok ?_
                    simp [hoo, lO, hwn, hset, obB_mk]
                    refine ⟨by omega, k22 _ ?_⟩
                    refine AW.region [] Θ_ok ?_
                    simp
                    exact ⟨⟨out2, true, y + 1⟩, ⟨hly, I2, hb2⟩, by simp only; omega, GStep.eq (by simp [incy]) (subH.refl _)⟩
                | true =>
                  rw [hc] at hdr
                  have hsame : out.set w true = out := by
                    have e : out[w] = true := by rw [how]; exact hc
                    exact List.ext_getElem (by simp) fun i h1 h2 => by
                      rw [List.getElem_set]; split
                      · rename_i q; subst q; exact e.symm
                      · rfl
                  rw [hsame] at hset
                  have I2 := I.old hwg hc
                  cases hmo : more
                  · rw [hmo] at I2
                    refine AW.seq fun _ k24 => AW.region [] Θ_ok ?_
                    simp [hoo, lO, hwn, hdr]
                    refine k24 _ ?_
                    refine AW.region [] Θ_ok ?_
                    simp [hoo, lO, hwn, hset, obB_mk]
                    refine ⟨by omega, k22 _ ?_⟩
                    refine AW.region [] Θ_ok ?_
                    simp
                    exact ⟨⟨out, false, y + 1⟩, ⟨hly, I2, hb⟩, by simp only; omega, GStep.eq (by simp [incy]) (subH.refl _)⟩
                  · rw [hmo] at I2
                    refine AW.seq fun _ k24 => AW.region [] Θ_ok ?_
                    simp [hoo, lO, hwn, hdr]
                    refine k24 _ ?_
                    refine AW.region [] Θ_ok ?_
                    simp [hoo, lO, hwn, hset, obB_mk]
                    refine ⟨by omega, k22 _ ?_⟩
                    refine AW.region [] Θ_ok ?_
                    simp
                    exact ⟨⟨out, true, y + 1⟩, ⟨hly, I2, hb⟩, by simp only; omega, GStep.eq (by simp [incy]) (subH.refl _)⟩
              · obtain rfl : y = g.next[x].length := by omega
                refine AW.seq fun _ k21 => AW.cond false (by simp [Int.natCast_inj]) (fun h => by cases h) (fun _ => ?_)
                refine AW.exit ?_
                simp
                refine k15 _ ?_
                refine AW.region [] Θ_ok ?_
                simp
                exact ⟨⟨out, more, x + 1⟩, ⟨hlx, I.next (by rw [hgd])⟩, by simp only; omega, GStep.eq (by simp [incx]) (subH.refl _)⟩
          · obtain rfl : x = g.owner.length := by omega
            refine AW.seq fun _ k14 => AW.cond false (by simp [Int.natCast_inj]) (fun h => by cases h) (fun _ => ?_)
            refine AW.exit ?_
            simp
            exact k11 _ ⟨out, more, 0⟩ I (GStep.eq (by simp) (subH.refl _))
        · clear I hc out more
          rintro ⟨out, more, _⟩ I
          simp only at I ⊢
          cases hmo : more with
          | false =>
            rw [hmo] at I
            refine AW.seq fun _ k25 => AW.region [] Θ_ok ?_
            simp
            refine k25 _ ?_
            refine AW.cond true (by simp [Int.natCast_inj]) (fun _ => ?_) (fun h => by cases h)
            refine AW.exit ?_
            simp
            exact k5 _ (hend _ out I.i.len (by simp) I.stop)
          | true =>
            refine AW.seq fun _ k25 => AW.region [] Θ_ok ?_
            simp
            refine k25 _ ?_
            refine AW.cond false (by simp [Int.natCast_inj]) (fun h => by cases h) (fun _ => ?_)
            refine AW.skip ?_
            simp
            refine k9 _ ?_
            refine AW.region [] Θ_ok ?_
            simp
            exact ⟨⟨out, false, k + 1⟩, ⟨hlt, I.i, I.yes hmo⟩, by simp only; omega, GStep.eq (by simp [inc]) (subH.refl _)⟩
      · obtain rfl : k = g.owner.length := by omega
        refine AW.seq fun _ k8 => AW.cond false (by simp [Int.natCast_inj]) (fun h => by cases h) (fun _ => ?_)
        refine AW.exit ?_
        simp
        exact k5 _ (hend _ out I.len (by simp) (I.full hc))
    · refine AW.seq fun _ kr => AW.region [] Θ_ok ?_
      simp
      refine kr _ (AW.ret ?_)
      simp [Try.f42]
      exact Fin.refl ⟨by simp [reachA, hm], rfl⟩
  · refine AW.seq fun _ k2 => AW.region [] Θ_ok ?_
    simp
    refine (r9_May g hf).use (by simp [G.av]) ?_
    try simp [hm]
    refine k2 _ ?_
    refine AW.cond true (by simp [Int.natCast_inj, hm]) (fun _ => ?_) (fun h => by cases h)
    refine AW.seq fun _ kr => AW.region [] Θ_ok ?_
    simp
    refine kr _ (AW.ret ?_)
    simp [Try.f42]
    exact Fin.refl ⟨by simp [reachA, hm], rfl⟩
end Go.Par

set_option linter.unusedSimpArgs false
set_option linter.unusedVariables false
set_option maxRecDepth 8000
set_option maxHeartbeats 4000000
namespace Go.Par
open Go.Proofs

theorem r9_Follow (g : G) (hf : g.fits) (who : Int) (to_ : List Int) : Pure Try.prog 41 [g.av, .int .i64 who, .ro false (ints to_)] (waysA g (followP g who to_)) := by
  have hb := hf.owner
  obtain ⟨p, hp⟩ : ∃ p, p = followP g who to_ := ⟨_, rfl⟩
  rw [← hp]
  intro h
  refine AC.body Θ_ok Try.func41 rfl rfl (Nat.le_of_ble_eq_true rfl) ?_
  refine AW.seq fun _ k1 => AW.region [6] Θ_ok ?_
  simp [newA]
  refine fun r hr => k1 _ ?_
  refine AW.seq fun _ k1 => ?_
  by_cases hm : mayE g = 0
  · have hn := (may_ok hm).2.1
    have h3 := (may_ok hm).1
    refine AW.seq fun _ k2 => AW.region [] Θ_ok ?_
    simp
    refine (r9_May g hf).use (by simp [G.av]) ?_
    try simp [hm]
    refine k2 _ ?_
    refine AW.cond false (by simp [Int.natCast_inj]) (fun h => by cases h) (fun _ => ?_)
    refine AW.skip ?_
    simp
    refine k1 _ ?_
    refine AW.seq fun _ k1 => AW.draw [18, 22, 7] 9 [] Θ_ok mixed (by kernel_rfl) (by kernel_rfl) ?_
    simp [vcDraw, vcPre, vcTail, callA, isAlloc, isLoad, effOp, obl, obA, mkOK, valA, listA]
    refine ⟨⟨rfl, by omega, by omega⟩, fun a ha => ⟨⟨by omega, by omega⟩, fun o ho q hq => k1 _ ?_⟩⟩
    obtain ⟨har, ha0⟩ := ne_of_none ha (by simp)
    obtain ⟨hoa, ho1⟩ := ne_of_none ho (by simp)
    obtain ⟨hor, ho0⟩ := ne_of_none ho1 (by simp)
    obtain ⟨hqo, hq1⟩ := ne_of_none hq (by simp)
    obtain ⟨hqa, hq2⟩ := ne_of_none hq1 (by simp)
    obtain ⟨hqr, hq0⟩ := ne_of_none hq2 (by simp)
    rw [replicate_tab, flat_tab (fun _ _ => rfl)]
    have ones : ∀ u ∈ ints g.owner, u.flat = [u] := by
      intro u hu; obtain ⟨i, _, rfl⟩ := List.mem_map.1 hu; rfl
    rw [flat_ones ones]
    refine AW.ghost (GStep.cell (p := q) (j := 0) (x := ⟨[.mu a g.owner.length, .mu o g.owner.length], 39, 2, true⟩) (v := .mu a g.owner.length) (upd_same _ _ _) rfl
      (GV.freeze (k := false) (xs := ints g.owner) (x := ⟨ints g.owner, 3, 1, !g.owner.isEmpty⟩) (by dsimp only; rw [upd_ne _ _ (Ne.symm hqa), upd_ne _ _ (Ne.symm hoa), upd_same]) (fun e => by cases e) (by simp) (fun y hy => by rw [ones y hy]; rfl) (by rw [flat_ones ones]; simp [List.take_of_length_le])) (by rw [upd_ne _ _ hqa]; exact upd_same _ _ _) (by simp)) ?_
    simp only [List.set_cons_zero]
    have eH : upd (upd (upd (upd (upd (upd h r (some ⟨[.nils, .nils], 39, 2, true⟩)) a (some ⟨ints g.owner, 3, 1, !g.owner.isEmpty⟩)) o (some ⟨tab g.owner.length fun _ => .nils, 28, 1, true⟩)) q (some ⟨[.mu a g.owner.length, .mu o g.owner.length], 39, 2, true⟩)) a none) q (some ⟨[.ro false (ints g.owner), .mu o g.owner.length], 39, 2, true⟩)
      = upd (upd (upd h r (some ⟨[.nils, .nils], 39, 2, true⟩)) q (some ⟨[.ro false (ints g.owner), .mu o g.owner.length], 39, 2, true⟩)) o (some ⟨tab g.owner.length fun _ => .nils, 28, 1, true⟩) := by
      funext z
      simp only [upd]
      by_cases e1 : z = q
      · subst e1; simp [hqo]
      · by_cases e2 : z = o
        · subst e2; simp [e1, hoa]
        · by_cases e3 : z = a
          · subst e3; simp [e1, e2, har, ha0]
          · simp [e1, e2, e3]
    rw [eH]
    clear eH ha ho1 hq1 hq2 ones
    have ho : upd h r (some ⟨[.nils, .nils], 39, 2, true⟩) o = none := by rw [upd_ne _ _ hor]; exact ho0
    rw [← hn]
    obtain ⟨H0, hH0⟩ : ∃ H0, H0 = upd (upd h r (some ⟨[.nils, .nils], 39, 2, true⟩)) q (some ⟨[.ro false (ints g.owner), .mu o g.next.length], 39, 2, true⟩) := ⟨_, rfl⟩
    have hoH : H0 o = none := by rw [hH0, upd_ne _ _ (Ne.symm hqo)]; exact ho
    have hqH : H0 q = some ⟨[.ro false (ints g.owner), .mu o g.next.length], 39, 2, true⟩ := by rw [hH0, upd_same]
    rw [← hH0]
    refine AW.family 3 1 hoH fun f N => ?_
    refine AW.seq fun _ k1 => ?_
    refine AW.seq fun _ k2 => AW.region [] Θ_ok ?_
    simp
    refine k2 _ ?_
    refine AW.block ?_
    have hst : FH H0 o ⟨tab g.next.length fun i => .mu (f i) 0, 28, 1, true⟩ f g.next.length (fun _ => ⟨[], 3, 1, false⟩) = FH H0 o (wayC g p f 0 0) f g.next.length (wayR g p (fun _ => false) 0 0) := by
      have e : wayR g p (fun _ => false) 0 0 = fun _ => ⟨[], 3, 1, false⟩ := by funext w; simp [wayR, waysS_zero]
      rw [e]; simp [wayC, waysS_zero]
    rw [hst]
    refine AW.loopI (X := WX) (fun s => FN H0 o s.f g.next.length ∧ s.x ≤ g.next.length)
      (fun s => ⟨74, [(27, .int .i64 s.x), (26, .int .i64 g.next.length), (25, .ro false (rows g.next)), (6, .ptr r 0), (7, .ptr q 0), (1, .int .i64 who), (2, .ro false (ints to_)), (3, .rop [.ro false (ints g.owner), .ro false (rows g.next)])], FH H0 o (wayC g p s.f s.x 0) s.f g.next.length (wayR g p s.nn s.x 0)⟩)
      (fun s => g.next.length - s.x) ⟨f, fun _ => false, 0, 0⟩ ⟨N, Nat.zero_le _⟩ (GStep.eq (by simp) (subH.refl _)) ?_
    clear N hst f
    rintro ⟨f, nn, x, _⟩ ⟨N, hx⟩
    simp only at N hx ⊢
    refine AW.seq fun _ k2 => AW.region [] Θ_ok ?_
    simp
    refine k2 _ ?_
    by_cases hlt : x < g.next.length
    · have hlr := hf.row _ (List.getElem_mem hlt)
      have inc := wrap_succ (show x < 9223372036854775807 by omega)
      refine AW.seq fun _ k2 => AW.cond true (by simp [Int.natCast_inj, hlt]) (fun _ => ?_) (fun h => by cases h)
      refine AW.skip ?_
      simp
      refine k2 _ ?_
      refine AW.seq fun _ k2 => ?_
      refine AW.block ?_
      refine AW.seq fun _ k3 => AW.region [] Θ_ok ?_
      simp [hlt]
      refine k3 _ ?_
      refine AW.seq fun _ k3 => AW.region [] Θ_ok ?_
      simp
      refine k3 _ ?_
      refine AW.block ?_
      refine AW.loopI (X := WX) (fun s => FN H0 o s.f g.next.length ∧ s.y ≤ g.next[x].length)
        (fun s => ⟨74, [(34, .int .i64 s.y), (33, .int .i64 g.next[x].length), (32, .ro false (ints g.next[x])), (8, .int .i64 x), (27, .int .i64 x), (26, .int .i64 g.next.length), (25, .ro false (rows g.next)), (6, .ptr r 0), (7, .ptr q 0), (1, .int .i64 who), (2, .ro false (ints to_)), (3, .rop [.ro false (ints g.owner), .ro false (rows g.next)])], FH H0 o (wayC g p s.f x s.y) s.f g.next.length (wayR g p s.nn x s.y)⟩)
        (fun s => g.next[x].length - s.y) ⟨f, nn, x, 0⟩ ⟨N, Nat.zero_le _⟩ (GStep.eq (by simp) (subH.refl _)) ?_
      clear N f nn
      rintro ⟨f, nn, _, y⟩ ⟨N, hy⟩
      simp only at N hy ⊢
      refine AW.seq fun _ k3 => AW.region [] Θ_ok ?_
      simp
      refine k3 _ ?_
      by_cases hly : y < g.next[x].length
      · have incy := wrap_succ (show y < 9223372036854775807 by omega)
        have hstep := waysS_step g p hlt hly
        have hxo : x < g.owner.length := by omega
        have hpe : p x g.next[x][y] = (!decide (g.owner[x] = who) || (decide (x < to_.length) && decide (to_.getD x 0 = g.next[x][y]))) := by
          rw [hp, followP]; simp [hxo]
        refine AW.seq fun _ k3 => AW.cond true (by simp [Int.natCast_inj, hly]) (fun _ => ?_) (fun h => by cases h)
        refine AW.skip ?_
        simp
        refine k3 _ ?_
        refine AW.seq fun _ k3 => ?_
        refine AW.block ?_
        refine AW.seq fun _ k4 => AW.region [] Θ_ok ?_
        simp [hly]
        refine k4 _ ?_
        refine AW.seqTo ⟨74, [(58, .bool (p x g.next[x][y])), (11, .int .i64 g.next[x][y]), (34, .int .i64 y), (33, .int .i64 g.next[x].length), (32, .ro false (ints g.next[x])), (8, .int .i64 x), (27, .int .i64 x), (26, .int .i64 g.next.length), (25, .ro false (rows g.next)), (6, .ptr r 0), (7, .ptr q 0), (1, .int .i64 who), (2, .ro false (ints to_)), (3, .rop [.ro false (ints g.owner), .ro false (rows g.next)])], FH H0 o (wayC g p f x y) f g.next.length (wayR g p nn x y)⟩ (fun _ k4 => ?_) ?_
        · obtain ⟨w, hw⟩ : ∃ w, g.next[x][y] = w := ⟨_, rfl⟩
          rw [hw] at hpe ⊢
          by_cases ho : g.owner[x] = who
          · by_cases hl : x < to_.length
            · by_cases hq : to_[x] = w
              · refine AW.region [] Θ_ok ?_
                simp [hxo, ho, hl, hq, hw]
                exact k4 _ (GStep.eq (by simp [hpe, ho, hl, hq, hw]) (subH.refl _))
              · refine AW.region [] Θ_ok ?_
                simp [hxo, ho, hl, hq, hw]
                exact k4 _ (GStep.eq (by simp [hpe, ho, hl, hq, hw]) (subH.refl _))
            · refine AW.region [] Θ_ok ?_
              simp [hxo, ho, hl, hw]
              exact k4 _ (GStep.eq (by simp [hpe, ho, hl, hw]) (subH.refl _))
          · refine AW.region [] Θ_ok ?_
            simp [hxo, ho, hw]
            exact k4 _ (GStep.eq (by simp [hpe, ho, hw]) (subH.refl _))
        cases hpw : p x g.next[x][y]
        · have eC : wayC g p f x y = wayC g p f x (y + 1) := by
            simp only [wayC]; congr 1
            exact tab_congr fun i _ => by rw [hstep, hpw]; simp
          have eR : wayR g p nn x y = wayR g p nn x (y + 1) := by
            funext i; simp only [wayR]; rw [hstep, hpw]; simp
          refine AW.cond false (by simp [Int.natCast_inj, hpw]) (fun h => by cases h) (fun _ => ?_)
          refine AW.skip ?_
          simp
          refine k3 _ ?_
          rw [eC, eR]
          refine AW.region [] Θ_ok ?_
          simp
          exact ⟨⟨f, nn, 0, y + 1⟩, ⟨N, hly⟩, by simp only; omega, GStep.eq (by simp [incy]) (subH.refl _)⟩
        · have hO : FH H0 o (wayC g p f x y) f g.next.length (wayR g p nn x y) o = some (wayC g p f x y) := FN.at_out
          have hW := N.at_row (C := wayC g p f x y) (R := wayR g p nn x y) hlt
          have hqf : ∀ i, i < g.next.length → f i ≠ q := by
            intro i hi e
            have := N.free i hi
            rw [e, hqH] at this; cases this
          have hQ : FH H0 o (wayC g p f x y) f g.next.length (wayR g p nn x y) q = some ⟨[.ro false (ints g.owner), .mu o g.next.length], 39, 2, true⟩ := by rw [FN.at_else hqo hqf]; exact hqH
          have hbl := waysS_len hm p (y := y) hlt
          have hC : (wayC g p f x y).cells[x]? = some (.mu (f x) (waysS g p x y x).length) := by simp [wayC, getElem?_tab, hlt]
          have hCl : (wayC g p f x y).cells.length = g.next.length := by simp [wayC]
          have hL : (wayC g p f x y).cells.drop x = .mu (f x) (waysS g p x y x).length :: (wayC g p f x y).cells.drop (x + 1) := by
            have hh : x < (wayC g p f x y).cells.length := by rw [hCl]; exact hlt
            rw [List.drop_eq_getElem_cons hh]
            rw [List.getElem?_eq_getElem hh] at hC
            rw [Option.some.inj hC]
          refine AW.cond true (by simp [Int.natCast_inj, hpw]) (fun _ => ?_) (fun h => by cases h)
          refine AW.draw [] 10 [1, 4] Θ_ok mixed (by kernel_rfl) (by kernel_rfl) ?_
          simp [vcDraw, vcPre, vcTail, callA, isAlloc, isLoad, effOp, obl, obA, mkOK, valA, hO, hL, hlt, hW, hQ, appendA, wayR]
          refine ⟨rfl, by omega, fun n' hn' => ?_⟩
          have hft : List.take (waysS g p x y x).length (ints (waysS g p x y x)) = ints (waysS g p x y x) := List.take_of_length_le (by simp)
          rw [hft]
          have stepC : (⟨(wayC g p f x y).cells.set x (.mu n' ((waysS g p x y x).length + 1)), (wayC g p f x y).ty, (wayC g p f x y).sz, (wayC g p f x y).nn⟩ : Ob) = wayC g p (fun i => if i = x then n' else f i) x (y + 1) := by
            simp only [wayC, set_tab]
            congr 1
            refine tab_congr fun i _ => ?_
            rw [hstep, hpw]
            by_cases e : i = x
            · subst e; simp
            · simp [e]
          have stepR : (fun i => if i = x then (⟨ints (waysS g p x y x) ++ [.int .i64 g.next[x][y]], 3, 1, true⟩ : Ob) else wayR g p nn x y i) = wayR g p (fun i => if i = x then true else nn i) x (y + 1) := by
            funext i
            simp only [wayR]
            rw [hstep, hpw]
            by_cases e : i = x
            · subst e; simp
            · simp [e]
          obtain ⟨N', he⟩ := N.grow (C' := wayC g p (fun i => if i = x then n' else f i) x (y + 1)) hlt ⟨ints (waysS g p x y x) ++ [.int .i64 g.next[x][y]], 3, 1, true⟩ hn'
          obtain ⟨q1, q2, q3⟩ := N.fresh hn'
          have hqn : q ≠ n' := by rintro rfl; rw [hqH] at q3; cases q3
          have hno : upd (upd (FH H0 o (wayC g p f x y) f g.next.length (wayR g p nn x y)) (f x) none) n' (some ⟨ints (waysS g p x y x) ++ [.int .i64 g.next[x][y]], 3, 1, true⟩) o = some (wayC g p f x y) := by
            rw [upd_ne _ _ (Ne.symm q1), upd_ne _ _ (Ne.symm (N.ne x hlt))]; exact hO
          have hnq : upd (upd (FH H0 o (wayC g p f x y) f g.next.length (wayR g p nn x y)) (f x) none) n' (some ⟨ints (waysS g p x y x) ++ [.int .i64 g.next[x][y]], 3, 1, true⟩) q = some ⟨[.ro false (ints g.owner), .mu o g.next.length], 39, 2, true⟩ := by
            rw [upd_ne _ _ hqn, upd_ne _ _ (Ne.symm (hqf x hlt))]; exact hQ
          rw [hno, hnq]
          simp only
          rw [upd_ne _ _ hqo, hnq]
          refine ⟨rfl, ⟨trivial, by rw [hCl]; exact hlt⟩, rfl, k3 _ ?_⟩
          rw [stepC, he, stepR]
          refine AW.region [] Θ_ok ?_
          simp
          exact ⟨⟨_, _, 0, y + 1⟩, ⟨N', hly⟩, by simp only; omega, GStep.eq (by simp [incy]) (subH.refl _)⟩
      · obtain rfl : y = g.next[x].length := by omega
        refine AW.seq fun _ k3 => AW.cond false (by simp [Int.natCast_inj]) (fun h => by cases h) (fun _ => ?_)
        refine AW.exit ?_
        simp
        refine k2 _ ?_
        rw [wayC_next g p f hlt, wayR_next g p nn hlt]
        refine AW.region [] Θ_ok ?_
        simp
        exact ⟨⟨f, nn, x + 1, 0⟩, ⟨N, hlt⟩, by simp only; omega, GStep.eq (by simp [inc]) (subH.refl _)⟩
    · obtain rfl : x = g.next.length := by omega
      refine AW.seq fun _ k2 => AW.cond false (by simp [Int.natCast_inj]) (fun h => by cases h) (fun _ => ?_)
      refine AW.exit ?_
      simp
      refine k1 _ ?_
      have hA : wayC g p f g.next.length 0 = ⟨tab g.next.length fun i => if i < g.next.length then .mu (f i) (waysS g p g.next.length 0 i).length else .ro false (ints (waysRow g p i)), 28, 1, true⟩ := by
        simp only [wayC]
        congr 1
        exact tab_congr fun i hi => by simp [hi]
      rw [hA]
      refine AW.ghost (GStep.rows N (R := wayR g p nn g.next.length 0) (fun _ _ => rfl) (fun i _ => by simp [wayR]) (fun i _ u hu => ?_) (fun i hi => ?_) g.next.length (Nat.le_refl _)) ?_
      · simp only [wayR, List.mem_map] at hu; obtain ⟨_, _, rfl⟩ := hu; rfl
      · simp only [wayR, waysS, if_pos hi]
      have ones : ∀ u ∈ (tab g.next.length fun i => AV.ro false (ints (waysRow g p i))), u.flat = [u] := by
        intro u hu; obtain ⟨i, _, rfl⟩ := mem_tab.1 hu; rfl
      refine AW.ghost (GStep.cell (p := q) (j := 1) (x := ⟨[.ro false (ints g.owner), .mu o g.next.length], 39, 2, true⟩) (v := .mu o g.next.length) (by dsimp only; rw [upd_ne _ _ hqo]; exact hqH) rfl
        (GV.freeze (k := true) (xs := tab g.next.length fun i => AV.ro false (ints (waysRow g p i))) (upd_same _ _ _) (fun _ => rfl) (by simp) (fun y hy => by rw [ones y hy]; rfl) (by rw [flat_ones ones]; simp [List.take_of_length_le])) (by rw [upd_upd, upd_ne _ _ hqo]; exact hqH) (by simp)) ?_
      simp only [upd_upd, upd_none_id hoH]
      have hrH : H0 r = some ⟨[.nils, .nils], 39, 2, true⟩ := by rw [hH0, upd_ne _ _ (Ne.symm hqr), upd_same]
      refine AW.seq fun _ kr => AW.region [] Θ_ok ?_
      simp [upd_at, hrH, Ne.symm hqr]
      refine kr _ (AW.ret ?_)
      simp [Try.f41, upd_at]
      refine ⟨_, h, GV.sub (fun z X hz => ?_), by simp [waysA, hm, waysL], rfl⟩
      have z1 : z ≠ q := by rintro rfl; rw [hq0] at hz; cases hz
      have z2 : z ≠ r := by rintro rfl; rw [hr] at hz; cases hz
      rw [upd_ne _ _ z2, upd_ne _ _ z1, hH0, upd_ne _ _ z1, upd_ne _ _ z2]
      exact hz
  · refine AW.seq fun _ k2 => AW.region [] Θ_ok ?_
    simp
    refine (r9_May g hf).use (by simp [G.av]) ?_
    try simp [hm]
    refine k2 _ ?_
    refine AW.cond true (by simp [Int.natCast_inj, hm]) (fun _ => ?_) (fun h => by cases h)
    refine AW.seq fun _ kr => AW.region [] Θ_ok ?_
    simp [upd_same]
    refine kr _ (AW.ret ?_)
    simp [Try.f41, upd_same]
    exact ⟨_, h, GV.sub (subH_upd hr), by simp [waysA, hm], rfl⟩
end Go.Par

set_option linter.unusedSimpArgs false
set_option linter.unusedVariables false
set_option maxRecDepth 8000
set_option maxHeartbeats 4000000
namespace Go.Par
open Go.Proofs

theorem big_of_may {g : G} (hm : mayE g = 0) : BigOk g.next := by
  have h2 := (may_ok hm).2.1
  have h3 := (may_ok hm).1
  refine ⟨by omega, fun l hl => ?_, fun l hl w hw => ?_⟩
  · obtain ⟨v, hv, rfl⟩ := List.mem_iff_getElem.1 hl
    rcases rise_len (may_rise hm hv) with e | e
    · rw [e]; simp
    · omega
  · obtain ⟨v, hv, rfl⟩ := List.mem_iff_getElem.1 hl
    have := (may_row hm (by omega) hv).2 w hw
    omega

theorem r9_Wins (g : G) (hf : g.fits) (P : List Int) (hP : P.length ≤ 1152921504606846976) (who : Int) (to_ : List Int) (from_ : List Bool) : Pure Try.prog 21 [g.av, .ro false (ints P), .int .i64 who, .ro false (ints to_), .ro false (bools from_)] (.bool (winsB g P who to_ from_)) := by
  have sM := r9_MayPrio g hf P hP
  have sP := r9_Player who
  have sF := r9_Follow g hf who to_
  intro h
  refine AC.body Θ_ok Try.func21 rfl rfl (Nat.le_of_ble_eq_true rfl) ?_
  refine AW.seq fun _ k1 => AW.region [] Θ_ok ?_
  simp
  refine k1 _ ?_
  refine AW.seq fun _ k1 => ?_
  by_cases hm0 : mayP g P = true
  · have hm := (mayP_ok hm0).m
    have hlen := (mayP_ok hm0).len
    have h2 := (may_ok hm).2.1
    have h3 := (may_ok hm).1
    rw [hm0] at sM
    by_cases hw : who = 0 ∨ who = 1
    · have hpl : (who == 0 || who == 1) = true := by simpa using hw
      rw [hpl] at sP
      refine AW.seq fun _ k2 => AW.regionAt 3 [] Θ_ok fun B hB => ?_
      simp
      refine sM.use (by simp [G.av]) ?_
      refine hB _ ?_
      clear hB B
      refine vcOps_split 4 fun B hB => ?_
      simp
      refine sP.use (by simp) ?_
      refine hB _ ?_
      clear hB B
      simp
      refine k2 _ ?_
      refine AW.cond false (by simp [Int.natCast_inj]) (fun h => by cases h) (fun _ => ?_)
      refine AW.skip ?_
      simp
      refine k1 _ ?_
      have hmF : mayE (folG g who to_) = 0 := waysG_may hm _
      have fF : (folG g who to_).fits := waysG_fits hf _
      obtain ⟨f1, f2⟩ := fol_len (who := who) (to_ := to_) hm
      have eA : waysA g (followP g who to_) = .agg [.ro false (ints (folG g who to_).owner), .ro true (rows (folG g who to_).next)] := by
        rw [waysA, if_pos hm, folG, waysG_eq hm]
      rw [eA] at sF
      have sR := r9_Reach (folG g who to_) fF from_
      have eR : reachA (folG g who to_) from_ = .ro true (bools (reachL (folG g who to_) from_)) := by rw [reachA, if_pos hmF]
      rw [eR] at sR
      have big := big_of_may hmF
      have sY := r9_Parity (folG g who to_).next big P (by omega) from_ (1 - who)
      have lR : (reachL (folG g who to_) from_).length = g.owner.length := by rw [← f1]; exact length_tab _ _
      have hno : ∀ v, v < g.owner.length → stuckB g who to_ from_ v → winsB g P who to_ from_ = false := fun v hv k => by
        unfold winsB
        have : ¬ ∀ v, v < g.owner.length → ¬ stuckB g who to_ from_ v := fun q => q v hv k
        simp [this]
      have hyes : (∀ v, v < g.owner.length → ¬ stuckB g who to_ from_ v) → winsB g P who to_ from_ = parB (folG g who to_).next P from_ (1 - who) := fun k => by
        exact wins_par hm0 hw k
      have hst : ∀ v, stuckB g who to_ from_ v ↔ hasN (reachL (folG g who to_) from_) v = true ∧ ow g v = who ∧ nx (folG g who to_) v = [] := fun v => Iff.rfl
      generalize winsB g P who to_ from_ = res at *
      generalize parB (folG g who to_).next P from_ (1 - who) = par at *
      generalize reachL (folG g who to_) from_ = RE at *
      generalize folG g who to_ = F at *
      refine AW.seq fun _ k3 => AW.regionAt 4 [11] Θ_ok fun B hB => ?_
      simp
      refine sF.use (by simp [G.av]) ?_
      refine hB _ ?_
      clear hB B
      simp [newA]
      refine fun o ho => ?_
      refine k3 _ ?_
      refine AW.box 11 rfl (upd_same _ _ _) ?_
      simp only [upd_upd_none ho]
      refine AW.seq fun _ k4 => AW.regionAt 3 [] Θ_ok fun B hB => ?_
      simp
      refine sR.use (by simp [G.av]) ?_
      refine hB _ ?_
      clear hB B
      simp
      refine k4 _ ?_
      refine AW.seq fun _ k5 => ?_
      refine AW.seq fun _ k6 => AW.region [] Θ_ok ?_
      simp [lR]
      refine k6 _ ?_
      refine AW.block ?_
      refine AW.loopI (X := Nat) (fun x => x ≤ g.owner.length ∧ ∀ v, v < x → ¬ stuckB g who to_ from_ v) (fun x => ⟨65, [(1, .ro false (ints P)), (2, .int .i64 who), (4, .ro false (bools from_)), (5, .rop [.ro false (ints g.owner), .ro false (rows g.next)]), (11, .rop [.ro false (ints F.owner), .ro true (rows F.next)]), (12, .ro true (bools RE)), (31, .int .i64 g.owner.length), (32, .int .i64 x)], h⟩) (fun x => g.owner.length - x) 0 ⟨Nat.zero_le _, fun v hv => absurd hv (Nat.not_lt_zero _)⟩ (GStep.eq (by simp) (subH.refl _)) fun x hx => ?_
      obtain ⟨hx, hno2⟩ := hx
      refine AW.seq fun _ k7 => AW.region [] Θ_ok ?_
      simp
      refine k7 _ ?_
      by_cases hlt : x < g.owner.length
      · have inc := wrap_succ (show x < 9223372036854775807 by omega)
        have hxR : x < RE.length := by omega
        have hxF : x < F.next.length := by omega
        have hR := get_hasN hxR
        have hS := hst x
        have eo : ow g x = g.owner[x] := by simp [hlt]
        have en : nx F x = F.next[x] := by simp [hxF]
        rw [eo, en] at hS
        have nxt : ¬ stuckB g who to_ from_ x → ∀ v, v < x + 1 → ¬ stuckB g who to_ from_ v := fun q v hv => by
          by_cases e : v = x
          · subst e; exact q
          · exact hno2 v (by omega)
        have cont : ¬ stuckB g who to_ from_ x → True := fun _ => trivial
        refine AW.seq fun _ k8 => AW.cond true (by simp [Int.natCast_inj, hlt]) (fun _ => ?_) (fun h => by cases h)
        refine AW.skip ?_
        simp
        refine k8 _ ?_
        refine AW.seq fun _ k9 => ?_
        refine AW.block ?_
        refine AW.seq fun _ k10 => AW.region [] Θ_ok ?_
        simp
        refine k10 _ ?_
        cases hb : hasN RE x with
        | false =>
          refine AW.seq fun _ k11 => AW.region [] Θ_ok ?_
          simp [hxR, hR, hb]
          refine k11 _ ?_
          refine AW.cond false (by simp [Int.natCast_inj]) (fun h => by cases h) (fun _ => ?_)
          refine AW.skip ?_
          simp
          refine k9 _ ?_
          refine AW.region [] Θ_ok ?_
          simp
          exact ⟨x + 1, ⟨hlt, nxt fun q => by have := (hS.1 q).1; rw [hb] at this; cases this⟩, by omega, GStep.eq (by simp [inc]) (subH.refl _)⟩
        | true =>
          by_cases ho : g.owner[x] = who
          · by_cases hl : F.next[x] = []
            · have hl0 : F.next[x].length = 0 := by rw [hl]; rfl
              refine AW.seq fun _ k11 => AW.region [] Θ_ok ?_
              simp [hxR, hR, hb, hlt, ho, hxF, hl0, hl]
              refine k11 _ ?_
              refine AW.cond true (by simp [Int.natCast_inj]) (fun _ => ?_) (fun h => by cases h)
              refine AW.seq fun _ kr => AW.region [] Θ_ok ?_
              simp
              refine kr _ (AW.ret ?_)
              simp [Try.f21]
              exact Fin.refl ⟨by rw [hno x hlt (hS.2 ⟨hb, ho, hl⟩)], rfl⟩
            · have hl0 : ¬ F.next[x].length = 0 := fun q => hl (List.length_eq_zero_iff.1 q)
              refine AW.seq fun _ k11 => AW.region [] Θ_ok ?_
              simp [hxR, hR, hb, hlt, ho, hxF, hl0, hl]
              refine k11 _ ?_
              refine AW.cond false (by simp [Int.natCast_inj, hl, hl0]) (fun h => by cases h) (fun _ => ?_)
              refine AW.skip ?_
              simp
              refine k9 _ ?_
              refine AW.region [] Θ_ok ?_
              simp
              exact ⟨x + 1, ⟨hlt, nxt fun q => hl (hS.1 q).2.2⟩, by omega, GStep.eq (by simp [inc]) (subH.refl _)⟩
          · refine AW.seq fun _ k11 => AW.region [] Θ_ok ?_
            simp [hxR, hR, hb, hlt, ho]
            refine k11 _ ?_
            refine AW.cond false (by simp [Int.natCast_inj]) (fun h => by cases h) (fun _ => ?_)
            refine AW.skip ?_
            simp
            refine k9 _ ?_
            refine AW.region [] Θ_ok ?_
            simp
            exact ⟨x + 1, ⟨hlt, nxt fun q => ho (hS.1 q).2.1⟩, by omega, GStep.eq (by simp [inc]) (subH.refl _)⟩
      · obtain rfl : x = g.owner.length := by omega
        have hwr : IntKind.i64.wrap (1 - who) = 1 - who := by rcases hw with rfl | rfl <;> rfl
        refine AW.seq fun _ k8 => AW.cond false (by simp [Int.natCast_inj]) (fun h => by cases h) (fun _ => ?_)
        refine AW.exit ?_
        simp
        refine k5 _ ?_
        refine AW.seq fun _ kr => AW.regionAt 7 [] Θ_ok fun B hB => ?_
        simp [hwr]
        refine sY.use (by simp) ?_
        refine hB _ ?_
        clear hB B
        simp
        refine kr _ (AW.ret ?_)
        simp [Try.f21]
        exact Fin.refl ⟨by rw [hyes hno2], rfl⟩
    · have hpl : (who == 0 || who == 1) = false := by simpa using hw
      rw [hpl] at sP
      have hres : winsB g P who to_ from_ = false := by
        unfold winsB
        rw [decide_eq_false hw]; simp
      refine AW.seq fun _ k2 => AW.regionAt 3 [] Θ_ok fun B hB => ?_
      simp
      refine sM.use (by simp [G.av]) ?_
      refine hB _ ?_
      clear hB B
      refine vcOps_split 4 fun B hB => ?_
      simp
      refine sP.use (by simp) ?_
      refine hB _ ?_
      clear hB B
      simp
      refine k2 _ ?_
      refine AW.cond true (by simp [Int.natCast_inj]) (fun _ => ?_) (fun h => by cases h)
      refine AW.seq fun _ kr => AW.region [] Θ_ok ?_
      simp
      refine kr _ (AW.ret ?_)
      simp [Try.f21]
      exact Fin.refl ⟨by rw [hres], rfl⟩
  · have hm1 : mayP g P = false := by simpa using hm0
    rw [hm1] at sM
    have hres : winsB g P who to_ from_ = false := by
      unfold winsB
      rw [hm1]; rfl
    refine AW.seq fun _ k2 => AW.regionAt 3 [] Θ_ok fun B hB => ?_
    simp
    refine sM.use (by simp [G.av]) ?_
    refine hB _ ?_
    clear hB B
    simp
    refine k2 _ ?_
    refine AW.cond true (by simp [Int.natCast_inj]) (fun _ => ?_) (fun h => by cases h)
    refine AW.seq fun _ kr => AW.region [] Θ_ok ?_
    simp
    refine kr _ (AW.ret ?_)
    simp [Try.f21]
    exact Fin.refl ⟨by rw [hres], rfl⟩
end Go.Par
