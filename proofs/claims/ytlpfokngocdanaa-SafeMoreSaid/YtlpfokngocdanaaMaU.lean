/- From the data that a law is handed to plain values. -/
import Derived.Test.YtlpfokngocdanaaMaT
import Derived.ProofKit
import Derived.SizedLaws
import Derived.Below
namespace Go.Par
open Go.ChangeShapes Go.WideShapes Go.ChangeAt Go.RowKit

inductive DK where
  | int
  | bool
  | sl (e : DK)

def DK.El : DK → Type
  | .int => Int
  | .bool => Bool
  | .sl e => List e.El

def DK.av : (d : DK) → d.El → AV
  | .int, n => .int .i64 n
  | .bool, b => .bool b
  | .sl e, l => .ro false (List.map e.av l)

def DK.bytes : DK → Nat
  | .int => 8
  | .bool => 1
  | .sl _ => 24

def DK.fits : (d : DK) → d.El → Prop
  | .int, n => (Lit.int .i64 n).wf = true
  | .bool, _ => True
  | .sl e, l => List.length l * e.bytes ≤ reachBytes ∧ ∀ x : e.El, x ∈ (show List e.El from l) → e.fits x

def DK.is (P : Program) : DK → TypeId → Prop
  | .int, t => P.underlying t = some (.int .i64) ∧ P.cellsOf t = 1 ∧ P.bytesOf t = 8
  | .bool, t => P.underlying t = some .bool ∧ P.cellsOf t = 1 ∧ P.bytesOf t = 1
  | .sl e, t => ∃ t', P.underlying t = some (.slice t') ∧ P.cellsOf t = 1 ∧ P.bytesOf t = 24 ∧ e.is P t'

theorem DK.is_one {P : Program} {d : DK} {t : TypeId} (h : d.is P t) : P.cellsOf t = 1 ∧ P.bytesOf t = d.bytes := by
  cases d with
  | int => exact h.2
  | bool => exact h.2
  | sl e => obtain ⟨t', _, h1, h2, _⟩ := h; exact ⟨h1, h2⟩

theorem DK.av_flat (d : DK) (x : d.El) : (d.av x).flat = [d.av x] := by cases d <;> rfl

theorem lists_of {α : Type} {Q : Nat → α → Prop} : ∀ (n : Nat), (∀ i, i < n → ∃ y, Q i y) → ∃ ys : List α, ys.length = n ∧ ∀ i y, ys[i]? = some y → Q i y
  | 0, _ => ⟨[], rfl, fun i y h => by simp at h⟩
  | n + 1, h => by
    obtain ⟨ys, hl, hq⟩ := lists_of n fun i hi => h i (by omega)
    obtain ⟨y, hy⟩ := h n (by omega)
    refine ⟨ys ++ [y], by simp [hl], fun i z hz => ?_⟩
    by_cases hi : i < ys.length
    · rw [List.getElem?_append_left hi] at hz; exact hq i z hz
    · rw [List.getElem?_append_right (by omega)] at hz
      have : i - ys.length = 0 := by
        have := (List.getElem?_eq_some_iff.1 hz).1
        simp at this; omega
      rw [this] at hz
      simp at hz
      subst hz
      have : i = n := by omega
      subst this; exact hy

section
variable {H : Type} {enc : TypeId × Value → H} {P : Program} {w : World} {spare : Nat → Bool} {held : Bool}

theorem weights_elem {e : TypeId} {d : DataW H} : ∀ {l : List (DataW H)}, d ∈ l → ∀ n ∈ d.weights P e, n ∈ DataW.weightsAll P e l
  | x :: r, h, n, hn => by
    simp only [DataW.weightsAll, List.mem_append]
    rcases List.mem_cons.1 h with rfl | h
    · exact .inl hn
    · exact .inr (weights_elem h n hn)

theorem DK.open (φ : Names) {B : Nat → Prop} (hB : ∀ b, ¬ B b) : ∀ (d : DK) {t : TypeId} {fuel : Nat} {cs : List Value} {x : DataW H × List MemPlace}, d.is P t → DataW.trod enc P w 0 spare held fuel t cs = some x →
    (∀ n ∈ x.1.weights P t, n ≤ reachBytes) → ∃ v y, cs = [v] ∧ VR φ B w (d.av y) v ∧ d.fits y
  | .int, t, fuel, cs, x, hd, h, hw => by
    obtain ⟨n, rfl, _, hwf⟩ := DataW.trod_int hd.1 h
    exact ⟨_, n, rfl, .int .i64 n, hwf⟩
  | .bool, t, fuel, cs, x, hd, h, hw => by
    obtain ⟨b, rfl, _⟩ := DataW.trod_bool hd.1 h
    exact ⟨_, b, rfl, .bool b, trivial⟩
  | .sl e, t, fuel, cs, x, ⟨t', hu, _, _, he⟩, h, hw => by
    rcases DataW.trod_slice hu h with ⟨rfl, rfl⟩ | ⟨a, len, cap, elems, rest, n, _, rfl, rfl, hb, hl, hm, hlen, hel, _, _⟩
    · exact ⟨_, [], rfl, .roNil false none 0 (by simp) (by simp), by simp [DK.fits]⟩
    · obtain ⟨hc1, hc2⟩ := DK.is_one he
      have each : ∀ i, i < len → ∃ y : e.El, ∃ v, w.cell? (a.add i) = some v ∧ VR φ B w (e.av y) v ∧ e.fits y := by
        intro i hi
        have h1 := hel i hi
        rw [hc1, Nat.mul_one] at h1
        have hi' : i < elems.length := by omega
        rw [List.getElem?_eq_getElem hi', Option.bind_eq_some_iff] at h1
        obtain ⟨cs', hcs, hy⟩ := h1
        obtain ⟨v, y, rfl, hv, hf⟩ := DK.open φ hB e he hy fun n hn => hw n (by
          simp only [DataW.weights, hu, List.mem_cons, List.mem_append]
          exact .inr (.inl (weights_elem (List.mem_map.2 ⟨_, List.getElem_mem hi', rfl⟩) n hn)))
        exact ⟨y, v, cell_of_cells?_one hcs, hv, hf⟩
      obtain ⟨ys, hyl, hys⟩ := lists_of len each
      have hsz : ys.length * e.bytes ≤ reachBytes := by
        have h1 := hw ((elems.length + rest.length) * P.bytesOf t') (by simp [DataW.weights, hu])
        rw [hc2] at h1
        exact Nat.le_trans (Nat.mul_le_mul_right _ (by omega)) h1
      refine ⟨_, ys, rfl, ?_, hsz, fun y hy => ?_⟩
      · cases hn : len with
        | zero =>
          have : ys = [] := List.eq_nil_of_length_eq_zero (by omega)
          subst this
          exact .roNil false (some a) cap (by simp) (by simp)
        | succ m =>
          obtain ⟨y0, v0, hc0, _⟩ := each 0 (by omega)
          obtain ⟨b, off, sp⟩ := a
          have hsp : sp = none := by
            cases sp with
            | none => rfl
            | some s => simp [Addr.add, World.cell?] at hc0; split at hc0 <;> simp_all
          subst hsp
          have hbl : b < w.heap.size := by
            simp only [Addr.add, World.cell?] at hc0
            by_cases hb : b < w.heap.size
            · exact hb
            · simp [Array.getElem?_eq_none (Nat.le_of_not_lt hb)] at hc0
          have flat : (List.map e.av ys).flatMap AV.flat = List.map e.av ys := by
            clear hsz hys hyl
            induction ys with
            | nil => rfl
            | cons z r ih => simp only [List.map_cons, List.flatMap_cons, DK.av_flat, ih]; rfl
          have at' : ∀ j u, (List.map e.av ys)[j]? = some u → ∃ v, w.cell? ⟨b, off + j, none⟩ = some v ∧ VR φ B w u v := by
            intro j u hj
            rw [List.getElem?_map, Option.map_eq_some_iff] at hj
            obtain ⟨y, hy, rfl⟩ := hj
            obtain ⟨v, h1, h2, _⟩ := hys j y hy
            refine ⟨v, ?_, h2⟩
            rw [← h1]; unfold Addr.add; split
            · next h => subst h; rfl
            · rfl
          refine .ro false (List.map e.av ys) (m + 1) b off cap 1 (fun j => (w.cell? ⟨b, off + j, none⟩).getD undef) (by simp; omega) (by omega) (hB b) hbl ?_ ?_ ?_
          · intro x hx
            obtain ⟨y, _, rfl⟩ := List.mem_map.1 hx
            rw [DK.av_flat]; rfl
          · intro j u hj
            rw [flat] at hj
            obtain ⟨v, h1, _⟩ := at' j u hj
            simp [h1]
          · intro j u hj
            rw [flat] at hj
            obtain ⟨v, h1, h2⟩ := at' j u hj
            simp only [h1]; exact h2
      · obtain ⟨i, hi, rfl⟩ := List.getElem_of_mem hy
        obtain ⟨_, _, _, h3⟩ := hys i _ (List.getElem?_eq_getElem hi)
        exact h3

/-! ### Arguments -/
inductive AK where
  | d (k : DK)
  | game

def AK.El : AK → Type
  | .d k => k.El
  | .game => G

def AK.av : (k : AK) → k.El → AV
  | .d k, x => k.av x
  | .game, g => G.av g

structure G.wide (g : G) : Prop where
  owner : (DK.sl .int).fits g.owner
  next : (DK.sl (.sl .int)).fits g.next

def AK.fits : (k : AK) → k.El → Prop
  | .d k, x => k.fits x
  | .game, g => G.wide g

def AK.is (P : Program) : AK → TypeId → Prop
  | .d k, t => k.is P t
  | .game, t => ∃ f0 f1, P.underlying t = some (.struct #[f0, f1]) ∧ f0.offset = 0 ∧ f1.offset = 1 ∧ P.cellsOf t = 2 ∧ (DK.sl .int).is P f0.type ∧ (DK.sl (.sl .int)).is P f1.type

theorem ints_eq (l : List Int) : (DK.sl .int).av l = .ro false (ints l) := rfl
theorem rows_eq (l : List (List Int)) : (DK.sl (.sl .int)).av l = .ro false (rows l) := rfl
theorem bools_eq (l : List Bool) : (DK.sl .bool).av l = .ro false (bools l) := rfl

theorem one_cell {r : Reach} {b0 : Nat} {t : TypeId} {v : Value} {d : DK} (hd : d.is P t) (h : Value.okWide P w r b0 t v) : v.cells.toList = [v] := by
  cases d with
  | int => obtain ⟨n, rfl⟩ := okWide_int hd.1 h; rfl
  | bool => obtain ⟨n, rfl⟩ := okWide_bool hd.1 h; rfl
  | sl e => obtain ⟨t', hu, _⟩ := hd; obtain ⟨a, l, c, rfl⟩ := okWide_slice hu h; rfl

theorem AK.open (φ : Names) {B : Nat → Prop} (hB : ∀ b, ¬ B b) {r : Reach} {b0 : Nat} (k : AK) {t : TypeId} {v : Value} {x : DataW H} {ps : List MemPlace} (hk : k.is P t) (hok : Value.okWide P w r b0 t v)
    (h : DataW.Trod enc P w 0 spare held t v x ps) (hw : ∀ n ∈ x.weights P t, n ≤ reachBytes) : ∃ y, VR φ B w (k.av y) v ∧ k.fits y := by
  obtain ⟨fuel, hf⟩ := h
  cases k with
  | d k =>
    rw [one_cell hk hok] at hf
    obtain ⟨v', y, e, h1, h2⟩ := DK.open φ hB k hk hf hw
    cases e
    exact ⟨y, h1, h2⟩
  | game =>
    obtain ⟨f0, f1, hu, o0, o1, hc, h0, h1⟩ := hk
    have : ∃ cs, v = .agg cs := by
      simp only [Value.okWide, hu] at hok
      obtain ⟨cs, h, _⟩ := hok; exact ⟨cs, h⟩
    obtain ⟨cs, rfl⟩ := this
    obtain ⟨y0, y1, n, hx, hl, t0, t1⟩ := trod_struct2 hu hf
    obtain ⟨rfl, _⟩ := Prod.mk.inj hx
    simp only [DataW.weights, hu, DataW.weightsEach, List.map_cons, List.map_nil, List.append_nil, List.mem_append] at hw
    obtain ⟨v0, g0, e0, k0, w0⟩ := DK.open φ hB _ h0 t0 fun n hn => hw n (.inl hn)
    obtain ⟨v1, g1, e1, k1, w1⟩ := DK.open φ hB _ h1 t1 fun n hn => hw n (.inr hn)
    have c0 := (DK.is_one h0).1
    have c1 := (DK.is_one h1).1
    rw [o0, c0] at e0
    rw [o1, c1] at e1
    have hcs : cs = #[v0, v1] := by
      have hl' : cs.toList.length = 2 := by rw [← hc]; exact hl
      obtain ⟨l⟩ := cs
      simp only [Value.cells] at e0 e1
      match l, hl' with
      | [a, b], _ => simp at e0 e1; simp [e0, e1]
    subst hcs
    refine ⟨⟨g0, g1⟩, .agg _ _ rfl fun j u hj => ?_, ⟨w0, w1⟩⟩
    match j, hj with
    | 0, hj => simp at hj; subst hj; exact k0
    | 1, hj => simp at hj; subst hj; exact k1

/-- The plain values of a law's arguments. -/
inductive Got : List AK → List AV → Prop where
  | nil : Got [] []
  | cons {k : AK} {ks : List AK} {us : List AV} (y : k.El) (h : k.fits y) (t : Got ks us) : Got (k :: ks) (k.av y :: us)

inductive Are (P : Program) : List AK → List TypeId → Prop where
  | nil : Are P [] []
  | cons {k : AK} {ks : List AK} {t : TypeId} {ts : List TypeId} (h : k.is P t) (hr : P.readableRec t = true) (hs : t < P.types.size) (r : Are P ks ts) : Are P (k :: ks) (t :: ts)

theorem opened (φ : Names) {B : Nat → Prop} (hB : ∀ b, ¬ B b) {r : Reach} {b0 : Nat} {ks : List AK} {ts : List TypeId} (hk : Are P ks ts) : ∀ {vs : List Value} {ds : List (DataW H)} {ps : List MemPlace},
    DataW.TrodAll enc P w 0 spare held ts vs ds ps → (∀ (j : Nat) t v, ts[j]? = some t → vs[j]? = some v → Value.okWide P w r b0 t v) → (∀ n ∈ DataW.weightsEach P ts ds, n ≤ reachBytes) →
    ∃ us : List AV, Got ks us ∧ us.length = vs.length ∧ ∀ (j : Nat) (u : AV), us[j]? = some u → ∃ v, vs[j]? = some v ∧ VR φ B w u v := by
  induction hk with
  | nil =>
    intro vs ds ps h _ _
    obtain ⟨rfl, rfl, rfl⟩ := trodAll_nil h
    exact ⟨[], .nil, rfl, fun j u hj => by simp at hj⟩
  | cons h hr hs _ ih =>
    intro vs ds ps ht hok hw
    obtain ⟨v, vs', d, ds', p, q, rfl, rfl, rfl, h1, h2⟩ := trodAll_cons ht
    simp only [DataW.weightsEach, List.mem_append] at hw
    obtain ⟨y, hy, hf⟩ := AK.open φ hB _ h (hok 0 _ v rfl rfl) h1 fun n hn => hw n (.inl hn)
    obtain ⟨us, hg, hl, hv⟩ := ih h2 (fun j t v ha hb => hok (j + 1) t v ha hb) fun n hn => hw n (.inr hn)
    refine ⟨_, .cons y hf hg, by simp [hl], fun j u hj => ?_⟩
    match j, hj with
    | 0, hj => simp at hj; subst hj; exact ⟨v, rfl, hy⟩
    | j + 1, hj => exact hv j u hj

theorem stays (hl : laidOutB P = true) {W W' : World} {ks : List AK} {ts : List TypeId} (hk : Are P ks ts) (bel : Below W.heap.size W W') : ∀ {vs : List Value} {ds : List (DataW H)} {ps : List MemPlace},
    DataW.TrodAll enc P W 0 (fun _ => true) true ts vs ds ps → DataW.TrodAll enc P W' 0 (fun b => decide (b < W.heap.size)) true ts vs ds ps := by
  induction hk with
  | nil =>
    intro vs ds ps h
    obtain ⟨rfl, rfl, rfl⟩ := trodAll_nil h
    exact trodAll_mk0
  | cons h hr hs _ ih =>
    intro vs ds ps ht
    obtain ⟨v, vs', d, ds', p, q, rfl, rfl, rfl, h1, h2⟩ := trodAll_cons ht
    exact ⟨_, _, Below.trod hl hr hs h1 bel (fun x hx => by obtain ⟨m, hm⟩ := h1; exact DataW.trod_lt m _ _ _ hm x hx), ih h2, rfl⟩

theorem trod_len {base : Nat} : ∀ {ts : List TypeId} {vs : List Value} {ds : List (DataW H)} {ps : List MemPlace}, DataW.TrodAll enc P w base spare held ts vs ds ps → ds.length = ts.length
  | [], vs, ds, ps, h => by obtain ⟨_, rfl, _⟩ := trodAll_nil h; rfl
  | t :: ts, vs, ds, ps, h => by
    obtain ⟨v, vs', d, ds', p, q, _, rfl, _, _, h2⟩ := trodAll_cons h
    simp [trod_len h2]

theorem run {f : FuncId} {us : List AV} {r : AV} {W : World} {args : Array Value} (h : Pure P f us r) (hv : VRs (fun _ => none) (fun _ => False) W us args) :
    Calls P f args W fun e W' => ∃ v φ B, e = .returned v ∧ VR φ B W' r v ∧ Below W.heap.size W W' := by
  have own0 : own (fun _ => none) (fun _ => none) = fun _ => False := by
    funext b; apply propext; constructor
    · rintro ⟨o, cap, ho, _⟩; simp at ho
    · exact False.elim
  have := (h fun _ => none).2 (fun _ => none) W args ⟨fun o x hx => by simp at hx, fun o o' b c c' ho => by simp at ho, 0, fun _ _ => rfl⟩ (by rw [own0]; exact hv)
  rw [own0] at this
  refine this.mono fun e W' ⟨φ', h', r', v, _, hk, _, he, hr, e1, _⟩ => ?_
  subst e1
  exact ⟨v, φ', _, he, hr, hk.os, hk.tape, hk.output, hk.size, fun b hb => (hk.block b hb (by simp)).2⟩
end

end Go.Par
