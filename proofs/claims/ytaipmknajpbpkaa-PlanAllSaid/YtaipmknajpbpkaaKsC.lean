/- Components of a graph: plain laws for the walk of parryref9.circles. -/
import Derived.Test.YtaipmknajpbpkaaKsA
import Derived.Test.YtaipmknajpbpkaaKsB
import Derived.Test.YtaipmknajpbpkaaFgB
set_option linter.unusedSimpArgs false
set_option linter.unusedVariables false
namespace Go.Par

def kE (next : List (List Int)) (u v : Nat) : Prop := u < next.length ∧ (v : Int) ∈ next.getD u []
def kS (next : List (List Int)) (a : List Bool) (v : Nat) : Prop := v < next.length ∧ hasN a v = true
def kX (next : List (List Int)) (v i : Nat) : Option Nat := (next.getD v [])[i]?.map Int.toNat

/-! ### How much is left to go through -/
def leftU : List (List Int) → List Bool → Nat
  | l :: ls, b :: bs => (if b then 0 else l.length + 2) + leftU ls bs
  | _, _ => 0
theorem leftU_set : ∀ (next : List (List Int)) (R : List Bool) (w : Nat) (hw : w < next.length), w < R.length → R.getD w false = false → leftU next (R.set w true) + (next[w].length + 2) = leftU next R
  | [], R, w, hw, _, _ => by simp at hw
  | l :: ls, [], w, _, h, _ => by simp at h
  | l :: ls, b :: bs, 0, _, _, hb => by
    simp at hb; subst hb
    simp [leftU]; omega
  | l :: ls, b :: bs, w + 1, hw, h, hb => by
    have := leftU_set ls bs w (by simpa using hw) (by simpa using h) (by simpa using hb)
    simp only [List.set_cons_succ, leftU, List.getElem_cons_succ]
    omega
def leftK (next : List (List Int)) : List (Nat × Nat) → Nat
  | [] => 0
  | p :: K => ((next.getD p.1 []).length + 1 - p.2) + leftK next K
theorem leftK_snoc (next : List (List Int)) : ∀ (K : List (Nat × Nat)) (p : Nat × Nat), leftK next (K ++ [p]) = leftK next K + ((next.getD p.1 []).length + 1 - p.2)
  | [], p => by simp [leftK]
  | q :: K, p => by simp only [List.cons_append, leftK, leftK_snoc next K p]; omega

/-! ### Back rows -/
structure BigOk (next : List (List Int)) : Prop where
  len : next.length ≤ 12000
  row : ∀ l ∈ next, l.length ≤ 1000000000
  lt : ∀ l ∈ next, ∀ w ∈ l, 0 ≤ w ∧ w < next.length
theorem BigOk.ok {next : List (List Int)} (h : BigOk next) : NextOk next := ⟨h.len, fun l hl => Nat.le_trans (h.row l hl) (by decide), h.lt⟩

theorem befS_big {next : List (List Int)} (ok : BigOk next) (w : Nat) : ∀ {x : Nat}, x ≤ next.length → (befS (nG next) x 0 w).length ≤ x * 1000000000
  | 0, _ => by simp [befS]
  | x + 1, hx => by
    have hx' : x < (nG next).next.length := by simp; omega
    have ih := befS_big ok w (x := x) (by omega)
    rw [← befS_next (nG next) hx']
    have e : befS (nG next) x (nG next).next[x].length w = befS (nG next) x 0 w ++ ((nG next).next[x].filter (· == (w : Int))).map fun _ => (x : Int) := by
      simp [befS, show x < next.length by omega]
    rw [e, List.length_append, List.length_map]
    have h1 : ((nG next).next[x].filter (· == (w : Int))).length ≤ (nG next).next[x].length := List.length_filter_le _ _
    have h2 := ok.row _ (List.getElem_mem (show x < next.length by omega))
    have h3 : (nG next).next[x].length ≤ 1000000000 := h2
    omega
theorem befS_bigY {next : List (List Int)} (ok : BigOk next) (w : Nat) {x y : Nat} (hx : x < next.length) : (befS (nG next) x y w).length ≤ 12000000000000 := by
  have e : befS (nG next) x y w = befS (nG next) x 0 w ++ ((next[x].take y).filter (· == (w : Int))).map fun _ => (x : Int) := by
    simp [befS, hx]
  rw [e, List.length_append, List.length_map]
  have h0 := befS_big ok w (Nat.le_of_lt hx)
  have h1 : ((next[x].take y).filter (· == (w : Int))).length ≤ (next[x].take y).length := List.length_filter_le _ _
  have h2 : (next[x].take y).length ≤ next[x].length := by rw [List.length_take]; omega
  have h3 := ok.row _ (List.getElem_mem hx)
  have h4 := ok.len
  have : x * 1000000000 + 1000000000 ≤ 12000 * 1000000000 := by
    have : (x + 1) * 1000000000 ≤ 12000 * 1000000000 := Nat.mul_le_mul_right _ (by omega)
    omega
  omega
def bkL (next : List (List Int)) (w : Nat) : List Int := befS (nG next) next.length 0 w
theorem bkL_len {next : List (List Int)} (ok : BigOk next) (w : Nat) : (bkL next w).length ≤ 12000000000000 := by
  have := befS_big ok w (Nat.le_refl _)
  have := ok.len
  have : next.length * 1000000000 ≤ 12000 * 1000000000 := Nat.mul_le_mul_right _ (by omega)
  unfold bkL; omega
theorem bkL_mem {next : List (List Int)} {w : Nat} {z : Int} : z ∈ bkL next w ↔ ∃ u : Nat, z = u ∧ kE next u w := by
  unfold bkL befS kE
  simp only [nG_next, List.mem_append, List.mem_flatMap, List.mem_range, List.mem_map, List.mem_filter, beq_iff_eq, List.take_zero, List.filter_nil, List.map_nil, List.not_mem_nil, or_false]
  constructor
  · rintro ⟨u, hu, a, ⟨h1, h2⟩, rfl⟩
    exact ⟨u, rfl, hu, by rw [← h2]; exact h1⟩
  · rintro ⟨u, rfl, hu, h⟩
    exact ⟨u, hu, _, ⟨h, rfl⟩, rfl⟩

/-! ### Components -/
section
variable {E : Nat → Nat → Prop} {S : Nat → Prop}
def Same (E : Nat → Nat → Prop) (S : Nat → Prop) (u v : Nat) : Prop := u = v ∨ (Way E S u v ∧ Way E S v u)
theorem Same.refl (u : Nat) : Same E S u u := .inl rfl
theorem Same.symm {u v : Nat} (h : Same E S u v) : Same E S v u := by
  rcases h with rfl | ⟨a, b⟩
  · exact .inl rfl
  · exact .inr ⟨b, a⟩
theorem Same.trans {u v w : Nat} (h : Same E S u v) (k : Same E S v w) : Same E S u w := by
  rcases h with rfl | ⟨a, b⟩
  · exact k
  · rcases k with rfl | ⟨c, d⟩
    · exact .inr ⟨a, b⟩
    · exact .inr ⟨a.trans c, d.trans b⟩
theorem Same.loop {u v : Nat} (h : Same E S u v) (k : Way E S v v) : Way E S u u := by
  rcases h with rfl | ⟨a, b⟩
  · exact k
  · exact a.trans b
/-- A way there and back: all on it is in the same component. -/
theorem Way.same {u v : Nat} (h : Way E S u v) (k : Way E S v u) : Way E (fun x => S x ∧ Same E S x v) u v := by
  have key : ∀ a b, Way E S a b → Way E S b a → Way E (fun x => S x ∧ Same E S x b) a b := by
    intro a b h
    induction h with
    | one hu hv e => exact fun k => .one ⟨hu, .inr ⟨.one hu hv e, k⟩⟩ ⟨hv, .inl rfl⟩ e
    | @cons u w v hu e h ih => exact fun k => .cons ⟨hu, .inr ⟨.cons hu e h, k⟩⟩ e (ih (k.snoc e h.fst))
  exact key _ _ h k
end

structure P3 (E : Nat → Nat → Prop) (S : Nat → Prop) (n : Nat) (O : List Nat) (i : Nat) (D : List Bool) (C : List Int) : Prop where
  dlen : D.length = n
  clen : C.length = n
  d : ∀ v, hasN D v = true ↔ ∃ j r, i ≤ j ∧ O[j]? = some r ∧ Same E S v r
  yes : ∀ w, hasN D w = true → Way E S w w → ∃ r : Nat, C[w]? = some (r : Int) ∧ S r ∧ Same E S w r ∧ ∀ w', Same E S w w' → C[w']? = some (r : Int)
  no : ∀ w, w < n → ¬ (hasN D w = true ∧ Way E S w w) → C[w]? = some (-1)

structure CirOk (E : Nat → Nat → Prop) (S : Nat → Prop) (n : Nat) (C : List Int) : Prop where
  len : C.length = n
  yes : ∀ w, Way E S w w → ∃ r : Nat, C[w]? = some (r : Int) ∧ S r ∧ Same E S w r ∧ ∀ w', Same E S w w' → C[w']? = some (r : Int)
  no : ∀ w, w < n → ¬ Way E S w w → C[w]? = some (-1)

section
variable {E : Nat → Nat → Prop} {S : Nat → Prop} {n : Nat} {O : List Nat} {i : Nat} {D D' : List Bool} {C : List Int}
theorem P3.init (hD : D = List.replicate n false) (hC : C = List.replicate n (-1)) : P3 E S n O O.length D C := by
  subst hD hC
  have hf : ∀ v, hasN (List.replicate n false) v = false := fun v => by
    simp [hasN, List.getElem?_replicate]; split <;> simp
  refine ⟨by simp, by simp, fun v => ?_, fun w h => ?_, fun w hw _ => by simp [hw]⟩
  · rw [hf]
    constructor
    · intro h; cases h
    · rintro ⟨j, r, h1, h2, _⟩
      have := (List.getElem?_eq_some_iff.1 h2).1
      omega
  · rw [hf] at h; cases h
theorem P3.done (P : P3 E S n O 0 D C) (hO : ∀ v, S v → v ∈ O) : CirOk E S n C := by
  have hd : ∀ v, S v → hasN D v = true := fun v hv => (P.d v).2 (by
    obtain ⟨j, hj⟩ := List.mem_iff_getElem?.1 (hO v hv)
    exact ⟨j, v, Nat.zero_le _, hj, .inl rfl⟩)
  exact ⟨P.clen, fun w hw => P.yes w (hd w hw.fst) hw, fun w hw h => P.no w hw fun q => h q.2⟩
theorem P3.old (P : P3 E S n O (i + 1) D C) {v : Nat} (hv : O[i]? = some v) (h : hasN D v = true) : P3 E S n O i D C := by
  refine ⟨P.dlen, P.clen, fun u => ?_, P.yes, P.no⟩
  rw [P.d]
  constructor
  · rintro ⟨j, r, h1, h2, h3⟩; exact ⟨j, r, by omega, h2, h3⟩
  · rintro ⟨j, r, h1, h2, h3⟩
    by_cases e : j = i
    · subst e
      rw [hv] at h2; cases h2
      obtain ⟨j', r', g1, g2, g3⟩ := (P.d v).1 h
      exact ⟨j', r', g1, g2, h3.trans g3⟩
    · exact ⟨j, r, by omega, h2, h3⟩
theorem P3.comp (P : P3 E S n O (i + 1) D C) (ho : Ord E S O) (hS : ∀ v, S v → v ∈ O) {v : Nat} (hv : O[i]? = some v) (h : hasN D v = false) (u : Nat) :
    (u = v ∨ Way E (fun x => S x ∧ hasN D x = false) u v) ↔ Same E S u v := by
  constructor
  · rintro (rfl | q)
    · exact .inl rfl
    · have hb := ho.back hv (U := fun x => S x ∧ hasN D x = false) (fun x hx => by
        obtain ⟨j, hj⟩ := List.mem_iff_getElem?.1 (hS x hx.1)
        have : j ≤ i := by
          rcases Nat.lt_or_ge i j with q | q
          · exfalso
            have := (P.d x).2 ⟨j, x, q, hj, .inl rfl⟩
            rw [hx.2] at this; cases this
          · exact q
        exact List.mem_iff_getElem?.2 ⟨j, by rw [List.getElem?_take_of_lt (by omega)]; exact hj⟩) (fun x hx => hx.1) q
      rcases hb with rfl | hb
      · exact .inl rfl
      · exact .inr ⟨q.sub fun x hx => hx.1, hb⟩
  · rintro (rfl | ⟨a, b⟩)
    · exact .inl rfl
    · refine .inr ((a.same b).sub fun x hx => ⟨hx.1, ?_⟩)
      cases q : hasN D x with
      | false => rfl
      | true =>
        obtain ⟨j, r, h1, h2, h3⟩ := (P.d x).1 q
        have := (P.d v).2 ⟨j, r, h1, h2, hx.2.symm.trans h3⟩
        rw [h] at this; cases this
theorem P3.new (P : P3 E S n O (i + 1) D C) {v : Nat} (hv : O[i]? = some v) (hSv : S v) (h : hasN D v = false) {C' : List Int} (dl : D'.length = n) (cl : C'.length = n)
    (hD : ∀ u, hasN D' u = true ↔ hasN D u = true ∨ Same E S u v)
    (hC1 : ∀ u, u < n → Same E S u v → Way E S v v → C'[u]? = some (v : Int)) (hC2 : ∀ u, u < n → ¬ (Same E S u v ∧ Way E S v v) → C'[u]? = C[u]?) (hn : ∀ u, S u → u < n) : P3 E S n O i D' C' := by
  have sn : ∀ u w, Way E S u u → Same E S u w → w < n := fun u w hw hs => by
    rcases hs with rfl | ⟨a, _⟩
    · exact hn _ hw.fst
    · exact hn _ a.lst
  refine ⟨dl, cl, fun u => ?_, fun w hw hl => ?_, fun w hw hl => ?_⟩
  · rw [hD, P.d]
    constructor
    · rintro (⟨j, r, h1, h2, h3⟩ | q)
      · exact ⟨j, r, by omega, h2, h3⟩
      · exact ⟨i, v, Nat.le_refl _, hv, q⟩
    · rintro ⟨j, r, h1, h2, h3⟩
      by_cases e : j = i
      · subst e; rw [hv] at h2; cases h2; exact .inr h3
      · exact .inl ⟨j, r, by omega, h2, h3⟩
  · by_cases q : Same E S w v
    · have hvv : Way E S v v := q.symm.loop hl
      refine ⟨v, ?_, hSv, q, fun w' hw' => ?_⟩
      · exact hC1 w (hn _ hl.fst) q hvv
      · exact hC1 w' (sn _ _ hl hw') (hw'.symm.trans q) hvv
    · rcases (hD w).1 hw with z | z
      · obtain ⟨r, g1, g2, g3, g4⟩ := P.yes w z hl
        refine ⟨r, ?_, g2, g3, fun w' hw' => ?_⟩
        · rw [hC2 w (hn _ hl.fst) fun z => q z.1]; exact g1
        · rw [hC2 w' (sn _ _ hl hw') fun z => q (hw'.trans z.1)]; exact g4 w' hw'
      · exact absurd z q
  · by_cases q : Same E S w v
    · have hvv : ¬ Way E S v v := fun z => hl ⟨(hD w).2 (.inr q), q.loop z⟩
      rw [hC2 w hw fun z => hvv z.2]
      refine P.no w hw fun z => hvv (q.symm.loop z.2)
    · rw [hC2 w hw fun z => q z.1]
      exact P.no w hw fun z => hl ⟨(hD w).2 (.inl z.1), z.2⟩
end

/-! ### Going along -/
section
variable {E : Nat → Nat → Prop} {S : Nat → Prop} {nx : Nat → Nat → Option Nat} {O : List Nat} {B : Nat → Nat}
theorem Dfs.seeAt {K1 K2 : List (Nat × Nat)} {v a : Nat} (D : Dfs E S nx O (K1 ++ (v, a) :: K2) B) (h : ∀ y, nx v a = some y → S y → y ∈ O ∨ y ∈ (K1 ++ (v, a) :: K2).map Prod.fst) : Dfs E S nx O (K1 ++ (v, a + 1) :: K2) B := by
  have km : (K1 ++ (v, a + 1) :: K2).map Prod.fst = (K1 ++ (v, a) :: K2).map Prod.fst := by simp
  have kl : (K1 ++ (v, a + 1) :: K2).length = (K1 ++ (v, a) :: K2).length := by simp
  have ge : ∀ (k : Nat) (p : Nat × Nat), (K1 ++ (v, a + 1) :: K2)[k]? = some p → ∃ p', (K1 ++ (v, a) :: K2)[k]? = some p' ∧ p'.1 = p.1 := by
    intro k p hk
    have h1 : ((K1 ++ (v, a + 1) :: K2).map Prod.fst)[k]? = some p.1 := by rw [List.getElem?_map, hk]; rfl
    rw [km, List.getElem?_map] at h1
    cases q : (K1 ++ (v, a) :: K2)[k]? with
    | none => rw [q] at h1; cases h1
    | some p' => rw [q] at h1; exact ⟨p', rfl, Option.some.inj h1⟩
  have vin : (v, a) ∈ K1 ++ (v, a) :: K2 := by simp
  have mem : ∀ p ∈ K1 ++ (v, a + 1) :: K2, p ∈ K1 ++ (v, a) :: K2 ∨ p = (v, a + 1) := by
    intro p hp
    rcases List.mem_append.1 hp with q | q
    · exact .inl (List.mem_append_left _ q)
    · rcases List.mem_cons.1 q with q | q
      · exact .inr q
      · exact .inl (List.mem_append_right _ (List.mem_cons_of_mem _ q))
  refine ⟨D.ord, by rw [km]; exact D.nd, fun p hp => ?_, fun k hk => D.ble k (by rw [← kl]; exact hk), fun k p j x hk hb hj => ?_, fun k j x y hk hj hx hy e => ?_, fun k k' p p' hkk hk hk' => ?_, by rw [km]; exact D.bl, fun p hp i y hi hy hs => ?_⟩
  · rcases mem p hp with q | q
    · exact D.ins p q
    · subst q; exact D.ins (v, a) vin
  · obtain ⟨p', h1, h2⟩ := ge k p hk
    rw [← h2]; exact D.to k p' j x h1 hb hj
  · rw [km]; exact D.cl k j x y (by rw [← kl]; exact hk) hj hx hy e
  · obtain ⟨q, h1, h2⟩ := ge k p hk
    obtain ⟨q', h3, h4⟩ := ge k' p' hk'
    rw [← h2, ← h4]; exact D.ch k k' q q' hkk h1 h3
  · rw [km]
    rcases mem p hp with q | q
    · exact D.at_ p q i y hi hy hs
    · subst q
      by_cases z : i = a
      · subst z; exact h y hy hs
      · exact D.at_ (v, a) vin i y (by simp at hi; simp; omega) hy hs
end

structure DI (next : List (List Int)) (a R : List Bool) (O : List Nat) (K : List (Nat × Nat)) : Prop where
  dfs : ∃ B, Dfs (kE next) (kS next a) (kX next) O K B
  len : R.length = next.length
  r : ∀ v, hasN R v = true ↔ v ∈ O ∨ v ∈ K.map Prod.fst

section
variable {next : List (List Int)} {a R : List Bool} {O : List Nat} {K : List (Nat × Nat)}
theorem kX_lt {v i : Nat} (hv : v < next.length) (hi : i < next[v].length) (ok : BigOk next) {w : Nat} (hw : next[v][i] = (w : Int)) : kX next v i = some w := by
  unfold kX; simp [hv, hi, hw]
theorem DI.init (hR : R = List.replicate next.length false) : DI next a R [] [] := by
  subst hR
  refine ⟨⟨fun _ => 0, Dfs.init⟩, by simp, fun v => ?_⟩
  have : hasN (List.replicate next.length false) v = false := by simp [hasN, List.getElem?_replicate]; split <;> simp
  rw [this]; simp
theorem DI.push (I : DI next a R O K) {v : Nat} (hv : kS next a v) (hn : hasN R v = false) (hc : ∀ p, K.getLast? = some p → kE next p.1 v) : DI next a (R.set v true) O (K ++ [(v, 0)]) := by
  obtain ⟨B, D⟩ := I.dfs
  have hnot : v ∉ O ∧ v ∉ K.map Prod.fst := by
    constructor <;> intro q
    · have := (I.r v).2 (.inl q); rw [hn] at this; cases this
    · have := (I.r v).2 (.inr q); rw [hn] at this; cases this
  refine ⟨⟨_, D.push hv hnot hc⟩, by rw [List.length_set]; exact I.len, fun u => ?_⟩
  rw [hasN_set R v u (by rw [I.len]; exact hv.1)]
  by_cases e : u = v
  · subst e; simp
  · rw [if_neg e, I.r]; simp [e]
theorem DI.see {v i : Nat} (I : DI next a R O (K ++ [(v, i)])) (ok : BigOk next) (hv : v < next.length) (hi : i < next[v].length) {w : Nat} (hw : next[v][i] = (w : Int)) (h : kS next a w → hasN R w = true) : DI next a R O (K ++ [(v, i + 1)]) := by
  obtain ⟨B, D⟩ := I.dfs
  refine ⟨⟨B, D.seeAt (K2 := []) fun y hy hs => ?_⟩, I.len, fun u => ?_⟩
  · rw [kX_lt hv hi ok hw] at hy
    cases hy
    exact (I.r w).1 (h hs)
  · rw [I.r]; simp
theorem DI.seePush {v i : Nat} (I : DI next a R O (K ++ [(v, i)])) (ok : BigOk next) (hv : v < next.length) (hi : i < next[v].length) {w : Nat} (hw : next[v][i] = (w : Int)) (hs : kS next a w) (hn : hasN R w = false) : DI next a (R.set w true) O (K ++ [(v, i + 1)] ++ [(w, 0)]) := by
  have I' := I.push hs hn fun p hp => by
    simp at hp; subst hp
    refine ⟨hv, ?_⟩
    rw [← hw]; simp [hv]
  obtain ⟨B, D⟩ := I'.dfs
  rw [show K ++ [(v, i)] ++ [(w, 0)] = K ++ (v, i) :: [(w, 0)] by simp] at D
  rw [show K ++ [(v, i + 1)] ++ [(w, 0)] = K ++ (v, i + 1) :: [(w, 0)] by simp]
  refine ⟨⟨B, D.seeAt fun y hy hs' => ?_⟩, I'.len, fun u => ?_⟩
  · rw [kX_lt hv hi ok hw] at hy
    cases hy
    exact .inr (by simp)
  · rw [I'.r]; simp
theorem DI.leave {v i : Nat} (I : DI next a R O (K ++ [(v, i)])) (ok : BigOk next) (hv : v < next.length) (hi : i = next[v].length) : DI next a R (O ++ [v]) K := by
  obtain ⟨B, D⟩ := I.dfs
  refine ⟨⟨B, D.leave fun y hy he => ?_⟩, I.len, fun u => ?_⟩
  · have := he.2
    rw [show next.getD v [] = next[v] by simp [hv]] at this
    obtain ⟨j, hj, e⟩ := List.mem_iff_getElem.1 this
    exact ⟨j, by omega, kX_lt hv hj ok e⟩
  · rw [I.r]; simp only [List.map_append, List.map_cons, List.map_nil, List.mem_append, List.mem_singleton]
    constructor
    · rintro (q | q | q)
      · exact .inl (.inl q)
      · exact .inr q
      · exact .inl (.inr q)
    · rintro ((q | q) | q)
      · exact .inl q
      · exact .inr (.inr q)
      · exact .inr (.inl q)
theorem DI.ord (I : DI next a R O []) : Ord (kE next) (kS next a) O := by obtain ⟨B, D⟩ := I.dfs; exact D.ord
theorem DI.lt (I : DI next a R O K) {v : Nat} (h : v ∈ O ∨ v ∈ K.map Prod.fst) : v < next.length := by
  have := (I.r v).2 h
  rcases Nat.lt_or_ge v R.length with q | q
  · rw [← I.len]; exact q
  · simp [hasN, List.getElem?_eq_none q] at this
theorem nodup_lt_len : ∀ {n : Nat} {l : List Nat}, l.Nodup → (∀ x ∈ l, x < n) → l.length ≤ n
  | 0, [], _, _ => Nat.le_refl _
  | 0, x :: l, _, h => by have := h x (by simp); omega
  | n + 1, l, hn, h => by
    have h1 := nodup_lt_len (n := n) (l := l.erase n) (hn.erase n) (fun x hx => by
      have hx' := List.mem_of_mem_erase hx
      have := h x hx'
      have : x ≠ n := by rintro rfl; exact (List.Nodup.mem_erase_iff hn).1 hx |>.1 rfl
      omega)
    have : l.length ≤ (l.erase n).length + 1 := by rw [List.length_erase]; split <;> omega
    omega
theorem DI.few (I : DI next a R O K) : O.length + K.length ≤ next.length := by
  obtain ⟨B, D⟩ := I.dfs
  have := nodup_lt_len (n := next.length) D.nd fun x hx => I.lt (List.mem_append.1 hx)
  simpa using this

/-! ### Going back -/
structure Bf (next : List (List Int)) (a D0 : List Bool) (v : Nat) (D : List Bool) (L : List Nat) : Prop where
  len : D.length = next.length
  nd : L.Nodup
  h0 : L[0]? = some v
  mem : ∀ u ∈ L, u = v ∨ Way (kE next) (fun x => kS next a x ∧ hasN D0 x = false) u v
  d : ∀ u, hasN D u = true ↔ hasN D0 u = true ∨ u ∈ L
  s : ∀ u ∈ L, kS next a u
  old : ∀ u ∈ L, hasN D0 u = false
variable {D0 D : List Bool} {v : Nat} {L : List Nat}
theorem Bf.init (hl : D0.length = next.length) (hv : kS next a v) (hd : hasN D0 v = false) : Bf next a D0 v (D0.set v true) [v] := by
  refine ⟨by simp [hl], by simp, rfl, fun u hu => .inl (by simpa using hu), fun u => ?_, fun u hu => by simp at hu; subst hu; exact hv, fun u hu => by simp at hu; subst hu; exact hd⟩
  rw [hasN_set D0 v u (by rw [hl]; exact hv.1)]
  by_cases e : u = v
  · subst e; simp
  · simp [e]
theorem Bf.add (I : Bf next a D0 v D L) {x w : Nat} (hx : x ∈ L) (he : kE next w x) (hs : kS next a w) (hd : hasN D w = false) : Bf next a D0 v (D.set w true) (L ++ [w]) := by
  have hd0 : hasN D0 w = false := by
    cases q : hasN D0 w with
    | false => rfl
    | true => have := (I.d w).2 (.inl q); rw [hd] at this; cases this
  have hnl : w ∉ L := fun q => by have := (I.d w).2 (.inr q); rw [hd] at this; cases this
  refine ⟨by simp [I.len], ?_, ?_, fun u hu => ?_, fun u => ?_, fun u hu => ?_, fun u hu => ?_⟩
  · rw [List.nodup_append]
    refine ⟨I.nd, by simp, fun p hp q hq => ?_⟩
    simp at hq; subst hq
    rintro rfl; exact hnl hp
  · have h0 := I.h0
    have : 0 < L.length := (List.getElem?_eq_some_iff.1 h0).1
    rw [List.getElem?_append_left this]; exact h0
  · rcases List.mem_append.1 hu with q | q
    · exact I.mem u q
    · simp at q; subst q
      rcases I.mem x hx with rfl | z
      · exact .inr (.one ⟨hs, hd0⟩ ⟨I.s x hx, I.old x hx⟩ he)
      · exact .inr (.cons ⟨hs, hd0⟩ he z)
  · rw [hasN_set D w u (by rw [I.len]; exact hs.1)]
    by_cases e : u = w
    · subst e; simp
    · simp [e, I.d]
  · rcases List.mem_append.1 hu with q | q
    · exact I.s u q
    · simp at q; subst q; exact hs
  · rcases List.mem_append.1 hu with q | q
    · exact I.old u q
    · simp at q; subst q; exact hd0
theorem Bf.done (I : Bf next a D0 v D L) (h : ∀ x ∈ L, ∀ u, kE next u x → kS next a u → hasN D u = true) (u : Nat) : u ∈ L ↔ (u = v ∨ Way (kE next) (fun x => kS next a x ∧ hasN D0 x = false) u v) := by
  constructor
  · exact I.mem u
  · have vin : v ∈ L := List.mem_of_getElem? I.h0
    rintro (rfl | q)
    · exact vin
    · have step : ∀ p x, (kS next a p ∧ hasN D0 p = false) → kE next p x → x ∈ L → p ∈ L := fun p x hp he hx => by
        rcases (I.d p).1 (h x hx p he hp.1) with z | z
        · rw [hp.2] at z; cases z
        · exact z
      have key : ∀ p y, Way (kE next) (fun x => kS next a x ∧ hasN D0 x = false) p y → y ∈ L → p ∈ L := by
        intro p y w
        induction w with
        | one hu hv e => exact fun q => step _ _ hu e q
        | cons hu e _ ih => exact fun q => step _ _ hu e (ih q)
      exact key u v q vin
theorem Bf.few (I : Bf next a D0 v D L) : L.length ≤ next.length := nodup_lt_len I.nd fun x hx => (I.s x hx).1
/-- Does one come round? -/
theorem Bf.loop (I : Bf next a D0 v D L) (h : ∀ u, u ∈ L ↔ Same (kE next) (kS next a) u v) : Way (kE next) (kS next a) v v ↔ (1 < L.length ∨ kE next v v) := by
  have hv : kS next a v := I.s v (List.mem_of_getElem? I.h0)
  constructor
  · intro w
    cases w with
    | one hu hv e => exact .inr e
    | @cons _ x _ hu e k =>
      by_cases q : x = v
      · subst q; exact .inr e
      · left
        have hx : x ∈ L := (h x).2 (.inr ⟨k, .one hv k.fst e⟩)
        have vin : v ∈ L := List.mem_of_getElem? I.h0
        match L, hx, vin with
        | [p], hx, vin => simp at hx vin; exact absurd (hx.trans vin.symm) q
        | p :: p' :: l, _, _ => simp
  · rintro (w | w)
    · have h1 : L[1]? = some L[1] := List.getElem?_eq_getElem w
      have hm : L[1] ∈ L := List.getElem_mem w
      rcases (h _).1 hm with q | ⟨q1, q2⟩
      · exfalso
        have h0 := I.h0
        have e := (List.getElem?_inj (i := 0) (j := 1) (by omega) I.nd).1 (by rw [h0, h1, q])
        omega
      · exact q2.trans q1
    · exact .one hv hv w
end
end Go.Par
