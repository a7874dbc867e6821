/- New objects, and objects that are written. -/
import Derived.Test.YtlpfokngocdanaaMaH
set_option linter.unusedSimpArgs false
namespace Go.Par

def bind1 (φ : Names) (n : Nat) (l : Loc) : Names := fun o => if o = n then some l else φ o

theorem Ext.bind1 {φ : Names} {n : Nat} (h : φ n = none) (l : Loc) : Ext φ (bind1 φ n l) := by
  intro o l' ho
  unfold Par.bind1
  by_cases e : o = n
  · subst e; rw [h] at ho; cases ho
  · rw [if_neg e]; exact ho

theorem bind1_same (φ : Names) (n : Nat) (l : Loc) : bind1 φ n l n = some l := by simp [bind1]
theorem bind1_ne (φ : Names) {n o : Nat} (l : Loc) (h : o ≠ n) : bind1 φ n l o = φ o := by simp [bind1, h]

/-- A name that nothing has. -/
def FreeN (φ : Names) (n : Nat) : Prop := φ n = none ∨ φ n = some .res

theorem ExtW.bind1 {φ : Names} {n : Nat} (h : FreeN φ n) (l : Loc) : ExtW φ (bind1 φ n l) := by
  intro o l' hl ho
  unfold Par.bind1
  by_cases e : o = n
  · subst e
    rcases h with h | h
    · rw [h] at ho; cases ho
    · rw [h] at ho; cases ho; exact absurd rfl hl
  · rw [if_neg e]; exact ho

/-- A name is given to what lies at 'l'. The world 'w'' is 'w' but for what lies there. -/
theorem HR.name {φ : Names} {w w' : World} {h : Heap} (H : HR φ w h) {n : Nat} (hφ : FreeN φ n) (hn : h n = none) {l : Loc} {x : Ob}
    (hl : ∀ b c, l = .blk b c → ¬ own φ h b)
    (hk : Keeps (own φ h) w (own (bind1 φ n l) (upd h n (some x))) w') (hold : ∀ b, own φ h b → w'.heap[b]? = w.heap[b]?)
    (hx : ObR (bind1 φ n l) (own (bind1 φ n l) (upd h n (some x))) w' x l) : HR (bind1 φ n l) w' (upd h n (some x)) := by
  refine ⟨fun o y hy => ?_, fun o o' b c c' h1 h2 e1 e2 => ?_, ?_⟩
  · by_cases e : o = n
    · subst e
      rw [upd_same] at hy
      cases hy
      exact ⟨l, bind1_same _ _ _, hx⟩
    · rw [upd_ne _ _ e] at hy
      obtain ⟨l', h1, h2⟩ := H.ob o y hy
      refine ⟨l', by rw [bind1_ne _ _ e]; exact h1, ?_⟩
      cases l' with
      | nil => exact h2
      | res => exact h2.elim
      | blk b cap =>
        obtain ⟨cur, k1, k2, k3, k4, k5⟩ := h2
        exact ⟨cur, (hold b ⟨o, cap, by simp [hy], h1⟩).trans k1, k2, k3, k4, fun j u hu => (k5 j u hu).monoW (ExtW.bind1 hφ l) hk⟩
  · by_cases e : o = n
    · by_cases e' : o' = n
      · rw [e, e']
      · subst e
        rw [bind1_same] at e1
        cases e1
        rw [bind1_ne _ _ e'] at e2
        rw [upd_ne _ _ e'] at h2
        exact absurd ⟨o', c', h2, e2⟩ (hl b c rfl)
    · by_cases e' : o' = n
      · subst e'
        rw [bind1_same] at e2
        cases e2
        rw [bind1_ne _ _ e] at e1
        rw [upd_ne _ _ e] at h1
        exact absurd ⟨o, c, h1, e1⟩ (hl b c' rfl)
      · rw [bind1_ne _ _ e] at e1
        rw [bind1_ne _ _ e'] at e2
        rw [upd_ne _ _ e] at h1
        rw [upd_ne _ _ e'] at h2
        exact H.inj o o' b c c' h1 h2 e1 e2
  · obtain ⟨N, hN⟩ := H.free
    refine ⟨max N (n + 1), fun o ho => ?_⟩
    rw [bind1_ne _ _ (by omega)]
    exact hN o (by omega)

theorem own_name {φ : Names} {h : Heap} {n : Nat} (hn : h n = none) {l : Loc} {x : Ob} {b : Nat} : own (bind1 φ n l) (upd h n (some x)) b ↔ own φ h b ∨ ∃ c, l = .blk b c := by
  constructor
  · rintro ⟨o, cap, h1, h2⟩
    by_cases e : o = n
    · subst e
      rw [bind1_same] at h2
      cases h2
      exact .inr ⟨cap, rfl⟩
    · rw [bind1_ne _ _ e] at h2
      rw [upd_ne _ _ e] at h1
      exact .inl ⟨o, cap, h1, h2⟩
  · rintro (⟨o, cap, h1, h2⟩ | ⟨c, rfl⟩)
    · have e : o ≠ n := by rintro rfl; simp [hn] at h1
      exact ⟨o, cap, by rw [upd_ne _ _ e]; exact h1, by rw [bind1_ne _ _ e]; exact h2⟩
    · exact ⟨n, c, by simp [upd_same], bind1_same _ _ _⟩

/-- A new block under a new name. -/
theorem HR.newW {φ : Names} {w w' : World} {h : Heap} (H : HR φ w h) {n : Nat} (hφ : FreeN φ n) (hn : h n = none) (x : Ob) (vs : Array Value) (cap : Nat)
    (hw : ∃ d, w' = ({ w with drawn := d } : World).alloc (.cells vs x.ty)) (hsz : vs.size = cap * x.sz) (hcap : cap ≤ maxLen) (hlen : x.cells.length ≤ vs.size)
    (hv : ∀ j u, x.cells[j]? = some u → VR φ (own φ h) w u (vs.getD j undef)) :
    HR (bind1 φ n (.blk w.heap.size cap)) w' (upd h n (some x)) ∧ Keeps (own φ h) w (own (bind1 φ n (.blk w.heap.size cap)) (upd h n (some x))) w' := by
  obtain ⟨d, rfl⟩ := hw
  have hold : ∀ b, b < w.heap.size → (({ w with drawn := d } : World).alloc (.cells vs x.ty)).heap[b]? = w.heap[b]? := fun b hb => RowKit.Below.heap_alloc _ _ b hb
  have hk : Keeps (own φ h) w (own (bind1 φ n (.blk w.heap.size cap)) (upd h n (some x))) (({ w with drawn := d } : World).alloc (.cells vs x.ty)) := by
    refine ⟨rfl, rfl, rfl, by simp, fun b hb hB => ⟨fun hq => ?_, hold b hb⟩⟩
    rcases (own_name hn).1 hq with hq | ⟨c, hq⟩
    · exact hB hq
    · cases hq; exact Nat.lt_irrefl _ hb
  refine ⟨H.name hφ hn (fun b c e => ?_) hk (fun b hb => hold b (H.own_lt hb)) ?_, hk⟩
  · cases e
    exact fun hb => Nat.lt_irrefl _ (H.own_lt hb)
  · exact ⟨vs, heap_alloc_new ({ w with drawn := d } : World) _, hsz, hcap, hlen, fun j u hu => (hv j u hu).monoW (ExtW.bind1 hφ _) hk⟩

theorem HR.new {φ : Names} {w w' : World} {h : Heap} (H : HR φ w h) {n : Nat} (hφ : φ n = none) (hn : h n = none) (x : Ob) (vs : Array Value) (cap : Nat)
    (hw : ∃ d, w' = ({ w with drawn := d } : World).alloc (.cells vs x.ty)) (hsz : vs.size = cap * x.sz) (hcap : cap ≤ maxLen) (hlen : x.cells.length ≤ vs.size)
    (hv : ∀ j u, x.cells[j]? = some u → VR φ (own φ h) w u (vs.getD j undef)) :
    HR (bind1 φ n (.blk w.heap.size cap)) w' (upd h n (some x)) ∧ Keeps (own φ h) w (own (bind1 φ n (.blk w.heap.size cap)) (upd h n (some x))) w' := H.newW (.inl hφ) hn x vs cap hw hsz hcap hlen hv

/-- An object's block is written. -/
theorem HR.write {φ : Names} {w : World} {h : Heap} (H : HR φ w h) {o : Nat} {x : Ob} (hx : h o = some x) {b cap : Nat} (hl : φ o = some (.blk b cap)) {cur cur' : Array Value}
    (hcur : w.heap[b]? = some (.cells cur x.ty (0, 0))) (hsz : cur'.size = cur.size) (hcs : cur.size = cap * x.sz) (hcap : cap ≤ maxLen) (cells : List AV) (hlen : cells.length ≤ cur.size) (nn : Bool)
    (hv : ∀ j u, cells[j]? = some u → VR φ (own φ h) w u (cur'.getD j undef)) :
    HR φ (w.setRow b cur') (upd h o (some ⟨cells, x.ty, x.sz, nn⟩)) ∧ Keeps (own φ h) w (own φ (upd h o (some ⟨cells, x.ty, x.sz, nn⟩))) (w.setRow b cur') := by
  have hown : ∀ b', own φ (upd h o (some ⟨cells, x.ty, x.sz, nn⟩)) b' ↔ own φ h b' := by
    intro b'
    constructor
    · rintro ⟨o', c, h1, h2⟩
      refine ⟨o', c, ?_, h2⟩
      by_cases e : o' = o
      · rw [e]; simp [hx]
      · rwa [upd_ne _ _ e] at h1
    · rintro ⟨o', c, h1, h2⟩
      refine ⟨o', c, ?_, h2⟩
      by_cases e : o' = o
      · rw [e]; simp [upd_same]
      · rwa [upd_ne _ _ e]
  have hob : own φ h b := ⟨o, cap, by simp [hx], hl⟩
  have hk : Keeps (own φ h) w (own φ (upd h o (some ⟨cells, x.ty, x.sz, nn⟩))) (w.setRow b cur') := by
    refine ⟨rfl, rfl, rfl, by simp, fun b' hb hB => ⟨fun q => hB ((hown b').1 q), ?_⟩⟩
    exact setRow_other w b b' cur' (fun e => hB (e ▸ hob))
  refine ⟨⟨fun o' y hy => ?_, fun o1 o2 b' c c' h1 h2 e1 e2 => ?_, H.free⟩, hk⟩
  · by_cases e : o' = o
    · subst e
      rw [upd_same] at hy
      cases hy
      exact ⟨_, hl, cur', setRow_heap w b cur cur' x.ty _ hcur, by rw [hsz, hcs], hcap, by rw [hsz]; exact hlen, fun j u hu => (hv j u hu).mono (Ext.refl φ) hk⟩
    · rw [upd_ne _ _ e] at hy
      obtain ⟨l', h1, h2⟩ := H.ob o' y hy
      refine ⟨l', h1, ?_⟩
      cases l' with
      | nil => exact h2
      | res => exact h2.elim
      | blk b' cap' =>
        obtain ⟨cur2, k1, k2, k3, k4, k5⟩ := h2
        have hne : b' ≠ b := fun eb => e (H.inj o' o b' cap' cap (by simp [hy]) (by simp [hx]) h1 (eb ▸ hl))
        exact ⟨cur2, (setRow_other w b b' cur' hne).trans k1, k2, k3, k4, fun j u hu => (k5 j u hu).mono (Ext.refl φ) hk⟩
  · have f : ∀ o', (upd h o (some ⟨cells, x.ty, x.sz, nn⟩) o').isSome = true → (h o').isSome = true := by
      intro o' ho
      by_cases e : o' = o
      · rw [e]; simp [hx]
      · rwa [upd_ne _ _ e] at ho
    exact H.inj o1 o2 b' c c' (f o1 h1) (f o2 h2) e1 e2

/-- Less is told. -/
theorem HR.less {φ : Names} {w : World} {h h' : Heap} (H : HR φ w h) (hs : ∀ o x, h' o = some x → h o = some x) : HR φ w h' ∧ ∀ b, own φ h' b → own φ h b := by
  have ho : ∀ b, own φ h' b → own φ h b := by
    rintro b ⟨o, c, h1, h2⟩
    obtain ⟨x, hx⟩ := Option.isSome_iff_exists.1 h1
    exact ⟨o, c, by simp [hs o x hx], h2⟩
  refine ⟨⟨fun o x hx => ?_, fun o o' b c c' h1 h2 => ?_, H.free⟩, ho⟩
  · obtain ⟨l, h1, h2⟩ := H.ob o x (hs o x hx)
    refine ⟨l, h1, ?_⟩
    cases l with
    | nil => exact h2
    | res => exact h2.elim
    | blk b cap =>
      obtain ⟨cur, k1, k2, k3, k4, k5⟩ := h2
      exact ⟨cur, k1, k2, k3, k4, fun j u hu => (k5 j u hu).weaken ho⟩
  · obtain ⟨x, hx⟩ := Option.isSome_iff_exists.1 h1
    obtain ⟨y, hy⟩ := Option.isSome_iff_exists.1 h2
    exact H.inj o o' b c c' (by simp [hs o x hx]) (by simp [hs o' y hy])

end Go.Par
