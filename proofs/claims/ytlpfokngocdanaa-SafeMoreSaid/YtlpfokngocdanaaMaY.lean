/- Several objects, by name. -/
import Derived.Test.YtlpfokngocdanaaMaX
namespace Go.Par

/-- The memory with some objects more. -/
def HL (h0 : Heap) : List (Nat × Ob) → Heap
  | [] => h0
  | p :: l => upd (HL h0 l) p.1 (some p.2)

structure HN (h0 : Heap) (ns : List Nat) : Prop where
  nd : ns.Nodup
  free : ∀ o ∈ ns, h0 o = none

abbrev nms (l : List (Nat × Ob)) : List Nat := l.map Prod.fst

theorem HL.out {h0 : Heap} {x : Nat} : ∀ {l : List (Nat × Ob)}, x ∉ nms l → HL h0 l x = h0 x
  | [], _ => rfl
  | p :: l, h => by
    simp only [nms, List.map_cons, List.mem_cons, not_or] at h
    rw [HL, upd_ne _ _ h.1]
    exact HL.out h.2

theorem HL.at {h0 : Heap} {a : Nat} {A : Ob} : ∀ {l : List (Nat × Ob)} {k : Nat}, (nms l).Nodup → l[k]? = some (a, A) → HL h0 l a = some A
  | [], k, _, h => by simp at h
  | p :: l, 0, _, h => by
    simp at h; subst h
    rw [HL, upd_same]
  | p :: l, k + 1, N, h => by
    simp only [nms, List.map_cons, List.nodup_cons] at N
    have hm : a ∈ nms l := List.mem_map.2 ⟨(a, A), List.mem_of_getElem? (by simpa using h), rfl⟩
    have hne : a ≠ p.1 := by rintro rfl; exact N.1 hm
    rw [HL, upd_ne _ _ hne]
    exact HL.at N.2 (by simpa using h)

theorem HL.fresh {h0 : Heap} {x : Nat} : ∀ {l : List (Nat × Ob)}, HL h0 l x = none → x ∉ nms l ∧ h0 x = none
  | [], h => ⟨by simp, h⟩
  | p :: l, h => by
    by_cases e : x = p.1
    · subst e; rw [HL, upd_same] at h; cases h
    · rw [HL, upd_ne _ _ e] at h
      obtain ⟨h1, h2⟩ := HL.fresh h
      refine ⟨?_, h2⟩
      simp only [nms, List.map_cons, List.mem_cons, not_or]
      exact ⟨e, h1⟩

theorem HL.new {h0 : Heap} {l : List (Nat × Ob)} (N : HN h0 (nms l)) {a : Nat} (h : HL h0 l a = none) : HN h0 (a :: nms l) := by
  obtain ⟨h1, h2⟩ := HL.fresh h
  refine ⟨List.nodup_cons.2 ⟨h1, N.nd⟩, fun o ho => ?_⟩
  rcases List.mem_cons.1 ho with rfl | ho
  · exact h2
  · exact N.free o ho

/-- An object written. -/
theorem HL.put {h0 : Heap} {a : Nat} {A A' : Ob} : ∀ {l : List (Nat × Ob)} {k : Nat}, (nms l).Nodup → l[k]? = some (a, A) → upd (HL h0 l) a (some A') = HL h0 (l.set k (a, A'))
  | [], k, _, h => by simp at h
  | p :: l, 0, _, h => by
    simp at h; subst h
    simp only [HL, List.set_cons_zero, upd_upd]
  | p :: l, k + 1, N, h => by
    simp only [nms, List.map_cons, List.nodup_cons] at N
    have hm : a ∈ nms l := List.mem_map.2 ⟨(a, A), List.mem_of_getElem? (by simpa using h), rfl⟩
    have hne : p.1 ≠ a := by rintro rfl; exact N.1 hm
    simp only [HL, List.set_cons_succ]
    rw [upd_comm _ _ _ hne, HL.put N.2 (by simpa using h)]

/-- An object given up. -/
theorem HL.del {h0 : Heap} {a : Nat} {A : Ob} : ∀ {l : List (Nat × Ob)} {k : Nat}, HN h0 (nms l) → l[k]? = some (a, A) → upd (HL h0 l) a none = HL h0 (l.eraseIdx k)
  | [], k, _, h => by simp at h
  | p :: l, 0, N, h => by
    simp at h; subst h
    have h1 : a ∉ nms l := (List.nodup_cons.1 N.nd).1
    have h2 := N.free a (by simp)
    simp only [HL, List.eraseIdx_cons_zero, upd_upd]
    exact upd_none_id (by rw [HL.out h1]; exact h2)
  | p :: l, k + 1, N, h => by
    have N' := N.nd
    simp only [nms, List.map_cons, List.nodup_cons] at N'
    have hm : a ∈ nms l := List.mem_map.2 ⟨(a, A), List.mem_of_getElem? (by simpa using h), rfl⟩
    have hne : p.1 ≠ a := by rintro rfl; exact N'.1 hm
    simp only [HL, List.eraseIdx_cons_succ]
    rw [upd_comm _ _ _ hne, HL.del ⟨N'.2, fun o ho => N.free o (by simp [nms] at ho ⊢; exact .inr ho)⟩ (by simpa using h)]

theorem HN.del {h0 : Heap} {ns : List Nat} (N : HN h0 ns) (k : Nat) : HN h0 (ns.eraseIdx k) :=
  ⟨N.nd.sublist (List.eraseIdx_sublist _ _), fun o ho => N.free o ((List.eraseIdx_sublist _ _).subset ho)⟩

theorem nodup_set {α : Type} {a : α} : ∀ {l : List α}, l.Nodup → a ∉ l → ∀ k, (l.set k a).Nodup
  | [], _, _, k => by simp
  | b :: l, N, h, 0 => by
    rw [List.nodup_cons] at N
    simp only [List.mem_cons, not_or] at h
    rw [List.set_cons_zero, List.nodup_cons]
    exact ⟨h.2, N.2⟩
  | b :: l, N, h, k + 1 => by
    rw [List.nodup_cons] at N
    simp only [List.mem_cons, not_or] at h
    rw [List.set_cons_succ, List.nodup_cons]
    refine ⟨fun hm => ?_, nodup_set N.2 h.2 k⟩
    rcases List.mem_or_eq_of_mem_set hm with q | q
    · exact N.1 q
    · exact h.1 q.symm

/-- An object told anew, under a new name. -/
theorem HL.ren {h0 : Heap} {a a' : Nat} {A A' : Ob} {l : List (Nat × Ob)} {k : Nat} (N : HN h0 (nms l)) (h : l[k]? = some (a, A)) (hf : HL h0 l a' = none) :
    upd (upd (HL h0 l) a none) a' (some A') = HL h0 (l.set k (a', A')) ∧ HN h0 (nms (l.set k (a', A'))) := by
  obtain ⟨f1, f2⟩ := HL.fresh hf
  have hk : k < l.length := (List.getElem?_eq_some_iff.1 h).1
  have N' : HN h0 (nms (l.set k (a', A'))) := by
    have e : nms (l.set k (a', A')) = (nms l).set k a' := by simp [nms, List.map_set]
    rw [e]
    refine ⟨?_, fun o ho => ?_⟩
    · exact nodup_set N.nd f1 k
    · rcases List.mem_or_eq_of_mem_set ho with ho | rfl
      · exact N.free o ho
      · exact f2
  refine ⟨?_, N'⟩
  have hget : (l.set k (a', A'))[k]? = some (a', A') := List.getElem?_set_self hk
  have d := HL.del (h0 := h0) N' hget
  have d0 := HL.del (h0 := h0) N h
  have e1 : (l.set k (a', A')).eraseIdx k = l.eraseIdx k := by
    apply List.ext_getElem?
    intro i
    simp only [List.getElem?_eraseIdx]
    split
    · rw [List.getElem?_set_ne (by omega)]
    · rw [List.getElem?_set_ne (by omega)]
  rw [d0, ← e1, ← d, upd_upd]
  funext x
  by_cases e : x = a'
  · subst e; rw [upd_same]; exact (HL.at N'.nd hget).symm
  · rw [upd_ne _ _ e]

theorem HL.sub {h0 : Heap} {l : List (Nat × Ob)} (N : HN h0 (nms l)) : subH h0 (HL h0 l) := by
  intro o x hx
  rw [HL.out]
  · exact hx
  · intro hm
    rw [N.free o hm] at hx; cases hx

end Go.Par
