/- Operations that leave all objects as they are: they run as told. -/
import Derived.Test.YtlpfokngocdanaaMaB
namespace Go.Par

theorem loadA_val {Θ : Types} {t : TypeId} {cs : List AV} {k : AV → Prop} (H : loadA Θ t cs k) : ∃ v, k v ∧ loadA Θ t cs (fun u => u = v) := by
  unfold loadA at H ⊢
  repeat' (split at H)
  all_goals first
    | exact H.elim
    | exact ⟨_, H.2, by simp_all⟩
    | exact ⟨_, H, by simp_all⟩

theorem binA_val {Θ : Types} {op : BinOp} {t : TypeId} {x y : AV} {k : AV → Prop} (H : binA Θ op t x y k) : ∃ v, k v ∧ binA Θ op t x y (fun u => u = v) := by
  unfold binA at H ⊢
  split at H
  · obtain ⟨e, H⟩ := H
    split at H
    all_goals first
      | exact H.elim
      | exact ⟨_, H, e, rfl⟩
      | exact ⟨_, H.2, e, H.1, rfl⟩
  all_goals first
    | exact H.elim
    | (repeat' (split at H)) <;> first | exact H.elim | exact ⟨_, H, by simp_all⟩

theorem callA_val {P : Program} {f : AV} {args : List AV} {k : AV → Prop} (H : callA P f args k) : ∃ v, k v ∧ callA P f args (fun u => u = v) := by
  unfold callA at H ⊢
  split at H
  · obtain ⟨r, hr, hk⟩ := H
    exact ⟨r, hk, r, hr, rfl⟩
  · obtain ⟨r, hr, hk⟩ := H
    exact ⟨r, hk, r, hr, rfl⟩
  · exact H.elim

theorem pOp_val {P : Program} {Θ : Types} {ρ : Operand → AV} {h : Heap} {o : Op} {k : AV → Prop} (H : pOp P Θ ρ h o k) : ∃ v, k v ∧ pOp P Θ ρ h o (fun u => u = v) := by
  cases o with
  | move x => exact ⟨_, H, rfl⟩
  | assign x => exact ⟨_, H, rfl⟩
  | pick c a b =>
    simp only [pOp] at H ⊢
    split at H
    · exact ⟨_, H, rfl⟩
    · exact H.elim
  | box t x => exact ⟨_, H.2, H.1, rfl⟩
  | alloc t =>
    simp only [pOp] at H ⊢
    split at H
    · exact ⟨_, H.2, H.1, rfl⟩
    · exact H.elim
  | build t ps =>
    simp only [pOp] at H ⊢
    split at H
    · split at H
      · exact ⟨_, H.2, by simp_all⟩
      · exact H.elim
    · split at H
      · split at H
        · exact ⟨_, H.2, by simp_all⟩
        · exact H.elim
      · exact H.elim
    · exact H.elim
  | index t x i =>
    simp only [pOp] at H ⊢
    split at H
    · split at H
      · obtain ⟨h1, h2⟩ := H
        obtain ⟨v, g1, g2⟩ := loadA_val h2
        exact ⟨v, g1, h1, g2⟩
      · exact H.elim
    · exact H.elim
  | buildSlice t n ps =>
    simp only [pOp] at H ⊢
    split at H
    · split at H
      · obtain ⟨h1, h2, h3, h4⟩ := H
        exact ⟨_, h4, h1, h2, h3, rfl⟩
      · exact H.elim
    · exact H.elim
  | load t x =>
    simp only [pOp] at H ⊢
    split at H
    · exact loadA_val H
    · split at H
      · exact loadA_val H
      · exact H.elim
    · exact H.elim
  | binOp op t x y u => exact binA_val H
  | unOp op t x =>
    simp only [pOp] at H ⊢
    split at H
    · exact ⟨_, H, by simp_all⟩
    · exact ⟨_, H, by simp_all⟩
    · exact H.elim
  | convert s d x =>
    simp only [pOp] at H ⊢
    split at H
    · exact ⟨_, H, by simp_all⟩
    · exact H.elim
  | makeFunc f a c =>
    cases f with
    | func f =>
      simp only [pOp] at H ⊢
      split at H
      · exact ⟨_, H, by simp_all⟩
      · split at H
        · exact ⟨_, H, by simp_all⟩
        · exact H.elim
    | _ => exact H.elim
  | makeSlice t l c =>
    simp only [pOp] at H ⊢
    split at H
    · split at H
      · obtain ⟨h1, h2, h3, h4, h5, h6, h7⟩ := H
        exact ⟨_, h7, h1, h2, h3, h4, h5, h6, rfl⟩
      · exact H.elim
    · exact H.elim
  | slice t x lo hi mx =>
    simp only [pOp] at H ⊢
    split at H
    · split at H
      · split at H
        · exact H.elim
        · rename_i hmx
          simp only [hmx]
          split at H
          · exact ⟨_, H, rfl⟩
          · exact ⟨_, H.2.2.2, H.1, H.2.1, H.2.2.1, rfl⟩
          · exact ⟨_, H.2.2.2, H.1, H.2.1, H.2.2.1, rfl⟩
          · exact ⟨_, H.2.2.2.2, H.1, H.2.1, H.2.2.1, H.2.2.2.1, rfl⟩
          · exact ⟨_, H.2.2.2, H.1, H.2.1, H.2.2.1, rfl⟩
          · exact H.elim
      · exact H.elim
    · exact H.elim
  | fieldAddr t x f =>
    simp only [pOp] at H ⊢
    split at H
    · split at H
      · obtain ⟨h1, H⟩ := H
        split at H
        · exact ⟨_, H, h1, rfl⟩
        · exact ⟨_, H, h1, rfl⟩
        · exact H.elim
      · exact H.elim
    · exact H.elim
  | field t x f =>
    simp only [pOp] at H ⊢
    split at H
    · split at H
      · exact loadA_val H
      · exact H.elim
    · exact H.elim
  | indexAddr t x i =>
    simp only [pOp] at H ⊢
    split at H
    · split at H
      · exact ⟨_, H.2.2, H.1, H.2.1, rfl⟩
      · exact H.elim
    · split at H
      · exact ⟨_, H.2, H.1, rfl⟩
      · exact H.elim
    · split at H
      · exact ⟨_, H.2, H.1, rfl⟩
      · exact H.elim
    · split at H
      · exact ⟨_, H.2, H.1, rfl⟩
      · exact H.elim
    · exact H.elim
  | makeInterface t x => exact ⟨_, H.2, H.1, rfl⟩
  | typeAssert x xT t c =>
    simp only [pOp] at H ⊢
    split at H
    · exact ⟨_, H.2, H.1, rfl⟩
    · exact H.elim
  | nilCheck x =>
    simp only [pOp] at H ⊢
    split at H
    · exact ⟨_, H, rfl⟩
    · exact ⟨_, H, rfl⟩
    · exact ⟨_, H, rfl⟩
    · exact H.elim
  | extract x i =>
    simp only [pOp] at H ⊢
    split at H
    · split at H
      · exact ⟨_, H, by simp_all⟩
      · exact H.elim
    · exact H.elim
  | call c =>
    simp only [pOp] at H ⊢
    split at H
    · exact callA_val H
    · split at H
      · split at H
        · exact ⟨_, H, by simp_all⟩
        · exact H.elim
      · exact ⟨_, H.2, H.1, rfl⟩
      · exact ⟨_, H.2, H.1, rfl⟩
      · exact H.elim
    · exact H.elim
  | _ => exact H.elim

end Go.Par
