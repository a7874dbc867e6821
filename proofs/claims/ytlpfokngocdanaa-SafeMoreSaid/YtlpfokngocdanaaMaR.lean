/- Types, as a program's tables tell them. -/
import Derived.Test.YtlpfokngocdanaaMaQ
namespace Go.Par

theorem TD.mk' {P : Program} {t : TypeId} {d : TD} (h : (P.info? t).map (fun i => (i.size, i.bytes, i.zero)) = some (d.size, d.bytes, some d.zero)) (hs : d.sh.ok P t) : d.ok P t := by
  refine ⟨?_, hs⟩
  cases hi : P.info? t with
  | none => rw [hi] at h; cases h
  | some i =>
    rw [hi] at h
    simp only [Option.map_some, Option.some.injEq, Prod.mk.injEq] at h
    exact ⟨i, rfl, h.1, h.2.1, h.2.2⟩

theorem Sh.mkStruct {P : Program} {t : TypeId} {fs : List (Nat × Nat × TypeId)} (h : (match P.underlying t with | some (.struct l) => some (l.toList.map fun f => (f.offset, (P.info? f.type).map (·.size), f.type)) | _ => none) = some (fs.map fun f => (f.1, some f.2.1, f.2.2))) :
    (Sh.struct fs).ok P t := by
  split at h
  · rename_i l hl
    exact ⟨l, hl, by simpa using h⟩
  · cases h

theorem Sh.mkPrim {P : Program} {t : TypeId} (h : (P.underlying t).any (fun d => match d with | .struct _ | .array _ _ => false | _ => true) = true) : Sh.prim.ok P t := h
theorem Sh.mkBool {P : Program} {t : TypeId} (h : P.underlying t = some .bool) : Sh.bool.ok P t := h
theorem Sh.mkInt {P : Program} {t : TypeId} {k : IntKind} (h : P.underlying t = some (.int k)) : (Sh.int k).ok P t := h
theorem Sh.mkSlice {P : Program} {t e : TypeId} (h : P.underlying t = some (.slice e)) : (Sh.slice e).ok P t := h
theorem Sh.mkArr {P : Program} {t e : TypeId} {n : Nat} (h : P.underlying t = some (.array n e)) : (Sh.arr n e).ok P t := h

end Go.Par
