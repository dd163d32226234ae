/- Own layer: reading what the caller's memory holds. -/
import Derived.Test.YtdekaodgbpngmaaSLn
namespace Go.SL
open Go Go.RowKit
/-- Wherever the base stands, the cells from there on read so. -/
def BaseRd (β : Base) (b off : Nat) (vs : List Value) : Prop := ∀ (H : List HP) (w : World), Sat β H w → ∀ j v, vs[j]? = some v → w.cell? ⟨b, off + j, none⟩ = some v
theorem BaseRd.ofW {w : World} {b off : Nat} {vs : List Value} (h : ∀ j v, vs[j]? = some v → w.cell? ⟨b, off + j, none⟩ = some v) : BaseRd (Base.ofW w) b off vs := fun H w' s j v hj => by
  have h1 := h j v hj
  have hb := s.below
  unfold World.cell? at h1 ⊢
  have hlt : b < w.heap.size := by
    rcases Nat.lt_or_ge b w.heap.size with x | x
    · exact x
    · rw [Array.getElem?_eq_none x] at h1; cases h1
  obtain ⟨_, _, _, _, hk⟩ := hb
  have := hk b hlt
  simp only at h1 ⊢
  rw [this]
  exact h1
section
variable {C : Cx} {L : Env} {d : Option Tmp} {ty : TypeId} {pos : String} {af : Array Edge} {g : Option (Nat × Bool)} {c : HP}
theorem SIL.loadB {t : TypeId} {td : TypeDesc} {x : Operand} {b off : Nat} {v : Value} {vs : List Value} {j : Nat} (hu : C.P.underlying t = some td) (h : ev L x = some (.pointer (some ⟨b, off + j, none⟩))) (hr : BaseRd C.β b off vs) (hg : vs[j]? = some v) (hf : flat td = true := by rfl) :
    SIL C ⟨d, .load t x, ty, pos, af, g⟩ L c v := fun a w k s => by
  simp [execOp, k.eval h, Instr.loadAt, Instr.sureAddr, loadVar, run_isAgg_flat hu hf, hr _ w s j v hg]
theorem SIL.loadAB {t : TypeId} {td : TypeDesc} {x : Operand} {b off n : Nat} {vs : List Value} (hu : C.P.underlying t = some td) (hz : sizeIs C.P t n) (h : ev L x = some (.pointer (some ⟨b, off, none⟩))) (hr : BaseRd C.β b off vs) (hl : vs.length = n) (hf : flat td = false := by rfl) :
    SIL C ⟨d, .load t x, ty, pos, af, g⟩ L c (.agg ⟨vs⟩) := fun a w k s => by
  have := run_loadCells_list (P := C.P) w ⟨b, off, none⟩ vs (fun j v hj => by rw [addr_add]; exact hr _ w s j v hj)
  rw [hl] at this
  simp [execOp, k.eval h, Instr.loadAt, Instr.sureAddr, loadVar, run_isAgg_not hu hf, hz w, this]
end
end Go.SL
