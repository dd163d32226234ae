/- Own layer: '==' of other kinds. -/
import Derived.Test.YtdekaodgbpngmaaSLm
import Derived.Laws.StructEq
namespace Go.SL
open Go Go.RowKit
/-- What '==' answers, at any depth from k on. -/
def EQV (P : Program) (k : Nat) (t : TypeId) (a b : Value) (r : Bool) : Prop := ∀ (d : Nat) (w : World), (Op.equalIn (d + k + 1) t a b).run P w = .ok r w
section
variable {P : Program} {k : Nat} {t : TypeId}
theorem EQV.int {q q' : IntKind} {m n : Int} (hu : P.underlying t = some (.int q)) : EQV P k t (.int q' m) (.int q' n) (decide (m = n)) := fun d w => by
  simp [Op.equalIn, run_underlying' hu]
  rfl
theorem EQV.bool {m n : Bool} (hu : P.underlying t = some .bool) : EQV P k t (.bool m) (.bool n) (decide (m = n)) := fun d w => by
  simp [Op.equalIn, run_underlying' hu]
  cases m <;> cases n <;> rfl
theorem EQV.str {m n : ByteArray} (hu : P.underlying t = some .string) : EQV P k t (.string m) (.string n) (decide (m = n)) := fun d w => by
  simp only [Op.equalIn, Sem.run_bind, run_underlying' hu, Result.andThen_ok, Sem.run_pure, bbeq]
theorem EQV.pnil {e : TypeId} {a : Option Addr} (hu : P.underlying t = some (.pointer e)) : EQV P k t (.pointer a) (.pointer none) a.isNone := fun d w => by
  cases a <;> simp [Op.equalIn, run_underlying' hu]
theorem EQV.nilp {e : TypeId} {a : Option Addr} (hu : P.underlying t = some (.pointer e)) : EQV P k t (.pointer none) (.pointer a) a.isNone := fun d w => by
  cases a <;> simp [Op.equalIn, run_underlying' hu]
theorem EQV.mnil {kt e : TypeId} {a : Option Nat} (hu : P.underlying t = some (.map kt e)) : EQV P k t (.map a) (.map none) a.isNone := fun d w => by
  cases a <;> simp [Op.equalIn, run_underlying' hu]
theorem EQV.snil {e : TypeId} {a : Option Addr} {n c n' c' : Nat} (hu : P.underlying t = some (.slice e)) : EQV P k t (.slice a n c) (.slice none n' c') a.isNone := fun d w => by
  cases a <;> simp [Op.equalIn, run_underlying' hu]
inductive EQF (P : Program) (k : Nat) (xs ys : List Value) : List Field → Bool → Prop
  | n : EQF P k xs ys [] true
  | c {fd : Field} {fs : List Field} {td : TypeDesc} {a b : Value} {r s : Bool} : (fd.name == "_") = false → P.underlying fd.type = some td → flat td = true → gt xs fd.offset = some a → gt ys fd.offset = some b → EQV P k fd.type a b r → EQF P k xs ys fs s → EQF P k xs ys (fd :: fs) (r && s)
theorem EQF.run {xs ys : List Value} {fs : List Field} {r : Bool} (h : EQF P k xs ys fs r) (d : Nat) (w : World) : (Op.eqFields (d + k + 1) ⟨xs⟩ ⟨ys⟩ fs).run P w = .ok r w := by
  induction h with
  | n => simp [Op.eqFields]
  | @c fd fs td a b r s hn hft hfl ha hb he _ ih =>
    rw [gt_eq] at ha hb
    have hn' : fd.name ≠ "_" := by simpa using hn
    rw [Op.eqFields]
    simp only [if_pos hn', Sem.run_bind, part, run_isAgg_flat hft hfl, Result.andThen_ok]
    simp [ha, hb, he d w]
    cases r
    · simp
    · simpa using ih
theorem EQV.struct {fs : List Field} {xs ys : List Value} {r : Bool} (hu : P.underlying t = some (.struct ⟨fs⟩)) (hp : P.stoodInHeld t = false) (h : EQF P k xs ys fs r) : EQV P (k + 1) t (.agg ⟨xs⟩) (.agg ⟨ys⟩) r := fun d w => by
  have hf : P.fieldsOf t = ⟨fs⟩ := by simp [Program.fieldsOf, hu]
  rw [show d + (k + 1) + 1 = (d + k + 1) + 1 by omega, run_equalIn_struct (P := P) w (d + k + 1) t ⟨xs⟩ ⟨ys⟩ (by rw [hf]; exact hu) hp, hf]
  exact h.run d w
end
section
variable {C : Cx} {L : Env} {c : HP} {d : Tmp} {ty : TypeId} {pos : String} {af : Array Edge} {g : Option (Nat × Bool)}
theorem EQV.equal {P : Program} {k : Nat} {t : TypeId} {a b : Value} {r : Bool} (h : EQV P k t a b r) (hk : k ≤ 9999) (w : World) : (Op.equal t a b).run P w = .ok r w := by
  have := h (9999 - k) w
  rw [show 9999 - k + k + 1 = 10000 by omega] at this
  exact this
theorem SIL.eqP {x y : Operand} {t t' e : TypeId} {a : Option Addr} {b : Option Addr} {r : Bool} (hu : C.P.underlying t = some (.pointer e)) (hx : ev L x = some (.pointer a)) (hy : ev L y = some (.pointer b)) (h : EQV C.P 0 t (.pointer a) (.pointer b) r) : SIL C ⟨d, .binOp .eql t x y t', ty, pos, af, g⟩ L c (.bool r) := fun a w k _ => by
  have _ := hu
  simp [execOp, k.eval hx, k.eval hy, eqGuard, binOp, h.equal (by omega)]
theorem SIL.nePt {x y : Operand} {t t' e : TypeId} {a : Option Addr} {b : Option Addr} {r : Bool} (hu : C.P.underlying t = some (.pointer e)) (hx : ev L x = some (.pointer a)) (hy : ev L y = some (.pointer b)) (h : EQV C.P 0 t (.pointer a) (.pointer b) r) : SIL C ⟨d, .binOp .neq t x y t', ty, pos, af, g⟩ L c (.bool (!r)) := fun a w k _ => by
  have _ := hu
  simp [execOp, k.eval hx, k.eval hy, eqGuard, binOp, h.equal (by omega)]
theorem SIL.eqB {x y : Operand} {t t' : TypeId} {m n : Bool} (hu : C.P.underlying t = some .bool) (hx : ev L x = some (.bool m)) (hy : ev L y = some (.bool n)) : SIL C ⟨d, .binOp .eql t x y t', ty, pos, af, g⟩ L c (.bool (decide (m = n))) := fun a w k _ => by
  simp [execOp, k.eval hx, k.eval hy, eqGuard, binOp, (EQV.bool (k := 0) (m := m) (n := n) hu).equal (by omega)]
theorem SIL.neB {x y : Operand} {t t' : TypeId} {m n : Bool} (hu : C.P.underlying t = some .bool) (hx : ev L x = some (.bool m)) (hy : ev L y = some (.bool n)) : SIL C ⟨d, .binOp .neq t x y t', ty, pos, af, g⟩ L c (.bool (!decide (m = n))) := fun a w k _ => by
  simp [execOp, k.eval hx, k.eval hy, eqGuard, binOp, (EQV.bool (k := 0) (m := m) (n := n) hu).equal (by omega)]
theorem SIL.eqS {x y : Operand} {t t' : TypeId} {xs ys : List Value} {r : Bool} {k' : Nat} (hx : ev L x = some (.agg ⟨xs⟩)) (hy : ev L y = some (.agg ⟨ys⟩)) (h : EQV C.P k' t (.agg ⟨xs⟩) (.agg ⟨ys⟩) r) (hg : C.P.eqGuardType C.P.depth t = false) (hk : k' ≤ 9999 := by decide) : SIL C ⟨d, .binOp .eql t x y t', ty, pos, af, g⟩ L c (.bool r) := fun a w k _ => by
  simp [execOp, k.eval hx, k.eval hy, eqGuard, binOp, hg, h.equal hk]
theorem SIL.neS {x y : Operand} {t t' : TypeId} {xs ys : List Value} {r : Bool} {k' : Nat} (hx : ev L x = some (.agg ⟨xs⟩)) (hy : ev L y = some (.agg ⟨ys⟩)) (h : EQV C.P k' t (.agg ⟨xs⟩) (.agg ⟨ys⟩) r) (hg : C.P.eqGuardType C.P.depth t = false) (hk : k' ≤ 9999 := by decide) : SIL C ⟨d, .binOp .neq t x y t', ty, pos, af, g⟩ L c (.bool (!r)) := fun a w k _ => by
  simp [execOp, k.eval hx, k.eval hy, eqGuard, binOp, hg, h.equal hk]
end
end Go.SL
