/- Own layer: the operations that read, reckon or make memory, one law each. -/
import Derived.Test.YtdekaodgbpngmaaSLb
import Derived.Laws.World
import Derived.Laws.Strings
namespace Go.SL
open Go Go.RowKit

def gt : List Value → Nat → Option Value
  | [], _ => none
  | x :: _, 0 => some x
  | _ :: l, k + 1 => gt l k
theorem gt_eq : ∀ (l : List Value) (k : Nat), gt l k = l[k]?
  | [], _ => by simp [gt]
  | x :: l, 0 => by simp [gt]
  | x :: l, k + 1 => by simp [gt, gt_eq l k]
def st : List Value → Nat → Value → List Value
  | [], _, _ => []
  | _ :: l, 0, v => v :: l
  | x :: l, k + 1, v => x :: st l k v
theorem st_eq : ∀ (l : List Value) (k : Nat) (v : Value), st l k v = l.set k v
  | [], _, _ => by simp [st]
  | x :: l, 0, v => by simp [st]
  | x :: l, k + 1, v => by simp [st, st_eq l k v]
/-- A block of cells. -/
abbrev bl (b : Nat) (T : TypeId) (l : List Value) (fr : Nat × Nat := (0, 0)) : HP := blk b (.cells ⟨l⟩ T fr)

/-- The type is no struct and no array. -/
def flat : TypeDesc → Bool
  | .struct _ | .array _ _ => false
  | _ => true
theorem run_isAgg_flat {P : Program} {t : TypeId} {td : TypeDesc} (hu : P.underlying t = some td) (hf : flat td = true) (w : World) : (isAgg t).run P w = .ok false w := by
  cases td <;> simp_all [isAgg, underlying, flat]
theorem run_underlying' {P : Program} {t : TypeId} {td : TypeDesc} (hu : P.underlying t = some td) (w : World) : (underlying t).run P w = .ok td w := by
  simp [underlying, hu]
theorem cell_of_sat {β : Base} {F : List HP} {w : World} {b off : Nat} {T : TypeId} {l : List Value} {fr : Nat × Nat} {v : Value} (s : Sat β (bl b T l fr :: F) w) (hg : gt l off = some v) : w.cell? ⟨b, off, none⟩ = some v := by
  have := s.heap
  rw [gt_eq] at hg
  simp [World.cell?, this, hg]

section
variable {C : Cx} {L : Env} {d : Option Tmp} {ty : TypeId} {pos : String} {af : Array Edge} {g : Option (Nat × Bool)} {c : HP}

theorem SIL.move {x : Operand} {v : Value} (h : ev L x = some v) : SIL C ⟨d, .move x, ty, pos, af, g⟩ L c v := fun a w k _ => by simp [execOp, k.eval h]
theorem SIL.assign {x : Operand} {v : Value} (h : ev L x = some v) : SIL C ⟨d, .assign x, ty, pos, af, g⟩ L c v := fun a w k _ => by simp [execOp, k.eval h]
theorem SIL.pick {x y z : Operand} {b : Bool} {u v : Value} (h : ev L x = some (.bool b)) (hy : ev L y = some u) (hz : ev L z = some v) : SIL C ⟨d, .pick x y z, ty, pos, af, g⟩ L c (if b then u else v) := fun a w k _ => by
  simp [execOp, k.eval h, k.eval hy, k.eval hz, asBool]
theorem SIL.load {t : TypeId} {td : TypeDesc} {x : Operand} {b off : Nat} {T : TypeId} {l : List Value} {fr : Nat × Nat} {v : Value} (hu : C.P.underlying t = some td) (h : ev L x = some (.pointer (some ⟨b, off, none⟩))) (hg : gt l off = some v) (hf : flat td = true := by rfl) :
    SIL C ⟨d, .load t x, ty, pos, af, g⟩ L (bl b T l fr) v := fun a w k s => by
  simp [execOp, k.eval h, Instr.loadAt, Instr.sureAddr, loadVar, run_isAgg_flat hu hf, cell_of_sat s hg]
theorem SIL.nilCheck {x : Operand} {p : Addr} (h : ev L x = some (.pointer (some p))) : SIL C ⟨d, .nilCheck x, ty, pos, af, g⟩ L c (.pointer (some p)) := fun a w k _ => by simp [execOp, k.eval h]
theorem SIL.nilCheckF {x : Operand} {f : FuncId} {fs cs : Array Value} (h : ev L x = some (.func (.func f) fs cs)) : SIL C ⟨d, .nilCheck x, ty, pos, af, g⟩ L c (.func (.func f) fs cs) := fun a w k _ => by simp [execOp, k.eval h]
theorem SIL.extract {x : Operand} {i : Nat} {l : List Value} {v : Value} (h : ev L x = some (.tuple ⟨l⟩)) (hi : gt l i = some v) : SIL C ⟨d, .extract x i, ty, pos, af, g⟩ L c v := fun a w k _ => by
  rw [gt_eq] at hi
  simp [execOp, k.eval h, Instr.extract, hi]
theorem SIL.makeFunc {fn : Fn} {xs ys : Array Operand} {us vs : List Value} (hx : xs.toList.map (ev L) = us.map some) (hy : ys.toList.map (ev L) = vs.map some) : SIL C ⟨d, .makeFunc fn xs ys, ty, pos, af, g⟩ L c (.func fn ⟨us⟩ ⟨vs⟩) := fun a w k _ => by
  have h1 : xs.map a.eval = ⟨us⟩ := by have := map_eval k xs.toList us hx; rw [← this, ← Array.toList_map]
  have h2 : ys.map a.eval = ⟨vs⟩ := by have := map_eval k ys.toList vs hy; rw [← this, ← Array.toList_map]
  simp [execOp, Instr.makeFunc, h1, h2]

/-- A field's place. -/
def FO (P : Program) (s : TypeId) (f o : Nat) : Prop := ∀ (w : World) (b off : Nat), (Instr.fieldAt s (.pointer (some ⟨b, off, none⟩)) f).run P w = .ok (.pointer (some ⟨b, off + o, none⟩)) w
theorem addr_add (b off o : Nat) : Addr.add ⟨b, off, none⟩ o = ⟨b, off + o, none⟩ := by
  unfold Addr.add; split
  · rename_i h; subst h; rfl
  · rfl
def sizeIs (P : Program) (t : TypeId) (n : Nat) : Prop := ∀ w, (sizeOf t).run P w = .ok n w
theorem sizeIs.mk {P : Program} {t : TypeId} {n : Nat} (h : (P.info? t).map (·.size) = some n) : sizeIs P t n := fun w => by
  cases hi : P.info? t with
  | none => rw [hi] at h; cases h
  | some i => rw [hi] at h; simp at h; simp [sizeOf, typeInfo, hi, h]
theorem FO.mk {P : Program} {s f o t z : Nat} {fs : Array Field} (hu : P.underlying s = some (.struct fs)) (hf : (fs[f]?).map (fun d => (d.offset, d.type)) = some (o, t)) (hs : sizeIs P t z) (hz : Nat.blt 0 z = true) : FO P s f o := by
  intro w b off
  have hz' : z ≠ 0 := by
    have : 0 < z := by simpa [Nat.blt_eq] using hz
    omega
  cases hd : fs[f]? with
  | none => rw [hd] at hf; cases hf
  | some fd =>
    rw [hd] at hf
    simp at hf
    obtain ⟨h1, h2⟩ := hf
    subst h1; subst h2
    simp [Instr.fieldAt, run_underlying' hu, hd, Instr.sureAddr, fieldPlace, hs w, hz', addr_add]
theorem SIL.fieldAddr {s : TypeId} {x : Operand} {f o b off : Nat} (hf : FO C.P s f o) (h : ev L x = some (.pointer (some ⟨b, off, none⟩))) : SIL C ⟨d, .fieldAddr s x f, ty, pos, af, g⟩ L c (.pointer (some ⟨b, off + o, none⟩)) := fun a w k _ => by
  simp [execOp, k.eval h, hf w b off]

/-! #### numbers -/
def I64 (x : Int) : Prop := -9223372036854775808 ≤ x ∧ x ≤ 9223372036854775807
theorem wrap_i64 {x : Int} (h : I64 x) : IntKind.i64.wrap x = x := IntWalk.i64_in _ (by unfold I64 at h; omega)
theorem SIL.add {x y : Operand} {t t' : TypeId} {m n : Int} (hx : ev L x = some (.int .i64 m)) (hy : ev L y = some (.int .i64 n)) (hb : I64 (m + n)) : SIL C ⟨d, .binOp .add t x y t', ty, pos, af, g⟩ L c (.int .i64 (m + n)) := fun a w k _ => by
  simp [execOp, k.eval hx, k.eval hy, eqGuard, binOp, Op.intArith, wrap_i64 hb]
theorem SIL.sub {x y : Operand} {t t' : TypeId} {m n : Int} (hx : ev L x = some (.int .i64 m)) (hy : ev L y = some (.int .i64 n)) (hb : I64 (m - n)) : SIL C ⟨d, .binOp .sub t x y t', ty, pos, af, g⟩ L c (.int .i64 (m - n)) := fun a w k _ => by
  simp [execOp, k.eval hx, k.eval hy, eqGuard, binOp, Op.intArith, wrap_i64 hb]
theorem SIL.mul {x y : Operand} {t t' : TypeId} {m n : Int} (hx : ev L x = some (.int .i64 m)) (hy : ev L y = some (.int .i64 n)) (hb : I64 (m * n)) : SIL C ⟨d, .binOp .mul t x y t', ty, pos, af, g⟩ L c (.int .i64 (m * n)) := fun a w k _ => by
  simp [execOp, k.eval hx, k.eval hy, eqGuard, binOp, Op.intArith, wrap_i64 hb]
theorem SIL.addw {x y : Operand} {t t' : TypeId} {q : IntKind} {m n : Int} (hx : ev L x = some (.int q m)) (hy : ev L y = some (.int q n)) : SIL C ⟨d, .binOp .add t x y t', ty, pos, af, g⟩ L c (.int q (q.wrap (m + n))) := fun a w k _ => by
  simp [execOp, k.eval hx, k.eval hy, eqGuard, binOp, Op.intArith]
theorem SIL.subw {x y : Operand} {t t' : TypeId} {q : IntKind} {m n : Int} (hx : ev L x = some (.int q m)) (hy : ev L y = some (.int q n)) : SIL C ⟨d, .binOp .sub t x y t', ty, pos, af, g⟩ L c (.int q (q.wrap (m - n))) := fun a w k _ => by
  simp [execOp, k.eval hx, k.eval hy, eqGuard, binOp, Op.intArith]
theorem SIL.rem {x y : Operand} {t t' : TypeId} {q : IntKind} {m n : Int} (hx : ev L x = some (.int q m)) (hy : ev L y = some (.int q n)) (h0 : n ≠ 0) : SIL C ⟨d, .binOp .rem t x y t', ty, pos, af, g⟩ L c (.int q (m.tmod n)) := fun a w k _ => by
  simp [execOp, k.eval hx, k.eval hy, eqGuard, binOp, Op.intDiv, h0]
theorem SIL.quo {x y : Operand} {t t' : TypeId} {q : IntKind} {m n : Int} (hx : ev L x = some (.int q m)) (hy : ev L y = some (.int q n)) (h0 : n ≠ 0) : SIL C ⟨d, .binOp .quo t x y t', ty, pos, af, g⟩ L c (.int q (q.wrap (m.tdiv n))) := fun a w k _ => by
  simp [execOp, k.eval hx, k.eval hy, eqGuard, binOp, Op.intDiv, h0]
theorem SIL.lss {x y : Operand} {t t' : TypeId} {q : IntKind} {m n : Int} (hx : ev L x = some (.int q m)) (hy : ev L y = some (.int q n)) : SIL C ⟨d, .binOp .lss t x y t', ty, pos, af, g⟩ L c (.bool (decide (m < n))) := fun a w k _ => by
  simp [execOp, k.eval hx, k.eval hy, eqGuard, binOp, Op.intCmp]
theorem SIL.leq {x y : Operand} {t t' : TypeId} {q : IntKind} {m n : Int} (hx : ev L x = some (.int q m)) (hy : ev L y = some (.int q n)) : SIL C ⟨d, .binOp .leq t x y t', ty, pos, af, g⟩ L c (.bool (decide (m ≤ n))) := fun a w k _ => by
  simp [execOp, k.eval hx, k.eval hy, eqGuard, binOp, Op.intCmp]
theorem SIL.gtr {x y : Operand} {t t' : TypeId} {q : IntKind} {m n : Int} (hx : ev L x = some (.int q m)) (hy : ev L y = some (.int q n)) : SIL C ⟨d, .binOp .gtr t x y t', ty, pos, af, g⟩ L c (.bool (decide (n < m))) := fun a w k _ => by
  simp [execOp, k.eval hx, k.eval hy, eqGuard, binOp, Op.intCmp]
theorem SIL.geq {x y : Operand} {t t' : TypeId} {q : IntKind} {m n : Int} (hx : ev L x = some (.int q m)) (hy : ev L y = some (.int q n)) : SIL C ⟨d, .binOp .geq t x y t', ty, pos, af, g⟩ L c (.bool (decide (n ≤ m))) := fun a w k _ => by
  simp [execOp, k.eval hx, k.eval hy, eqGuard, binOp, Op.intCmp]
theorem SIL.eql {x y : Operand} {t t' : TypeId} {q : IntKind} {m n : Int} (hx : ev L x = some (.int q m)) (hy : ev L y = some (.int q n)) : SIL C ⟨d, .binOp .eql t x y t', ty, pos, af, g⟩ L c (.bool (decide (m = n))) := fun a w k _ => by
  simp [execOp, k.eval hx, k.eval hy, eqGuard, binOp, Op.intCmp]
  rfl
theorem SIL.neq {x y : Operand} {t t' : TypeId} {q : IntKind} {m n : Int} (hx : ev L x = some (.int q m)) (hy : ev L y = some (.int q n)) : SIL C ⟨d, .binOp .neq t x y t', ty, pos, af, g⟩ L c (.bool (!decide (m = n))) := fun a w k _ => by
  simp [execOp, k.eval hx, k.eval hy, eqGuard, binOp, Op.intCmp]
  rfl
theorem SIL.not {x : Operand} {t : TypeId} {b : Bool} (hx : ev L x = some (.bool b)) : SIL C ⟨d, .unOp .not t x, ty, pos, af, g⟩ L c (.bool (!b)) := fun a w k _ => by
  simp [execOp, k.eval hx, Op.unary]
theorem SIL.neg {x : Operand} {t : TypeId} {m : Int} (hx : ev L x = some (.int .i64 m)) (hb : I64 (0 - m)) : SIL C ⟨d, .unOp .neg t x, ty, pos, af, g⟩ L c (.int .i64 (0 - m)) := fun a w k _ => by
  simp [execOp, k.eval hx, Op.unary, Op.intArith]
  have := wrap_i64 hb
  simpa using this
theorem SIL.convInt {s t : TypeId} {sd : TypeDesc} {q r : IntKind} {x : Operand} {m : Int} (hs : C.P.underlying s = some sd) (ht : C.P.underlying t = some (.int r)) (hx : ev L x = some (.int q m)) : SIL C ⟨d, .convert s t x, ty, pos, af, g⟩ L c (.int r (r.wrap m)) := fun a w k _ => by
  simp [execOp, k.eval hx, convert, run_underlying' hs, run_underlying' ht, Conv.intToInt]
theorem SIL.convInt64 {s t : TypeId} {sd : TypeDesc} {q : IntKind} {x : Operand} {m : Int} (hs : C.P.underlying s = some sd) (ht : C.P.underlying t = some (.int .i64)) (hx : ev L x = some (.int q m)) (hb : I64 m) : SIL C ⟨d, .convert s t x, ty, pos, af, g⟩ L c (.int .i64 m) := fun a w k _ => by
  simp [execOp, k.eval hx, convert, run_underlying' hs, run_underlying' ht, Conv.intToInt, wrap_i64 hb]

theorem baToList (x : ByteArray) : x.toList = x.data.toList := ByteArray.toList_eq x
theorem ba_eq {x y : ByteArray} : (x.toList == y.toList) = decide (x = y) := by
  rw [baToList, baToList, Bool.eq_iff_iff]
  simp only [beq_iff_eq, decide_eq_true_eq]
  constructor
  · intro h; cases x; cases y; simp at h; simp [h]
  · intro h; rw [h]
theorem SIL.seql {x y : Operand} {t t' : TypeId} {m n : ByteArray} (hx : ev L x = some (.string m)) (hy : ev L y = some (.string n)) : SIL C ⟨d, .binOp .eql t x y t', ty, pos, af, g⟩ L c (.bool (decide (m = n))) := fun a w k _ => by
  simp only [execOp, k.eval hx, k.eval hy, eqGuard, binOp, Op.stringOp, ba_eq]
  simp
theorem SIL.sneq {x y : Operand} {t t' : TypeId} {m n : ByteArray} (hx : ev L x = some (.string m)) (hy : ev L y = some (.string n)) : SIL C ⟨d, .binOp .neq t x y t', ty, pos, af, g⟩ L c (.bool (!decide (m = n))) := fun a w k _ => by
  simp only [execOp, k.eval hx, k.eval hy, eqGuard, binOp, Op.stringOp, ba_eq]
  simp
theorem SIL.sadd {x y : Operand} {t t' : TypeId} {m n : ByteArray} (hx : ev L x = some (.string m)) (hy : ev L y = some (.string n)) (hb : ((m.size + n.size : Nat) : Int) ≤ 9223372036854775807) : SIL C ⟨d, .binOp .add t x y t', ty, pos, af, g⟩ L c (.string (m ++ n)) := fun a w k _ => by
  have : ¬ (IntKind.i64.max < ((m.size + n.size : Nat) : Int)) := by rw [show IntKind.i64.max = 9223372036854775807 from by decide]; omega
  simp only [execOp, k.eval hx, k.eval hy, eqGuard, binOp, Op.stringOp]
  simp only [gt_iff_lt, this, if_false]
  simp
/-! #### lengths -/
theorem SIL.lenSlice {t e : TypeId} {x : Operand} {q : Option Addr} {n m : Nat} (hu : C.P.underlying t = some (.slice e)) (h : ev L x = some (.slice q n m)) : SIL C ⟨d, .call { callee := .builtin .len, args := #[x], argTypes := #[t] }, ty, pos, af, g⟩ L c (.int .i64 n) := fun a w k _ => by
  simp [execOp, resolve, invoke, builtin, Builtin.len_, run_underlying' hu, k.eval h, goInt]
theorem SIL.lenStr {t : TypeId} {x : Operand} {s : ByteArray} (hu : C.P.underlying t = some .string) (h : ev L x = some (.string s)) : SIL C ⟨d, .call { callee := .builtin .len, args := #[x], argTypes := #[t] }, ty, pos, af, g⟩ L c (.int .i64 s.size) := fun a w k _ => by
  simp [execOp, resolve, invoke, builtin, Builtin.len_, run_underlying' hu, k.eval h, goInt]
theorem SIL.lenMap {t e e' : TypeId} {x : Operand} {r : Nat} {es : Array MapEntry} {n : Nat} (hu : C.P.underlying t = some (.map e e')) (h : ev L x = some (.map (some r))) : SIL C ⟨d, .call { callee := .builtin .len, args := #[x], argTypes := #[t] }, ty, pos, af, g⟩ L (blk r (.map es n)) (.int .i64 es.size) := fun a w k s => by
  have hh := s.heap
  simp [execOp, resolve, invoke, builtin, Builtin.len_, run_underlying' hu, k.eval h, goInt, getObj, Sem.run, hh]
theorem SIL.capSlice {t e : TypeId} {x : Operand} {q : Option Addr} {n m : Nat} (hu : C.P.underlying t = some (.slice e)) (h : ev L x = some (.slice q n m)) : SIL C ⟨d, .call { callee := .builtin .cap, args := #[x], argTypes := #[t] }, ty, pos, af, g⟩ L c (.int .i64 m) := fun a w k _ => by
  simp [execOp, resolve, invoke, builtin, Builtin.cap_, run_underlying' hu, k.eval h, goInt]
/-! #### least and greatest -/
theorem SIL.min2 {t t' : TypeId} {x y : Operand} {q q' : IntKind} {m n : Int} (hx : ev L x = some (.int q m)) (hy : ev L y = some (.int q' n)) : SIL C ⟨d, .call { callee := .builtin .min, args := #[x, y], argTypes := #[t, t'] }, ty, pos, af, g⟩ L c (.int q (min m n)) := fun a w k _ => by
  have : (if n < m then n else m) = min m n := by split <;> omega
  simp [execOp, resolve, invoke, builtin, Builtin.min_, Builtin.min2, k.eval hx, k.eval hy, this]
theorem SIL.max2 {t t' : TypeId} {x y : Operand} {q q' : IntKind} {m n : Int} (hx : ev L x = some (.int q m)) (hy : ev L y = some (.int q' n)) : SIL C ⟨d, .call { callee := .builtin .max, args := #[x, y], argTypes := #[t, t'] }, ty, pos, af, g⟩ L c (.int q (max m n)) := fun a w k _ => by
  have : (if m < n then n else m) = max m n := by split <;> omega
  simp [execOp, resolve, invoke, builtin, Builtin.max_, Builtin.max2, k.eval hx, k.eval hy, this]
/-! #### places in slices -/
theorem SIL.indexAddr {t e : TypeId} {x y : Operand} {q : IntKind} {i : Int} {j b off n m z : Nat} (hu : C.P.underlying t = some (.slice e)) (hz : sizeIs C.P e z) (hx : ev L x = some (.slice (some ⟨b, off, none⟩) n m)) (hy : ev L y = some (.int q i)) (hi : i = (j : Int)) (hj : j < n) :
    SIL C ⟨d, .indexAddr t x y, ty, pos, af, g⟩ L c (.pointer (some ⟨b, off + j * z, none⟩)) := fun a w k _ => by
  subst hi
  have : (j : Int) < (n : Int) := by omega
  simp [execOp, k.eval hx, k.eval hy, Instr.indexAt, asIntOf, run_underlying' hu, hz w, addr_add]
  omega
theorem SIL.indexStr {t : TypeId} {x y : Operand} {q : IntKind} {i : Int} {j : Nat} {s : ByteArray} (hu : C.P.underlying t = some .string) (hx : ev L x = some (.string s)) (hy : ev L y = some (.int q i)) (hi : i = (j : Int)) (hj : j < s.size) :
    SIL C ⟨d, .index t x y, ty, pos, af, g⟩ L c (.int .u8 (s[j].toNat)) := fun a w k _ => by
  subst hi
  simp [execOp, k.eval hx, k.eval hy, Instr.index, asIntOf, run_underlying' hu, hj]
end
end Go.SL
