/- Own layer: the operations that make or turn memory, one law each. -/
import Derived.Test.YtdekaodgbpngmaaSLc
namespace Go.SL
open Go Go.RowKit

/-- The part 'c' of 'H' has become 'c''. -/
inductive Sw : List HP → HP → HP → List HP → Prop
  | h {c c' : HP} {H : List HP} : Sw (c :: H) c c' (c' :: H)
  | t {c c' x : HP} {H K : List HP} : Sw H c c' K → Sw (x :: H) c c' (x :: K)
theorem Sw.rm {H K : List HP} {c c' : HP} (s : Sw H c c' K) : ∃ M, Rm H c M ∧ Rm K c' M := by
  induction s with
  | @h c c' H => exact ⟨H, .h, .h⟩
  | @t c c' x H K _ ih => obtain ⟨M, r, q⟩ := ih; exact ⟨x :: M, .t r, .t q⟩
/-- One cell of a list of cells is set. -/
inductive St : List Value → Nat → Value → List Value → Prop
  | h {x v : Value} {l : List Value} : St (x :: l) 0 v (v :: l)
  | t {x v : Value} {k : Nat} {l l' : List Value} : St l k v l' → St (x :: l) (k + 1) v (x :: l')
theorem St.eq {l l' : List Value} {k : Nat} {v : Value} (s : St l k v l') : k < l.length ∧ l' = l.set k v := by
  induction s with
  | h => simp
  | t _ ih => obtain ⟨h1, h2⟩ := ih; subst h2; exact ⟨by simpa using h1, by simp⟩
theorem St.mk {l : List Value} {k : Nat} {v : Value} (h : k < l.length) : St l k v (l.set k v) := by
  induction l generalizing k with
  | nil => simp at h
  | cons x l ih => cases k with
    | zero => exact .h
    | succ k => exact .t (ih (by simpa using h))
/-- Several cells, one behind the other. -/
inductive Sts : List Value → Nat → List Value → List Value → Prop
  | n {l : List Value} {k : Nat} : Sts l k [] l
  | c {l l' l'' : List Value} {k : Nat} {v : Value} {vs : List Value} : St l k v l' → Sts l' (k + 1) vs l'' → Sts l k (v :: vs) l''

def cl : Value → List Value
  | .agg cs => cs.toList
  | v => [v]
theorem cl_eq (v : Value) : v.cells.toList = cl v := by cases v <;> simp [Value.cells, cl]
def one : Value → Bool
  | .agg _ | .tuple _ => false
  | _ => true
theorem one_eq (v : Value) : v.oneCell' = one v := by cases v <;> rfl
/-- The cells of a value. -/
inductive Cl : Value → List Value → Prop
  | agg {l : List Value} : Cl (.agg ⟨l⟩) l
  | one {v : Value} : one v = true → Cl v [v]
theorem Cl.eq {v : Value} {l : List Value} (h : Cl v l) : cl v = l := by
  cases h with
  | agg => rfl
  | one h => cases v <;> first | rfl | cases h
def zeroIs (P : Program) (t : TypeId) (z : Value) : Prop := ∀ w, (zeroValue t).run P w = .ok z w
theorem zeroIs.mk {P : Program} {t : TypeId} {z : Value} (h : (P.info? t).bind (·.zero) = some z) : zeroIs P t z := fun w => by
  cases hi : P.info? t with
  | none => rw [hi] at h; cases h
  | some i => rw [hi] at h; simp at h; simp [zeroValue, typeInfo, hi, h]

theorem setCell_heap {w : World} {b off : Nat} {l : List Value} {T : TypeId} {fr : Nat × Nat} {v : Value} (h : w.heap[b]? = some (.cells ⟨l⟩ T fr)) :
    (w.setCell ⟨b, off, none⟩ v).heap[b]? = some (.cells ⟨l.set off v⟩ T fr) := by
  simp [World.setCell, Array.getElem?_modify, h]
theorem frozen_no {w : World} {b off : Nat} {l : Array Value} {T : TypeId} {fr : Nat × Nat} (h : w.heap[b]? = some (.cells l T fr)) (hf : fr.2 ≤ off ∨ off < fr.1) : w.frozen? ⟨b, off, none⟩ = false := by
  obtain ⟨lo, hi⟩ := fr
  simp only [World.frozen?, h]
  simp only [] at hf
  rcases hf with hf | hf
  · simp; omega
  · simp; omega
/-- Cells stored one behind the other. -/
theorem run_storeCells {P : Program} {β : Base} {F : List HP} {b : Nat} {T : TypeId} {fr : Nat × Nat} : ∀ (vs : List Value) (l l' : List Value) (off i : Nat) (w : World), Sat β (bl b T l fr :: F) w → Sts l (off + i) vs l' → (∀ v ∈ vs, one v = true) → (∀ k, off + i ≤ k → k < off + i + vs.length → (fr.2 ≤ k ∨ k < fr.1)) →
    ∃ w', (storeCells ⟨b, off, none⟩ vs i).run P w = .ok () w' ∧ Sat β (bl b T l' fr :: F) w' := by
  intro vs
  induction vs with
  | nil => intro l l' off i w s h _ _; cases h; exact ⟨w, by simp [storeCells], s⟩
  | cons v vs ih =>
    intro l l' off i w s h ho hfz
    cases h with
    | @c _ l1 _ _ _ _ h1 h2 =>
      obtain ⟨hlt, he⟩ := h1.eq
      subst he
      have hh := s.heap
      have hc : w.cell? ⟨b, off + i, none⟩ = some l[off + i] := by simp [World.cell?, hh, hlt]
      have hf := frozen_no hh (hfz (off + i) (Nat.le_refl _) (by simp))
      have s' : Sat β (bl b T (l.set (off + i) v) fr :: F) (w.setCell ⟨b, off + i, none⟩ v) :=
        s.put (setCell_heap hh) (fun k hk => Below.heap_setCell _ _ _ _ hk) ⟨rfl, rfl, rfl⟩
      obtain ⟨w', hr, s''⟩ := ih _ l' off (i + 1) _ s' h2 (fun u hu => ho u (List.mem_cons_of_mem _ hu)) (fun k h1 h2 => hfz k (by omega) (by simp at h2 ⊢; omega))
      refine ⟨w', ?_, s''⟩
      have h1v := ho v (List.mem_cons_self ..)
      simp only [storeCells, Sem.run_bind, addr_add]
      rw [run_store _ _ _ _ _ (by rw [one_eq]; exact h1v), hc]
      simp only [hf, Bool.false_eq_true, if_false, Result.andThen_ok]
      exact hr

section
variable {C : Cx} {L : Env} {ty : TypeId} {pos : String} {af : Array Edge} {g : Option (Nat × Bool)} {H : List HP}

theorem EX.of_value {d : Nat} {op : Op} {H : List HP} {Out : Env → List HP → Prop} (hd : Nat.blt d C.n = true)
    (h : ∀ a w, Knows C.n C.D a L → Sat C.β H w → ∃ v w' H', (execOp a.eval ⟨some d, op, ty, pos, af, g⟩).run C.P w = .ok (.value v) w' ∧ Sat C.β H' w' ∧ Out ((d, v) :: L) H') : EX C ⟨some d, op, ty, pos, af, g⟩ L H Out := by
  intro a w k s Q
  obtain ⟨v, w', H', hr, s', ho⟩ := h a w k s
  exact wpIn_of_value hr ⟨_, _, ho, k.put d v hd, s'⟩
theorem EX.of_valueO {d : Option Tmp} {op : Op} {H : List HP} {Out : Env → List HP → Prop} (hd : dOk d C.n = true)
    (h : ∀ a w, Knows C.n C.D a L → Sat C.β H w → ∃ v w' H', (execOp a.eval ⟨d, op, ty, pos, af, g⟩).run C.P w = .ok (.value v) w' ∧ Sat C.β H' w' ∧ Out (pl d v L) H') : EX C ⟨d, op, ty, pos, af, g⟩ L H Out := by
  intro a w k s Q
  obtain ⟨v, w', H', hr, s', ho⟩ := h a w k s
  exact wpIn_of_value hr ⟨_, _, ho, k.put' d v hd, s'⟩
theorem EX.of_skip {op : Op} {H : List HP} {Out : Env → List HP → Prop}
    (h : ∀ a w, Knows C.n C.D a L → Sat C.β H w → ∃ w' H', (execOp a.eval ⟨none, op, ty, pos, af, g⟩).run C.P w = .ok .skip w' ∧ Sat C.β H' w' ∧ Out L H') : EX C ⟨none, op, ty, pos, af, g⟩ L H Out := by
  intro a w k s Q
  obtain ⟨w', H', hr, s', ho⟩ := h a w k s
  exact wpIn_of_skip hr ⟨_, _, ho, k, s'⟩

/-- A new block with one variable. -/
theorem EX.box {d : Nat} {e : TypeId} {x : Operand} {v : Value} {l : List Value} (hx : ev L x = some v) (hl : Cl v l) (hd : Nat.blt d C.n = true := by rfl) :
    EX C ⟨some d, .box e x, ty, pos, af, g⟩ L H (fun L' H' => ∃ b, L' = (d, .pointer (some ⟨b, 0, none⟩)) :: L ∧ H' = bl b e l :: H) := by
  refine EX.of_value hd fun a w k s => ⟨.pointer (some ⟨w.heap.size, 0, none⟩), { w with heap := w.heap.push (.cells v.cells e) }, _, ?_, ?_, w.heap.size, rfl, rfl⟩
  · simp [execOp, k.eval hx, Instr.box, newVar, newRow]
  · have : v.cells = ⟨l⟩ := by rw [← hl.eq, ← cl_eq]
    rw [this]; exact s.alloc rfl ⟨rfl, rfl, rfl⟩
theorem EX.alloc {d : Nat} {e : TypeId} {z : Value} {l : List Value} (hz : zeroIs C.P e z) (hl : Cl z l) (hd : Nat.blt d C.n = true := by rfl) :
    EX C ⟨some d, .alloc e, ty, pos, af, g⟩ L H (fun L' H' => ∃ b, L' = (d, .pointer (some ⟨b, 0, none⟩)) :: L ∧ H' = bl b e l :: H) := by
  refine EX.of_value hd fun a w k s => ⟨.pointer (some ⟨w.heap.size, 0, none⟩), { w with heap := w.heap.push (.cells z.cells e) }, _, ?_, ?_, w.heap.size, rfl, rfl⟩
  · simp [execOp, Instr.alloc, newVar, newRow, hz w]
  · have : z.cells = ⟨l⟩ := by rw [← hl.eq, ← cl_eq]
    rw [this]; exact s.alloc rfl ⟨rfl, rfl, rfl⟩
/-- A store of whatever width into a block. -/
theorem EX.store {t : TypeId} {x y : Operand} {b off z : Nat} {T : TypeId} {l l' vs : List Value} {v : Value} {fr : Nat × Nat} {H' : List HP}
    (hsw : Sw H (bl b T l fr) (bl b T l' fr) H') (hx : ev L x = some (.pointer (some ⟨b, off, none⟩))) (hy : ev L y = some v) (hl : cl v = vs) (hz : sizeIs C.P t z) (hlen : vs.length = z) (hst : Sts l off vs l') (ho : vs.all one = true) (hfr : (fr.2 ≤ off ∨ off + vs.length ≤ fr.1)) :
    EX C ⟨none, .store t x y, ty, pos, af, g⟩ L H (Out1 L H') := by
  refine EX.of_skip fun a w k s => ?_
  obtain ⟨M, r, q⟩ := hsw.rm
  obtain ⟨w', hr, s'⟩ := run_storeCells (P := C.P) vs l l' off 0 w (s.rm r) hst (by simpa [List.all_eq_true] using ho) (fun k h1 h2 => by rcases hfr with h | h <;> omega)
  refine ⟨w', H', ?_, s'.unrm q, rfl, rfl⟩
  have hsz : v.cells.size = z := by rw [← hlen, ← hl, ← cl_eq]; simp
  have hce : v.cells.toList = vs := by rw [cl_eq, hl]
  simp [execOp, k.eval hx, k.eval hy, Instr.storeAt, Instr.sureAddr, storeVar, hz w, hsz, hce, hr]
/-- A store of one cell. -/
theorem EX.store1 {t : TypeId} {x y : Operand} {b off : Nat} {T : TypeId} {l l' : List Value} {v : Value} {H' : List HP}
    (hsw : Sw H (bl b T l) (bl b T l') H') (hx : ev L x = some (.pointer (some ⟨b, off, none⟩))) (hy : ev L y = some v) (hz : sizeIs C.P t 1) (hst : St l off v l') (ho : one v = true := by rfl) :
    EX C ⟨none, .store t x y, ty, pos, af, g⟩ L H (Out1 L H') :=
  EX.store hsw hx hy (show cl v = [v] by cases v <;> first | rfl | cases ho) hz rfl (.c hst .n) (by simp [ho]) (.inl (Nat.zero_le _))

theorem EX.storeF {t : TypeId} {x y : Operand} {b off : Nat} {T : TypeId} {l l' : List Value} {v : Value} {fr : Nat × Nat} {H' : List HP}
    (hsw : Sw H (bl b T l fr) (bl b T l' fr) H') (hx : ev L x = some (.pointer (some ⟨b, off, none⟩))) (hy : ev L y = some v) (hz : sizeIs C.P t 1) (hst : St l off v l') (hfr : fr.2 ≤ off ∨ off + 1 ≤ fr.1) (ho : one v = true := by rfl) :
    EX C ⟨none, .store t x y, ty, pos, af, g⟩ L H (Out1 L H') :=
  EX.store hsw hx hy (show cl v = [v] by cases v <;> first | rfl | cases ho) hz rfl (.c hst .n) (by simp [ho]) hfr
/-- A struct put together. -/
def bldAt (P : Program) (t : TypeId) (parts : Array (Nat × Value)) (v : Value) : Prop := ∀ w, (Instr.build t parts).run P w = .ok v w
theorem SIL.build {d : Option Tmp} {c : HP} {t : TypeId} {ps : Array (Nat × Operand)} {vs : List Value} {v : Value} (hv : (ps.toList.map (·.2)).map (ev L) = vs.map some) (hb : bldAt C.P t ((ps.toList.map (·.1)).zip vs).toArray v) : SIL C ⟨d, .build t ps, ty, pos, af, g⟩ L c v := fun a w k _ => by
  have h1 := map_eval k _ _ hv
  have h2 : (ps.map fun (i, x) => (i, a.eval x)) = ((ps.toList.map (·.1)).zip vs).toArray := by
    rw [← h1]
    apply Array.ext'
    simp only [Array.toList_map, List.map_map]
    induction ps.toList with
    | nil => rfl
    | cons x l ih => simp [ih]
  simp only [execOp, h2, Sem.run_bind, hb w]
  simp
end
end Go.SL
