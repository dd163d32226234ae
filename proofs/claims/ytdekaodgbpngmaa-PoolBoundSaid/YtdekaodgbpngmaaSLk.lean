/- Own layer: reslicing, clear, append where there is room. -/
import Derived.Test.YtdekaodgbpngmaaSLj
namespace Go.SL
open Go Go.RowKit

theorem bound_ok {P : Program} {w : World} {q : IntKind} {i y : Nat} {code : BoundsCode} (h : i ≤ y) : (Instr.sliceBound (.int q (i : Int)) y code).run P w = .ok i w := by
  have : (i : Int) ≤ (y : Int) := by omega
  simp [Instr.sliceBound, asIntOf, h]
section
variable {C : Cx} {L : Env} {d : Option Tmp} {ty : TypeId} {pos : String} {af : Array Edge} {g : Option (Nat × Bool)} {c : HP}
/-- 's[lo:hi]'. -/
theorem SIL.sliceLH {t e z : Nat} {x y u : Operand} {q : Option Addr} {n k lo hi : Nat} {a b : IntKind} {li hi' : Int} (hu : C.P.underlying t = some (.slice e)) (hz : sizeIs C.P e z) (hx : ev L x = some (.slice q n k)) (hy : ev L y = some (.int a li)) (hv : ev L u = some (.int b hi')) (h1 : li = (lo : Int)) (h2 : hi' = (hi : Int)) (h3 : lo ≤ hi) (h4 : hi ≤ k) :
    SIL C ⟨d, .slice t x (some y) (some u) none, ty, pos, af, g⟩ L c (.slice (if k = lo then q else q.map (·.add (lo * z))) (hi - lo) (k - lo)) := fun a w kn _ => by
  subst h1; subst h2
  simp [execOp, kn.eval hx, kn.eval hy, kn.eval hv, Instr.sliceAt, Instr.slice, run_underlying' hu, Instr.sliceBounds, bound_ok h3, bound_ok h4, hz w]
theorem SIL.sliceL {t e z : Nat} {x y : Operand} {q : Option Addr} {n k lo : Nat} {a : IntKind} {li : Int} (hu : C.P.underlying t = some (.slice e)) (hz : sizeIs C.P e z) (hx : ev L x = some (.slice q n k)) (hy : ev L y = some (.int a li)) (h1 : li = (lo : Int)) (h3 : lo ≤ n) :
    SIL C ⟨d, .slice t x (some y) none none, ty, pos, af, g⟩ L c (.slice (if k = lo then q else q.map (·.add (lo * z))) (n - lo) (k - lo)) := fun a w kn _ => by
  subst h1
  simp [execOp, kn.eval hx, kn.eval hy, Instr.sliceAt, Instr.slice, run_underlying' hu, Instr.sliceBounds, bound_ok h3, hz w]
theorem SIL.sliceH {t e z : Nat} {x u : Operand} {q : Option Addr} {n k hi : Nat} {b : IntKind} {hi' : Int} (hu : C.P.underlying t = some (.slice e)) (hz : sizeIs C.P e z) (hx : ev L x = some (.slice q n k)) (hv : ev L u = some (.int b hi')) (h2 : hi' = (hi : Int)) (h4 : hi ≤ k) :
    SIL C ⟨d, .slice t x none (some u) none, ty, pos, af, g⟩ L c (.slice q hi k) := fun a w kn _ => by
  subst h2
  have : (if k = 0 then q else q.map (·.add (0 * z))) = q := by
    split
    · rfl
    · cases q with
      | none => rfl
      | some a => simp [Addr.add]
  simp [execOp, kn.eval hx, kn.eval hv, Instr.sliceAt, Instr.slice, run_underlying' hu, Instr.sliceBounds, bound_ok h4, hz w]
  simpa using this
/-- 's[lo:hi:max]'. -/
theorem SIL.sliceLHM {t e z : Nat} {x y u v : Operand} {q : Option Addr} {n k lo hi mx : Nat} {a b m : IntKind} {li hi' mi : Int} (hu : C.P.underlying t = some (.slice e)) (hz : sizeIs C.P e z) (hx : ev L x = some (.slice q n k)) (hy : ev L y = some (.int a li)) (hv : ev L u = some (.int b hi')) (hm : ev L v = some (.int m mi)) (h1 : li = (lo : Int)) (h2 : hi' = (hi : Int)) (hmm : mi = (mx : Int)) (h3 : lo ≤ hi) (h4 : hi ≤ mx) (h5 : mx ≤ k) :
    SIL C ⟨d, .slice t x (some y) (some u) (some v), ty, pos, af, g⟩ L c (.slice (if mx = lo then q else q.map (·.add (lo * z))) (hi - lo) (mx - lo)) := fun a w kn _ => by
  subst h1; subst h2; subst hmm
  simp [execOp, kn.eval hx, kn.eval hy, kn.eval hv, kn.eval hm, Instr.sliceAt, Instr.slice, run_underlying' hu, Instr.sliceBounds, bound_ok h3, bound_ok h4, bound_ok h5, hz w]
theorem SIL.sliceHM {t e z : Nat} {x u v : Operand} {q : Option Addr} {n k hi mx : Nat} {b m : IntKind} {hi' mi : Int} (hu : C.P.underlying t = some (.slice e)) (hz : sizeIs C.P e z) (hx : ev L x = some (.slice q n k)) (hv : ev L u = some (.int b hi')) (hm : ev L v = some (.int m mi)) (h2 : hi' = (hi : Int)) (hmm : mi = (mx : Int)) (h4 : hi ≤ mx) (h5 : mx ≤ k) :
    SIL C ⟨d, .slice t x none (some u) (some v), ty, pos, af, g⟩ L c (.slice q hi mx) := fun a w kn _ => by
  subst h2; subst hmm
  have : (if mx = 0 then q else q.map (·.add (0 * z))) = q := by
    split
    · rfl
    · cases q with
      | none => rfl
      | some a => simp [Addr.add]
  simp [execOp, kn.eval hx, kn.eval hv, kn.eval hm, Instr.sliceAt, Instr.slice, run_underlying' hu, Instr.sliceBounds, bound_ok h4, bound_ok h5, hz w]
  simpa using this
end
section
variable {C : Cx} {L : Env} {ty : TypeId} {pos : String} {af : Array Edge} {g : Option (Nat × Bool)} {H : List HP}
/-- 'append(s, x...)' where there is room, the block laid open. -/
theorem EX.appendIn {d t e z by_ b off n cap m : Nat} {T : TypeId} {fr : Nat × Nat} {x y : Operand} {u : Value} {l l' new : List Value} {H' : List HP} (ei : EI C.P t e z by_) (hsw : Sw H (bl b T l fr) (bl b T l' fr) H') (hx : ev L x = some (.slice (some ⟨b, off, none⟩) n cap)) (hy : ev L y = some u) (hr : Rd C.β H u m z new) (ho : ∀ v ∈ new, one v = true) (hroom : n + m ≤ cap) (hst : Sts l (off + n * z) new l') (hfr : fr.2 ≤ off + n * z ∨ off + n * z + new.length ≤ fr.1) (hd : Nat.blt d C.n = true := by rfl) :
    EX C ⟨some d, .call { callee := .builtin .append, args := #[x, y], argTypes := #[t, t] }, ty, pos, af, g⟩ L H (Out1 ((d, .slice (some ⟨b, off, none⟩) (n + m) cap) :: L) H') := by
  refine EX.of_value hd fun a w k s => ?_
  obtain ⟨hu, i, zv, hi, hz, hby, hzv, hzs⟩ := ei
  obtain ⟨M, r, q⟩ := hsw.rm
  have hexec : ∀ r w', (Builtin.append_ #[t, t] ty #[.slice (some ⟨b, off, none⟩) n cap, u]).run C.P w = .ok r w' → (execOp a.eval ⟨some d, .call { callee := .builtin .append, args := #[x, y], argTypes := #[t, t] }, ty, pos, af, g⟩).run C.P w = .ok (.value r) w' := fun r w' h => by
    simp [execOp, resolve, invoke, builtin, k.eval hx, k.eval hy, h]
  obtain ⟨hrl, hr⟩ := hr
  obtain ⟨w', hst', s2⟩ := run_storeCells (P := C.P) (b := b) (T := T) (fr := fr) new l l' (off + n * z) 0 w (s.rm r) hst ho (fun j h1 h2 => by rcases hfr with h | h <;> omega)
  refine ⟨_, w', _, hexec _ _ ?_, s2.unrm q, rfl, rfl⟩
  rcases hr with ⟨c, rfl, rfl⟩ | ⟨b', off', c, rfl, hr⟩
  · have hne : new = [] := by simpa using hrl
    subst hne
    have hw : w' = w := by simp [storeCells] at hst'; exact hst'.symm
    subst hw
    simp [Builtin.append_, run_underlying' hu, sizeOf, typeInfo, hi, Builtin.lenOf, Builtin.firstCells, show n ≤ cap by omega, storeCells]
  · have hf := cells_of_rd (P := C.P) (c := c) hrl (hr w s)
    simp [Builtin.append_, run_underlying' hu, sizeOf, typeInfo, hi, hz, Builtin.lenOf, hroom, hf, addr_add, hst']
/-- 'clear(s)' of a slice. -/
theorem EX.clear {d : Option Tmp} {t e z b off n cap : Nat} {T : TypeId} {fr : Nat × Nat} {x : Operand} {l l' zs : List Value} {H' : List HP} (hu : C.P.underlying t = some (.slice e)) (hz : zeroIs C.P e (.agg ⟨zs⟩) ∨ ∃ u, zeroIs C.P e u ∧ cl u = zs) (hzl : zs.length = z) (hsw : Sw H (bl b T l fr) (bl b T l' fr) H') (hx : ev L x = some (.slice (some ⟨b, off, none⟩) n cap)) (ho : zs.all one = true) (hst : Sts l off (rep n zs) l') (hfr : fr.2 ≤ off ∨ off + n * z ≤ fr.1) (hd : dOk d C.n = true := by rfl) :
    EX C ⟨d, .call { callee := .builtin .clear, args := #[x], argTypes := #[t] }, ty, pos, af, g⟩ L H (Out1 (pl d (.tuple #[]) L) H') := by
  refine EX.of_valueO hd fun a w k s => ?_
  obtain ⟨u, hzu, hcu⟩ : ∃ u, zeroIs C.P e u ∧ cl u = zs := by
    rcases hz with h | h
    · exact ⟨_, h, by simp [cl]⟩
    · exact h
  obtain ⟨M, r, q⟩ := hsw.rm
  have hc : u.cells = ⟨zs⟩ := by rw [← hcu, ← cl_eq]
  have hrr := rep_range n ⟨zs⟩
  simp only [List.size_toArray] at hrr
  have hzc : Builtin.zeroCells u.cells n = ⟨rep n zs⟩ := by rw [hc]; exact hrr
  have hone : ∀ (n : Nat), ∀ v ∈ rep n zs, one v = true := by
    intro n
    induction n with
    | zero => intro v hv; simp [rep] at hv
    | succ n ih => intro v hv; simp only [rep, List.mem_append] at hv; rcases hv with hv | hv
                   · rw [List.all_eq_true] at ho; exact ho v hv
                   · exact ih v hv
  obtain ⟨w', hst', s2⟩ := run_storeCells (P := C.P) (b := b) (T := T) (fr := fr) (rep n zs) l l' off 0 w (s.rm r) hst (hone n) (fun j h1 h2 => by rw [rep_len, hzl] at h2; rcases hfr with h | h <;> omega)
  refine ⟨_, w', _, ?_, s2.unrm q, rfl, rfl⟩
  cases n with
  | zero =>
    have hw : w' = w := by simp [rep, storeCells] at hst'; exact hst'.symm
    subst hw
    simp [execOp, resolve, invoke, builtin, k.eval hx, Builtin.clear_, run_underlying' hu]
  | succ n => simp [execOp, resolve, invoke, builtin, k.eval hx, Builtin.clear_, run_underlying' hu, hzu w, hzc, hst']
theorem EX.clearNil {d : Option Tmp} {t e cap : Nat} {x : Operand} {q : Option Addr} (hu : C.P.underlying t = some (.slice e)) (hx : ev L x = some (.slice q 0 cap)) (hd : dOk d C.n = true := by rfl) :
    EX C ⟨d, .call { callee := .builtin .clear, args := #[x], argTypes := #[t] }, ty, pos, af, g⟩ L H (Out1 (pl d (.tuple #[]) L) H) := by
  refine EX.of_valueO hd fun a w k s => ⟨_, w, H, ?_, s, rfl, rfl⟩
  cases q <;> simp [execOp, resolve, invoke, builtin, k.eval hx, Builtin.clear_, run_underlying' hu]
end
/-! #### a slice's part laid open -/
/-- What a slice value that is not nil owns, laid open. -/
theorem SlP.open {β : Base} {F : List HP} {w : World} {z n cap : Nat} {q : Option Addr} {cs : List Value} (s : Sat β (SlP z (.slice q n cap) cs n :: F) w) :
    (q = none ∧ cap = 0 ∧ cs = [] ∧ n = 0 ∧ Sat β F w) ∨ ∃ (x : Nat × List Value × List Value × TypeId × (Nat × Nat)), q = some ⟨x.1, x.2.1.length, none⟩ ∧ cs.length = n * z ∧ cap * z = cs.length + x.2.2.1.length ∧ n ≤ cap ∧ cap ≤ maxLen ∧ (x.2.2.2.2.2 ≤ x.2.1.length ∨ x.2.1.length + cs.length + x.2.2.1.length ≤ x.2.2.2.2.1) ∧ Sat β (bl x.1 x.2.2.2.1 (x.2.1 ++ cs ++ x.2.2.1) x.2.2.2.2 :: F) w := by
  rcases slP_of_sat s with ⟨a1, a2, a3, s'⟩ | ⟨b, c, pre, sp, T, fr, a1, a2, a3, a4, a5, a6, s'⟩
  · cases a1; exact .inl ⟨rfl, rfl, a2, a3, s'⟩
  · cases a1; exact .inr ⟨(b, pre, sp, T, fr), rfl, a2, a3, a4, a5, a6, s'⟩
theorem SlP.nilIn {β : Base} {F : List HP} {w : World} {z : Nat} (s : Sat β F w) : Sat β (SlP z (.slice none 0 0) [] 0 :: F) w := (Sat.head_unpur trivial s).head fun _ _ => SlP.nil
/-- A walk with a slice's part at hand: nil, or laid open. -/
theorem T.slP {C : Cx} {c : Code} {L : Env} {F : List HP} {Q : Exit → Act → World → Prop} {z n cap : Nat} {q : Option Addr} {cs : List Value}
    (hnil : q = none → cap = 0 → cs = [] → n = 0 → T C c L F Q)
    (hsome : ∀ b pre sp T' fr, q = some ⟨b, pre.length, none⟩ → cs.length = n * z → cap * z = cs.length + sp.length → n ≤ cap → cap ≤ maxLen → (fr.2 ≤ pre.length ∨ pre.length + cs.length + sp.length ≤ fr.1) → T C c L (bl b T' (pre ++ cs ++ sp) fr :: F) Q) : T C c L (SlP z (.slice q n cap) cs n :: F) Q := fun a w k s => by
  rcases SlP.open s with ⟨h1, h2, h3, h4, s'⟩ | ⟨⟨b, pre, sp, T', fr⟩, h1, h2, h3, h4, h5, h6, s'⟩
  · exact hnil h1 h2 h3 h4 a w k s'
  · exact hsome b pre sp T' fr h1 h2 h3 h4 h5 h6 a w k s'
theorem Pk.pre : ∀ (R F : List HP), Pk (R ++ F) R F
  | [], _ => .n
  | _ :: R, F => .c .h (Pk.pre R F)
theorem Pk.t {x : HP} {H A F : List HP} (p : Pk H A F) : Pk (x :: H) A (x :: F) := by
  induction p with
  | n => exact .n
  | c r _ ih => exact .c (.t r) ih
theorem Rm.app {x : HP} {F : List HP} : ∀ (R : List HP), Rm (R ++ x :: F) x (R ++ F)
  | [] => .h
  | _ :: R => .t (Rm.app R)
theorem TL.slP {C : Cx} {ops : Array Oper} {os : List Oper} {L : Env} {F : List HP} {Q : Exit → Act → World → Prop} {z n cap : Nat} {q : Option Addr} {cs : List Value}
    (hnil : q = none → cap = 0 → cs = [] → n = 0 → TL C ops os L F Q)
    (hsome : ∀ b pre sp T' fr, q = some ⟨b, pre.length, none⟩ → cs.length = n * z → cap * z = cs.length + sp.length → n ≤ cap → cap ≤ maxLen → (fr.2 ≤ pre.length ∨ pre.length + cs.length + sp.length ≤ fr.1) → TL C ops os L (bl b T' (pre ++ cs ++ sp) fr :: F) Q) : TL C ops os L (SlP z (.slice q n cap) cs n :: F) Q := fun a w k s => by
  rcases SlP.open s with ⟨h1, h2, h3, h4, s'⟩ | ⟨⟨b, pre, sp, T', fr⟩, h1, h2, h3, h4, h5, h6, s'⟩
  · exact hnil h1 h2 h3 h4 a w k s'
  · exact hsome b pre sp T' fr h1 h2 h3 h4 h5 h6 a w k s'
theorem gt_of {l : List Value} {k : Nat} {v : Value} (h : l[k]? = some v) : gt l k = some v := by rw [gt_eq]; exact h
theorem gt_sl {pre cs sp : List Value} {k j : Nat} {v : Value} (h : cs[j]? = some v) (hk : k = pre.length + j) : gt (pre ++ cs ++ sp) k = some v := by
  subst hk; exact gt_of (gt_mid h)
theorem SlP.bound {β : Base} {F : List HP} {w : World} {z n cap : Nat} {q : Option Addr} {cs : List Value} (s : Sat β (SlP z (.slice q n cap) cs n :: F) w) : cs.length = n * z ∧ n ≤ cap ∧ cap ≤ 9223372036854775807 := by
  rcases SlP.open s with ⟨h1, h2, h3, h4, s'⟩ | ⟨⟨b, pre, sp, T', fr⟩, h1, h2, h3, h4, h5, h6, s'⟩
  · subst h2; subst h3; subst h4; simp
  · exact ⟨h2, h4, by unfold maxLen at h5; omega⟩
/-- Facts that follow of what is at hand. -/
theorem T.have {C : Cx} {c : Code} {L : Env} {H : List HP} {Q : Exit → Act → World → Prop} {φ : Prop} (hk : ∀ w, Sat C.β H w → φ) (h : φ → T C c L H Q) : T C c L H Q := fun a w k s => h (hk w s) a w k s
end Go.SL
