/- Own layer: calls in the form that a printed walk uses; structs put together; what the loops over slices need. -/
import Derived.Test.YtdekaodgbpngmaaSLf
namespace Go.SL
open Go Go.RowKit

inductive Evs (L : Env) : List Operand → List Value → Prop
  | n : Evs L [] []
  | c {x : Operand} {v : Value} {xs : List Operand} {vs : List Value} : ev L x = some v → Evs L xs vs → Evs L (x :: xs) (v :: vs)
theorem Evs.map {L : Env} {xs : List Operand} {vs : List Value} (h : Evs L xs vs) : xs.map (ev L) = vs.map some := by
  induction h with
  | n => rfl
  | c h1 _ ih => rw [List.map_cons, List.map_cons, h1, ih]
structure Callable (P : Program) (f : FuncId) (fn : Func) : Prop where
  hf : P.funcs[f]? = some fn
  hb : fn.body.isNone = false
  hn : (fn.name == "runtime.NumGoroutine") = false
section
variable {C : Cx} {L : Env} {ty : TypeId} {pos : String} {af : Array Edge} {g : Option (Nat × Bool)} {H : List HP}
theorem EX.fnO {d : Option Tmp} {f : FuncId} {fn : Func} {xs : List Operand} {ats : Array TypeId} {Pre F : List HP} {vs : List Value} {Post : Value → List HP → Prop}
    (cf : Callable C.P f fn) (hv : Evs L xs vs) (spec : FSpec C.P C.β f ⟨vs⟩ Pre Post) (hp : Pk H Pre F) (hd : dOk d C.n = true) :
    EX C ⟨d, .call { callee := .value (.func f), args := ⟨xs⟩, argTypes := ats }, ty, pos, af, g⟩ L H (fun L' H' => ∃ v Hs, Post v Hs ∧ L' = pl d v L ∧ H' = Hs ++ F) :=
  EX.call cf.hf cf.hb cf.hn (by simpa using hv.map) spec hp hd
theorem EX.fn {d : Nat} {f : FuncId} {fn : Func} {xs : List Operand} {ats : Array TypeId} {Pre F : List HP} {vs : List Value} {Post : Value → List HP → Prop}
    (cf : Callable C.P f fn) (hv : Evs L xs vs) (spec : FSpec C.P C.β f ⟨vs⟩ Pre Post) (hp : Pk H Pre F) (hd : Nat.blt d C.n = true := by rfl) :
    EX C ⟨some d, .call { callee := .value (.func f), args := ⟨xs⟩, argTypes := ats }, ty, pos, af, g⟩ L H (fun L' H' => ∃ v Hs, Post v Hs ∧ L' = (d, v) :: L ∧ H' = Hs ++ F) := EX.fnO cf hv spec hp hd
theorem EX.fn_0 {f : FuncId} {fn : Func} {xs : List Operand} {ats : Array TypeId} {Pre F : List HP} {vs : List Value} {Post : Value → List HP → Prop}
    (cf : Callable C.P f fn) (hv : Evs L xs vs) (spec : FSpec C.P C.β f ⟨vs⟩ Pre Post) (hp : Pk H Pre F) :
    EX C ⟨none, .call { callee := .value (.func f), args := ⟨xs⟩, argTypes := ats }, ty, pos, af, g⟩ L H (fun L' H' => ∃ v Hs, Post v Hs ∧ L' = L ∧ H' = Hs ++ F) := EX.fnO cf hv spec hp rfl
/-- A call that is known to end in one way. -/
def Ret (v : Value) (Hs : List HP) : Value → List HP → Prop := fun v' Hs' => v' = v ∧ Hs' = Hs
theorem EX.ofRet {o : Oper} {F Hs : List HP} {v : Value} {d : Option Tmp} (h : EX C o L H (fun L' H' => ∃ v' Hs', Ret v Hs v' Hs' ∧ L' = pl d v' L ∧ H' = Hs' ++ F)) : EX C o L H (Out1 (pl d v L) (Hs ++ F)) := fun a w k s Q =>
  Oper.wpIn_mono' (fun _ _ ⟨_, _, ⟨_, _, ⟨e1, e2⟩, e3, e4⟩, k', s'⟩ => ⟨_, _, ⟨by rw [e3, e1], by rw [e4, e2]⟩, k', s'⟩) (h a w k s Q)
theorem EX.fn1 {d : Nat} {f : FuncId} {fn : Func} {xs : List Operand} {ats : Array TypeId} {Pre F Hs : List HP} {v : Value} {vs : List Value}
    (cf : Callable C.P f fn) (hv : Evs L xs vs) (spec : FSpec C.P C.β f ⟨vs⟩ Pre (Ret v Hs)) (hp : Pk H Pre F) (hd : Nat.blt d C.n = true := by rfl) :
    EX C ⟨some d, .call { callee := .value (.func f), args := ⟨xs⟩, argTypes := ats }, ty, pos, af, g⟩ L H (Out1 ((d, v) :: L) (Hs ++ F)) := EX.ofRet (d := some d) (EX.fnO cf hv spec hp hd)
theorem EX.fn1_0 {f : FuncId} {fn : Func} {xs : List Operand} {ats : Array TypeId} {Pre F Hs : List HP} {v : Value} {vs : List Value}
    (cf : Callable C.P f fn) (hv : Evs L xs vs) (spec : FSpec C.P C.β f ⟨vs⟩ Pre (Ret v Hs)) (hp : Pk H Pre F) :
    EX C ⟨none, .call { callee := .value (.func f), args := ⟨xs⟩, argTypes := ats }, ty, pos, af, g⟩ L H (Out1 L (Hs ++ F)) := EX.ofRet (d := none) (EX.fnO cf hv spec hp rfl)
/-- The call of a function value. -/
theorem EX.fvO {d : Option Tmp} {f : FuncId} {fn : Func} {t : Operand} {xs : List Operand} {ats : Array TypeId} {Pre F : List HP} {us ws vs : List Value} {Post : Value → List HP → Prop}
    (cf : Callable C.P f fn) (ht : ev L t = some (.func (.func f) ⟨us⟩ ⟨ws⟩)) (hv : Evs L xs vs) (spec : FSpec C.P C.β f ⟨us ++ vs ++ ws⟩ Pre Post) (hp : Pk H Pre F) (hd : dOk d C.n = true) :
    EX C ⟨d, .call { callee := .value t, args := ⟨xs⟩, argTypes := ats }, ty, pos, af, g⟩ L H (fun L' H' => ∃ v Hs, Post v Hs ∧ L' = pl d v L ∧ H' = Hs ++ F) := by
  intro a w k s Q
  refine ⟨fun _ _ => trivial, ?_⟩
  show Oper.uponIn _ _ _ _ _ _ _ ((Oper.semAt C.ρ a.eval _).run C.P w)
  rw [Oper.semAt_eq _ _ _ (fun c hc => by cases hc)]
  have hargs : (⟨xs⟩ : Array Operand).map a.eval = ⟨vs⟩ := by
    have h1 := map_eval k xs vs (by simpa using hv.map)
    rw [← h1]; simp
  have hrun : (execOp a.eval (⟨d, .call { callee := .value t, args := ⟨xs⟩, argTypes := ats }, ty, pos, af, g⟩ : Oper)).run C.P w = .ok (.enter f ⟨us ++ vs ++ ws⟩) w := by
    have hnm' : fn.name ≠ "runtime.NumGoroutine" := by simpa using cf.hn
    have hb' : fn.body ≠ none := by intro e; have := cf.hb; rw [e] at this; cases this
    simp [execOp, resolve, k.eval ht, Deferred.ofValue, invoke, callFunc, hargs, cf.hf, hnm', hb']
  rw [hrun]
  refine ⟨fun h => by simp [FW] at h, ?_⟩
  have hc := (callsIn_wide (n := 0 - 1)).2 ((spec F w (s.pk hp)).mono (R' := fun e w'' => match e with
      | .returned v => ∃ L' H', (∃ v Hs, Post v Hs ∧ L' = pl d v L ∧ H' = Hs ++ F) ∧ Knows C.n C.D (a.put d v) L' ∧ Sat C.β H' w''
      | .panicked chain => Q (.panic chain) a w''
      | .outgrown => LetsOut Q) (fun e w' ⟨v, Hs, he, hpo, s'⟩ => by
        subst he
        exact ⟨_, _, ⟨v, Hs, hpo, rfl, rfl⟩, k.put' d v hd, s'⟩))
  obtain ⟨h1, h2⟩ := hc
  refine ⟨trivial, fun cs hr => ?_⟩
  obtain ⟨e, w'', fr, hR, hcomes, hfn, hleave⟩ := h2 cs (room_wide _)
  refine ⟨e, w'', fr, ?_, hcomes, hfn, hleave⟩
  cases e <;> exact hR

theorem EX.fv {d : Nat} {f : FuncId} {fn : Func} {t : Operand} {xs : List Operand} {ats : Array TypeId} {Pre F : List HP} {us ws vs : List Value} {Post : Value → List HP → Prop}
    (cf : Callable C.P f fn) (ht : ev L t = some (.func (.func f) ⟨us⟩ ⟨ws⟩)) (hv : Evs L xs vs) (spec : FSpec C.P C.β f ⟨us ++ vs ++ ws⟩ Pre Post) (hp : Pk H Pre F) (hd : Nat.blt d C.n = true := by rfl) :
    EX C ⟨some d, .call { callee := .value t, args := ⟨xs⟩, argTypes := ats }, ty, pos, af, g⟩ L H (fun L' H' => ∃ v Hs, Post v Hs ∧ L' = (d, v) :: L ∧ H' = Hs ++ F) := EX.fvO cf ht hv spec hp hd
theorem EX.fv1 {d : Nat} {f : FuncId} {fn : Func} {t : Operand} {xs : List Operand} {ats : Array TypeId} {Pre F Hs : List HP} {us ws vs : List Value} {v : Value}
    (cf : Callable C.P f fn) (ht : ev L t = some (.func (.func f) ⟨us⟩ ⟨ws⟩)) (hv : Evs L xs vs) (spec : FSpec C.P C.β f ⟨us ++ vs ++ ws⟩ Pre (Ret v Hs)) (hp : Pk H Pre F) (hd : Nat.blt d C.n = true := by rfl) :
    EX C ⟨some d, .call { callee := .value t, args := ⟨xs⟩, argTypes := ats }, ty, pos, af, g⟩ L H (Out1 ((d, v) :: L) (Hs ++ F)) := EX.ofRet (d := some d) (EX.fvO cf ht hv spec hp hd)
/-! ### structs put together -/
inductive Fill (pl : List (Nat × Nat)) : List Value → List (Nat × Value) → List Value → Prop
  | n {z : List Value} : Fill pl z [] z
  | c {z z' r vs : List Value} {i off size : Nat} {v : Value} {ps : List (Nat × Value)} : pl[i]? = some (off, size) → cl v = vs → vs.length = size → vs.isEmpty = false → Sts z off vs z' → Fill pl z' ps r → Fill pl z ((i, v) :: ps) r
theorem Sts.len {l l' vs : List Value} {k : Nat} (h : Sts l k vs l') : l'.length = l.length ∧ (vs ≠ [] → k + vs.length ≤ l.length) := by
  induction h with
  | n => simp
  | @c l l1 l2 k v vs h1 h2 ih =>
    obtain ⟨hk, he⟩ := h1.eq
    subst he
    simp at ih
    refine ⟨ih.1, fun _ => ?_⟩
    cases vs with
    | nil => simp; omega
    | cons u us => have := ih.2 (by simp); simp at this ⊢; omega
theorem foldl_sts : ∀ (vs l l' : List Value) (k j : Nat), Sts l (k + j) vs l' → (vs.zipIdx j).foldl (fun (cs : Array Value) (x : Value × Nat) => cs.setIfInBounds (k + x.2) x.1) ⟨l⟩ = ⟨l'⟩ := by
  intro vs
  induction vs with
  | nil => intro l l' k j h; cases h; rfl
  | cons v vs ih =>
    intro l l' k j h
    cases h with
    | @c _ l1 _ _ _ _ h1 h2 =>
      obtain ⟨hk, he⟩ := h1.eq
      subst he
      simp only [List.zipIdx_cons, List.foldl_cons]
      have : (⟨l⟩ : Array Value).setIfInBounds (k + j) v = ⟨l.set (k + j) v⟩ := by simp
      rw [this]
      exact ih _ l' k (j + 1) h2
theorem fill_of {pl : List (Nat × Nat)} {z r : List Value} {ps : List (Nat × Value)} (h : Fill pl z ps r) : Instr.fill ((⟨pl⟩ : Array (Nat × Nat))[·]?) ⟨z⟩ ps = some ⟨r⟩ := by
  induction h with
  | n => rfl
  | @c z z' r vs i off size v ps h1 h2 h3 he h4 _ ih =>
    have hpl : (⟨pl⟩ : Array (Nat × Nat))[i]? = some (off, size) := by simpa using h1
    have hc : v.cells = ⟨vs⟩ := by rw [← h2, ← cl_eq]
    have hl := h4.len.2 (by intro e; subst e; cases he)
    simp only [Instr.fill, hpl, hc]
    rw [if_neg (by simp [h3]; omega)]
    have := foldl_sts vs z z' off 0 (by simpa using h4)
    rw [show (⟨vs⟩ : Array Value).zipIdx = ⟨vs.zipIdx 0⟩ by apply Array.ext'; simp]
    rw [List.foldl_toArray'] 
    · rw [this]; exact ih
    · simp
end
end Go.SL
