/- Own layer: what an activation's slots are known to hold; judgements for code, regions and operations; control flow; calls. -/
import Derived.Test.YtdekaodgbpngmaaSLa
import Derived.Laws.Sem
import Derived.WalkKit
namespace Go.SL
open Go Go.RowKit

theorem nbeq_ne {a b : Nat} (h : a ≠ b) : Nat.beq a b = false := by
  cases e : Nat.beq a b with
  | false => rfl
  | true => exact absurd (Nat.eq_of_beq_eq_true e) h
def lk : List (Nat × Value) → Nat → Option Value
  | [], _ => none
  | (k, v) :: r, t => bif Nat.beq k t then some v else lk r t
def ev (L : List (Nat × Value)) : Operand → Option Value
  | .tmp t => lk L t
  | .const v => some v
  | .global g => some (.pointer (some ⟨g, 0, none⟩))
  | .func f => some (.func (.func f) #[] #[])
structure Knows (n : Nat) (D : List Deferred) (a : Act) (L : List (Nat × Value)) : Prop where
  size : a.tmps.size = n
  defers : a.defers = D
  get : ∀ t v, lk L t = some v → a.tmps[t]? = some v
theorem Knows.eval {n : Nat} {D : List Deferred} {a : Act} {L : List (Nat × Value)} (k : Knows n D a L) {x : Operand} {v : Value} (h : ev L x = some v) : a.eval x = v := by
  cases x with
  | tmp t => have := k.get t v h; simp [Act.eval, this]
  | const c => simpa [ev, Act.eval] using h
  | global g => simpa [ev, Act.eval] using h
  | func f => simpa [ev, Act.eval] using h
theorem Knows.put {n : Nat} {D : List Deferred} {a : Act} {L : List (Nat × Value)} (k : Knows n D a L) (d : Nat) (v : Value) (hd : Nat.blt d n = true) : Knows n D (a.put (some d) v) ((d, v) :: L) := by
  have hd' : d < n := by simpa [Nat.blt_eq] using hd
  refine ⟨by simp [Act.put, k.size], k.defers, fun t u h => ?_⟩
  simp only [lk] at h
  by_cases e : d = t
  · subst e
    simp at h; subst h
    simp [Act.put, k.size, hd']
  · have : Nat.beq d t = false := nbeq_ne e
    rw [this] at h; simp at h
    have := k.get t u h
    simp only [Act.put, Array.getElem?_setIfInBounds]
    rw [if_neg e]; exact this
theorem Knows.weaken {n : Nat} {D : List Deferred} {a : Act} {L K : List (Nat × Value)} (k : Knows n D a L) (h : ∀ t v, lk K t = some v → lk L t = some v) : Knows n D a K :=
  ⟨k.size, k.defers, fun t v e => k.get t v (h t v e)⟩

/-- What is known behind a value's coming. -/
def pl (d : Option Tmp) (v : Value) (L : List (Nat × Value)) : List (Nat × Value) := match d with
  | some d => (d, v) :: L
  | none => L
def dOk (d : Option Tmp) (n : Nat) : Bool := match d with
  | some d => Nat.blt d n
  | none => true
theorem Knows.put' {n : Nat} {D : List Deferred} {a : Act} {L : List (Nat × Value)} (k : Knows n D a L) (d : Option Tmp) (v : Value) (hd : dOk d n = true) : Knows n D (a.put d v) (pl d v L) := by
  cases d with
  | none => exact k
  | some d => exact k.put d v hd
/-- The fence of whoever may do anything, in a round or in none. -/
def FW (ρ : Option Nat) : Fence := { fn := fun _ => True, depth := none, alive := false, round := ρ }
structure Cx where
  P : Program
  β : Base
  n : Nat
  D : List Deferred
  ρ : Option Nat
abbrev Env := List (Nat × Value)

/-- The code 'c', begun with slots 'L' and parts 'H', comes to 'Q'. -/
def T (C : Cx) (c : Code) (L : Env) (H : List HP) (Q : Exit → Act → World → Prop) : Prop :=
  ∀ a w, Knows C.n C.D a L → Sat C.β H w → c.wpIn (FW C.ρ) 0 C.P Q a w
/-- What is asked at a place. -/
def G (C : Cx) (L : Env) (H : List HP) (K : Act → World → Prop) : Prop := ∀ a w, Knows C.n C.D a L → Sat C.β H w → K a w

def wpL (F : Fence) (P : Program) (ops : Array Oper) (Q : Exit → Act → World → Prop) : List Oper → Act → World → Prop
  | [], a, w => Q .normal a w
  | o :: os, a, w => if Region.wanted o (yielded ops a.tmps) then o.wpIn F 0 P a w (wpL F P ops Q os) Q else wpL F P ops Q os (a.put o.dst undef) w
/-- The operations 'os' of the region 'ops'. -/
def TL (C : Cx) (ops : Array Oper) (os : List Oper) (L : Env) (H : List HP) (Q : Exit → Act → World → Prop) : Prop :=
  ∀ a w, Knows C.n C.D a L → Sat C.β H w → wpL (FW C.ρ) C.P ops Q os a w

theorem Oper.wpIn_mono' {F : Fence} {n : Nat} {P : Program} {o : Oper} {a : Act} {w : World} {K K' : Act → World → Prop} {Q : Exit → Act → World → Prop} (h : ∀ a w, K a w → K' a w)
    (hh : o.wpIn F n P a w K Q) : o.wpIn F n P a w K' Q := by
  unfold Oper.wpIn at *
  refine ⟨hh.1, ?_⟩
  have hh := hh.2
  generalize (Oper.semAt F.round a.eval o).run P w = r at *
  cases r with
  | ok n w' =>
    cases n <;> simp only [Oper.uponIn] at hh ⊢ <;> try exact h _ _ hh
    case enter f args =>
      refine ⟨hh.1, hh.2.1, fun cs hr => ?_⟩
      obtain ⟨e, w'', fr, r, rest⟩ := hh.2.2 cs hr
      refine ⟨e, w'', fr, ?_, rest⟩
      cases e <;> first | exact h _ _ r | exact r
    case row row args => exact ⟨hh.1, RowsIn.mono hh.2 fun v w'' he => h _ _ he⟩
    case round l f tmps assign body =>
      refine ⟨hh.1, RoundIn.mono hh.2 fun e w'' he => ?_⟩
      cases e <;> first | exact h _ _ he | exact he
  | halt x w' => cases x <;> exact hh
theorem wpOpsIn_of_wpL {F : Fence} (hF : ∀ f, F.fn f) {P : Program} {ops : Array Oper} {Q : Exit → Act → World → Prop} : ∀ (os : List Oper) (k : Nat), ops.toList.drop k = os → ∀ a w, wpL F P ops Q os a w → wpOpsIn F 0 P ops Q (List.range' k os.length) a w := by
  intro os
  induction os with
  | nil => exact fun k _ a w h => h
  | cons o os ih =>
    intro k hk a w h
    have ho : ops[k]? = some o := by
      have h1 : ops.toList[k]? = some o := by
        have := congrArg (fun l => l[0]?) hk
        simpa using this
      simpa using h1
    have hr : ops.toList.drop (k + 1) = os := by
      have := congrArg List.tail hk
      simpa [List.tail_drop] using this
    simp only [List.length_cons, List.range'_succ, wpOpsIn, ho]
    simp only [wpL] at h
    split
    · rename_i hw
      simp only [hw, if_true] at h
      exact Oper.wpIn_mono' (fun a w h => ih (k + 1) hr a w h) h
    · rename_i hw
      simp only [hw, if_false, Bool.false_eq_true] at h
      exact ⟨fun _ _ => hF _, ih (k + 1) hr _ _ h⟩
theorem T.region {C : Cx} {id : Nat} {ops : Array Oper} {L : Env} {H : List HP} {Q : Exit → Act → World → Prop} (h : TL C ops ops.toList L H Q) : T C (.region id ops false) L H Q := by
  intro a w k s
  have h1 := wpOpsIn_of_wpL (F := FW C.ρ) (fun _ => trivial) ops.toList 0 (by simp) a w (h a w k s)
  refine wpIn_region ?_
  rw [List.range_eq_range']
  simpa using h1
theorem TL.nil {C : Cx} {ops : Array Oper} {L : Env} {H : List HP} {Q : Exit → Act → World → Prop} (h : G C L H (Q .normal)) : TL C ops [] L H Q := h

/-! ### control flow -/
theorem T.seq {C : Cx} {x y : Code} {L : Env} {H : List HP} {Q : Exit → Act → World → Prop} (h : T C x L H (Exit.then (y.wpIn (FW C.ρ) 0 C.P Q) Q)) : T C (.seq x y) L H Q :=
  fun a w k s => wpIn_seq (h a w k s)
theorem G.next {C : Cx} {y : Code} {L : Env} {H : List HP} {Q : Exit → Act → World → Prop} {R : Exit → Act → World → Prop} (h : T C y L H Q) : G C L H (Exit.then (y.wpIn (FW C.ρ) 0 C.P Q) R .normal) := h
theorem T.skip {C : Cx} {L : Env} {H : List HP} {Q : Exit → Act → World → Prop} (h : G C L H (Q .normal)) : T C .skip L H Q := fun a w k s => wpIn_skip (h a w k s)
theorem T.exit {C : Cx} {id : Nat} {L : Env} {H : List HP} {Q : Exit → Act → World → Prop} (h : G C L H (Q (.exit id))) : T C (.exit id) L H Q := fun a w k s => wpIn_exit (h a w k s)
theorem T.ret {C : Cx} {L : Env} {H : List HP} {Q : Exit → Act → World → Prop} (h : G C L H (Q .ret)) : T C .ret L H Q := fun a w k s => wpIn_ret (h a w k s)
theorem T.block {C : Cx} {id : Nat} {c : Code} {L : Env} {H : List HP} {Q : Exit → Act → World → Prop} (h : T C c L H (Exit.inBlock id Q)) : T C (.block id c) L H Q := fun a w k s => wpIn_block (h a w k s)
theorem G.inBlock {C : Cx} {id : Nat} {L : Env} {H : List HP} {Q : Exit → Act → World → Prop} (h : G C L H (Q .normal)) : G C L H (Exit.inBlock id Q .normal) := h
theorem G.exitHere {C : Cx} {id : Nat} {L : Env} {H : List HP} {Q : Exit → Act → World → Prop} (h : G C L H (Q .normal)) : G C L H (Exit.inBlock id Q (.exit id)) := fun a w k s => by
  simp only [Exit.inBlock, if_true]; exact h a w k s
theorem G.exitOn {C : Cx} {id id' : Nat} {L : Env} {H : List HP} {Q : Exit → Act → World → Prop} (hne : Nat.beq id' id = false) (h : G C L H (Q (.exit id'))) : G C L H (Exit.inBlock id Q (.exit id')) := fun a w k s => by
  have : id' ≠ id := by intro e; subst e; simp at hne
  simp only [Exit.inBlock, this, if_false]; exact h a w k s
theorem G.exitThen {C : Cx} {id : Nat} {L : Env} {H : List HP} {K : Act → World → Prop} {Q : Exit → Act → World → Prop} (h : G C L H (Q (.exit id))) : G C L H (Exit.then K Q (.exit id)) := h
theorem G.retThen {C : Cx} {L : Env} {H : List HP} {K : Act → World → Prop} {Q : Exit → Act → World → Prop} (h : G C L H (Q .ret)) : G C L H (Exit.then K Q .ret) := h
theorem G.retBlock {C : Cx} {id : Nat} {L : Env} {H : List HP} {Q : Exit → Act → World → Prop} (h : G C L H (Q .ret)) : G C L H (Exit.inBlock id Q .ret) := h
theorem T.cond {C : Cx} {c : Operand} {x y : Code} {b : Bool} {L : Env} {H : List HP} {Q : Exit → Act → World → Prop} (hc : ev L c = some (.bool b))
    (ht : b = true → T C x L H Q) (hf : b = false → T C y L H Q) : T C (.cond c x y) L H Q :=
  fun a w k s => wpIn_cond_split (k.eval hc) (fun e => ht e a w k s) (fun e => hf e a w k s)
theorem T.cond_true {C : Cx} {c : Operand} {x y : Code} {L : Env} {H : List HP} {Q : Exit → Act → World → Prop} (hc : ev L c = some (.bool true)) (ht : T C x L H Q) : T C (.cond c x y) L H Q :=
  fun a w k s => wpIn_cond_true (k.eval hc) (ht a w k s)
theorem T.cond_false {C : Cx} {c : Operand} {x y : Code} {L : Env} {H : List HP} {Q : Exit → Act → World → Prop} (hc : ev L c = some (.bool false)) (ht : T C y L H Q) : T C (.cond c x y) L H Q :=
  fun a w k s => wpIn_cond_false (k.eval hc) (ht a w k s)

/-! ### turning what is known -/
theorem T.conv {C : Cx} {c : Code} {L : Env} {H K : List HP} {Q : Exit → Act → World → Prop} (hk : ∀ w, Sat C.β H w → Sat C.β K w) (h : T C c L K Q) : T C c L H Q := fun a w k s => h a w k (hk w s)
theorem TL.conv {C : Cx} {ops : Array Oper} {os : List Oper} {L : Env} {H K : List HP} {Q : Exit → Act → World → Prop} (hk : ∀ w, Sat C.β H w → Sat C.β K w) (h : TL C ops os L K Q) : TL C ops os L H Q := fun a w k s => h a w k (hk w s)
theorem G.conv {C : Cx} {L : Env} {H K : List HP} {Q : Act → World → Prop} (hk : ∀ w, Sat C.β H w → Sat C.β K w) (h : G C L K Q) : G C L H Q := fun a w k s => h a w k (hk w s)
theorem T.convx {C : Cx} {c : Code} {L : Env} {H : List HP} {α : Type} {K : α → List HP} {φ : α → Prop} {Q : Exit → Act → World → Prop} (hk : ∀ w, Sat C.β H w → ∃ x, φ x ∧ Sat C.β (K x) w) (h : ∀ x, φ x → T C c L (K x) Q) : T C c L H Q :=
  fun a w k s => let ⟨x, p, s'⟩ := hk w s; h x p a w k s'
theorem TL.convx {C : Cx} {ops : Array Oper} {os : List Oper} {L : Env} {H : List HP} {α : Type} {K : α → List HP} {φ : α → Prop} {Q : Exit → Act → World → Prop} (hk : ∀ w, Sat C.β H w → ∃ x, φ x ∧ Sat C.β (K x) w) (h : ∀ x, φ x → TL C ops os L (K x) Q) : TL C ops os L H Q :=
  fun a w k s => let ⟨x, p, s'⟩ := hk w s; h x p a w k s'
/-- Slots that are forgotten. -/
inductive Pr : Env → Env → Prop
  | n {L : Env} : Pr L []
  | k {x : Nat × Value} {L K : Env} : Pr L K → Pr (x :: L) (x :: K)
  | d {x : Nat × Value} {L K : Env} : Pr L K → lk K x.1 = none → Pr (x :: L) K
theorem Pr.get {L K : Env} (p : Pr L K) : ∀ t v, lk K t = some v → lk L t = some v := by
  induction p with
  | n => intro t v h; cases h
  | k _ ih =>
    intro t v h
    simp only [lk] at h ⊢
    revert h
    cases Nat.beq _ t with
    | true => exact fun h => h
    | false => exact fun h => ih t v h
  | @d x L K _ hn ih =>
    intro t v h
    simp only [lk]
    cases e : Nat.beq x.1 t with
    | true => have : x.1 = t := by simpa using e
              subst this; rw [hn] at h; cases h
    | false => exact ih t v h
theorem T.pr {C : Cx} {c : Code} {L K : Env} {H : List HP} {Q : Exit → Act → World → Prop} (p : Pr L K) (h : T C c K H Q) : T C c L H Q := fun a w k s => h a w (k.weaken p.get) s
theorem T.env {C : Cx} {c : Code} {L K : Env} {H : List HP} {Q : Exit → Act → World → Prop} (p : ∀ t v, lk K t = some v → lk L t = some v) (h : T C c K H Q) : T C c L H Q := fun a w k s => h a w (k.weaken p) s

/-! ### operations -/
/-- Is the operation's guard met? -/
def gd (ops : Array Oper) (L : Env) : Option (Nat × Bool) → Option Bool
  | none => some true
  | some (j, want) => match ((ops[j]?).bind (·.dst)).bind (lk L) with
    | some (.bool b) => some (b == want)
    | _ => none
theorem gd_spec {C : Cx} {ops : Array Oper} {L : Env} {o : Oper} {b : Bool} {a : Act} (k : Knows C.n C.D a L) (h : gd ops L o.guard = some b) : Region.wanted o (yielded ops a.tmps) = b := by
  unfold Region.wanted
  cases hg : o.guard with
  | none => rw [hg] at h; simp [gd] at h; simp [h]
  | some jw =>
    obtain ⟨j, want⟩ := jw
    rw [hg] at h
    simp only [gd] at h
    split at h
    · rename_i b' hb
      simp at h
      cases hd : (ops[j]?).bind (·.dst) with
      | none => rw [hd] at hb; cases hb
      | some t =>
        rw [hd] at hb
        have h2 := k.get t _ hb
        simp only [yielded, hd, Option.bind_some, h2]
        subst h
        cases b' <;> cases want <;> rfl
    · cases h

/-- A silent operation: with slots 'L' and a part 'c' at hand it yields 'v' and leaves the world as it is. -/
def SIL (C : Cx) (o : Oper) (L : Env) (c : HP) (v : Value) : Prop :=
  ∀ a w, Knows C.n C.D a L → Sat C.β [c] w → (execOp a.eval o).run C.P w = .ok (.value v) w
/-- An operation that turns the world: with slots 'L' and parts 'H' it comes to some slots and parts that 'Out' lets by. -/
def EX (C : Cx) (o : Oper) (L : Env) (H : List HP) (Out : Env → List HP → Prop) : Prop :=
  ∀ a w, Knows C.n C.D a L → Sat C.β H w → ∀ Q, o.wpIn (FW C.ρ) 0 C.P a w (fun a' w' => ∃ L' H', Out L' H' ∧ Knows C.n C.D a' L' ∧ Sat C.β H' w') Q
def Out1 (L' : Env) (H' : List HP) : Env → List HP → Prop := fun L H => L = L' ∧ H = H'

theorem noDefer_of_value {C : Cx} {o : Oper} {ρ : Operand → Value} {w w' : World} {v : Value} (h : (execOp ρ o).run C.P w = .ok (.value v) w') : Oper.semAt C.ρ ρ o = execOp ρ o := by
  refine Oper.semAt_eq _ _ _ fun c hc => ?_
  unfold execOp at h
  rw [hc] at h
  simp only [Sem.run_bind] at h
  cases hr : (resolve ρ c o.type).run C.P w with
  | ok d w'' => rw [hr] at h; simp at h
  | halt x w'' => rw [hr] at h; simp at h
theorem wpIn_of_value {C : Cx} {o : Oper} {a : Act} {w w' : World} {v : Value} {K : Act → World → Prop} {Q : Exit → Act → World → Prop} (h : (execOp a.eval o).run C.P w = .ok (.value v) w') (hK : K (a.put o.dst v) w') : o.wpIn (FW C.ρ) 0 C.P a w K Q := by
  refine ⟨fun _ _ => trivial, ?_⟩
  show Oper.uponIn _ _ _ _ _ _ _ ((Oper.semAt C.ρ a.eval o).run C.P w)
  rw [noDefer_of_value h, h]
  exact hK
theorem noDefer_of_skip {C : Cx} {o : Oper} {ρ : Operand → Value} {w w' : World} (h : (execOp ρ o).run C.P w = .ok .skip w') : Oper.semAt C.ρ ρ o = execOp ρ o := by
  refine Oper.semAt_eq _ _ _ fun c hc => ?_
  unfold execOp at h
  rw [hc] at h
  simp only [Sem.run_bind] at h
  cases hr : (resolve ρ c o.type).run C.P w with
  | ok d w'' => rw [hr] at h; simp at h
  | halt x w'' => rw [hr] at h; simp at h
theorem wpIn_of_skip {C : Cx} {o : Oper} {a : Act} {w w' : World} {K : Act → World → Prop} {Q : Exit → Act → World → Prop} (h : (execOp a.eval o).run C.P w = .ok .skip w') (hK : K (a.put o.dst undef) w') : o.wpIn (FW C.ρ) 0 C.P a w K Q := by
  refine ⟨fun _ _ => trivial, ?_⟩
  show Oper.uponIn _ _ _ _ _ _ _ ((Oper.semAt C.ρ a.eval o).run C.P w)
  rw [noDefer_of_skip h, h]
  exact hK

theorem TL.s0 {C : Cx} {ops : Array Oper} {op : Op} {ty : TypeId} {pos : String} {af : Array Edge} {g : Option (Nat × Bool)} {d : Nat} {os : List Oper} {L : Env} {H : List HP} {v : Value} {Q : Exit → Act → World → Prop}
    (h : SIL C ⟨some d, op, ty, pos, af, g⟩ L (pur True) v) (next : TL C ops os ((d, v) :: L) H Q) (hg : gd ops L g = some true := by rfl) (hd : Nat.blt d C.n = true := by rfl) : TL C ops (⟨some d, op, ty, pos, af, g⟩ :: os) L H Q := by
  intro a w k s
  simp only [wpL, gd_spec (C := C) (o := ⟨some d, op, ty, pos, af, g⟩) k hg, if_true]
  exact wpIn_of_value (h a w k ((Sat.head_unpur trivial (s.conv (K := []) fun _ _ => trivial)))) (next _ _ (k.put d v hd) s)
theorem TL.s1 {C : Cx} {ops : Array Oper} {op : Op} {ty : TypeId} {pos : String} {af : Array Edge} {g : Option (Nat × Bool)} {d : Nat} {os : List Oper} {L : Env} {H : List HP} {v : Value} {Q : Exit → Act → World → Prop} {c : HP} (i : Nat) (hi : nth H i = some c)
    (h : SIL C ⟨some d, op, ty, pos, af, g⟩ L c v) (next : TL C ops os ((d, v) :: L) H Q) (hg : gd ops L g = some true := by rfl) (hd : Nat.blt d C.n = true := by rfl) : TL C ops (⟨some d, op, ty, pos, af, g⟩ :: os) L H Q := by
  intro a w k s
  simp only [wpL, gd_spec (C := C) (o := ⟨some d, op, ty, pos, af, g⟩) k hg, if_true]
  exact wpIn_of_value (h a w k (s.mid hi)) (next _ _ (k.put d v hd) s)
/-- A guarded operation that is passed over. -/
theorem TL.pass {C : Cx} {ops : Array Oper} {op : Op} {ty : TypeId} {pos : String} {af : Array Edge} {g : Option (Nat × Bool)} {d : Nat} {os : List Oper} {L : Env} {H : List HP} {Q : Exit → Act → World → Prop}
    (hg : gd ops L g = some false) (next : TL C ops os ((d, undef) :: L) H Q) (hd : Nat.blt d C.n = true := by rfl) : TL C ops (⟨some d, op, ty, pos, af, g⟩ :: os) L H Q := by
  intro a w k s
  simp only [wpL, gd_spec (C := C) (o := ⟨some d, op, ty, pos, af, g⟩) k hg, if_false, Bool.false_eq_true]
  exact next _ _ (k.put d undef hd) s
theorem TL.pass0 {C : Cx} {ops : Array Oper} {op : Op} {ty : TypeId} {pos : String} {af : Array Edge} {g : Option (Nat × Bool)} {os : List Oper} {L : Env} {H : List HP} {Q : Exit → Act → World → Prop}
    (hg : gd ops L g = some false) (next : TL C ops os L H Q) : TL C ops (⟨none, op, ty, pos, af, g⟩ :: os) L H Q := by
  intro a w k s
  simp only [wpL, gd_spec (C := C) (o := ⟨none, op, ty, pos, af, g⟩) k hg, if_false, Bool.false_eq_true]
  exact next _ _ k s
theorem TL.ex {C : Cx} {ops : Array Oper} {o : Oper} {os : List Oper} {L : Env} {H : List HP} {Q : Exit → Act → World → Prop} {Out : Env → List HP → Prop}
    (h : EX C o L H Out) (next : ∀ L' H', Out L' H' → TL C ops os L' H' Q) (hg : gd ops L o.guard = some true := by rfl) : TL C ops (o :: os) L H Q := by
  intro a w k s
  simp only [wpL, gd_spec (C := C) (o := o) k hg, if_true]
  exact Oper.wpIn_mono' (fun a' w' ⟨L', H', ho, k', s'⟩ => next L' H' ho a' w' k' s') (h a w k s _)
theorem TL.e1 {C : Cx} {ops : Array Oper} {o : Oper} {os : List Oper} {L L' : Env} {H H' : List HP} {Q : Exit → Act → World → Prop}
    (h : EX C o L H (Out1 L' H')) (next : TL C ops os L' H' Q) (hg : gd ops L o.guard = some true := by rfl) : TL C ops (o :: os) L H Q :=
  TL.ex h (fun _ _ ⟨e1, e2⟩ => e1 ▸ e2 ▸ next) hg

/-! ### calls -/
/-- What a function does: begun with the parts 'Pre' at hand (and whatever else), it returns a value and leaves parts that 'Post' lets by (and whatever else as it was). -/
def FSpec (P : Program) (β : Base) (f : FuncId) (args : Array Value) (Pre : List HP) (Post : Value → List HP → Prop) : Prop :=
  ∀ (F : List HP) (w : World), Sat β (Pre ++ F) w → Calls P f args w fun e w' => ∃ v Hs, e = .returned v ∧ Post v Hs ∧ Sat β (Hs ++ F) w'
theorem FSpec.mono {P : Program} {β : Base} {f : FuncId} {args : Array Value} {Pre : List HP} {Post Post' : Value → List HP → Prop} (h : FSpec P β f args Pre Post) (hp : ∀ v Hs, Post v Hs → Post' v Hs) : FSpec P β f args Pre Post' :=
  fun F w s => (h F w s).mono fun _ _ ⟨v, Hs, e, p, s'⟩ => ⟨v, Hs, e, hp v Hs p, s'⟩

def bodyR (P : Program) (β : Base) (fn : Func) (F : List HP) (Post : Value → List HP → Prop) : Exit → Act → World → Prop :=
  bodyPost P fn fun e w' => ∃ v Hs, e = .returned v ∧ Post v Hs ∧ Sat β (Hs ++ F) w'
theorem lk_args : ∀ (l : List Value) (k t : Nat) (v : Value), lk (l.zipIdx k |>.map fun (v, i) => (i, v)) t = some v → k ≤ t ∧ l[t - k]? = some v
  | [], _, _, _, h => by cases h
  | x :: l, k, t, v, h => by
    simp only [List.zipIdx_cons, List.map_cons, lk] at h
    by_cases e : k = t
    · subst e; simp at h; subst h; simp
    · have : Nat.beq k t = false := nbeq_ne e
      rw [this] at h; simp at h
      obtain ⟨h1, h2⟩ := lk_args l (k + 1) t v (by simpa using h)
      refine ⟨by omega, ?_⟩
      rw [show t - k = (t - (k + 1)) + 1 by omega]
      simpa using h2
def argsL (args : List Value) : Env := args.zipIdx.map fun (v, i) => (i, v)
theorem FSpec.body {P : Program} {β : Base} {f : FuncId} {fn : Func} {c : Code} {args : List Value} {Pre : List HP} {Post : Value → List HP → Prop} (hf : P.funcs[f]? = some fn) (hb : fn.body = some c) (hn : Nat.ble args.length fn.ntmps = true)
    (h : ∀ F, T ⟨P, β, fn.ntmps, [], none⟩ c (argsL args) (Pre ++ F) (bodyR P β fn F Post)) : FSpec P β f args.toArray Pre Post := by
  intro F w s
  refine (callsIn_wide (n := 0)).1 (callsIn_of_wp hf hb trivial ?_)
  have hn' : args.length ≤ fn.ntmps := by simpa using hn
  refine h F _ w ⟨?_, rfl, fun t v ht => ?_⟩ s
  · simp; omega
  · obtain ⟨_, h2⟩ := lk_args args 0 t v ht
    have hlt : t < args.length := by
      rcases Nat.lt_or_ge t args.length with h | h
      · exact h
      · simp [h] at h2
    rw [Array.getElem?_append_left (by simpa using hlt)]
    simpa using h2
theorem map_eval {n : Nat} {D : List Deferred} {a : Act} {L : Env} (k : Knows n D a L) : ∀ (l : List Operand) (us : List Value), l.map (ev L) = us.map some → l.map a.eval = us
  | [], [], _ => rfl
  | [], _ :: _, h => by simp at h
  | _ :: _, [], h => by simp at h
  | x :: l, u :: us, h => by
    rw [List.map_cons, List.map_cons, List.cons.injEq] at h
    rw [List.map_cons, k.eval h.1, map_eval k l us h.2]
/-- The call of a Go function that is named outright. -/
theorem EX.call {C : Cx} {d : Option Tmp} {f : FuncId} {xs : Array Operand} {ats : Array TypeId} {ty : TypeId} {pos : String} {af : Array Edge} {g : Option (Nat × Bool)} {L : Env} {H Pre F : List HP} {fn : Func} {vs : List Value} {Post : Value → List HP → Prop}
    (hf : C.P.funcs[f]? = some fn) (hb : fn.body.isNone = false) (hnm : (fn.name == "runtime.NumGoroutine") = false) (hv : xs.toList.map (ev L) = vs.map some) (spec : FSpec C.P C.β f vs.toArray Pre Post) (hp : Pk H Pre F) (hd : dOk d C.n = true) :
    EX C ⟨d, .call { callee := .value (.func f), args := xs, argTypes := ats }, ty, pos, af, g⟩ L H (fun L' H' => ∃ v Hs, Post v Hs ∧ L' = pl d v L ∧ H' = Hs ++ F) := by
  intro a w k s Q
  refine ⟨fun _ _ => trivial, ?_⟩
  show Oper.uponIn _ _ _ _ _ _ _ ((Oper.semAt C.ρ a.eval _).run C.P w)
  rw [Oper.semAt_eq _ _ _ (fun c hc => by cases hc)]
  have hargs : xs.map a.eval = vs.toArray := by
    have h1 := map_eval k xs.toList vs hv
    rw [← h1, ← Array.toList_map]
  have hrun : (execOp a.eval (⟨d, .call { callee := .value (.func f), args := xs, argTypes := ats }, ty, pos, af, g⟩ : Oper)).run C.P w = .ok (.enter f vs.toArray) w := by
    have hnm' : fn.name ≠ "runtime.NumGoroutine" := by simpa using hnm
    have hb' : fn.body ≠ none := by intro e; rw [e] at hb; cases hb
    simp [execOp, resolve, Deferred.ofValue, Act.eval, invoke, callFunc, hargs, hf, hnm', hb']
  rw [hrun]
  refine ⟨fun h => by simp [FW] at h, ?_⟩
  have hc := (callsIn_wide (n := 0 - 1)).2 ((spec F w (s.pk hp)).mono (R' := fun e w'' => match e with
      | .returned v => ∃ L' H', (∃ v Hs, Post v Hs ∧ L' = pl d v L ∧ H' = Hs ++ F) ∧ Knows C.n C.D (a.put d v) L' ∧ Sat C.β H' w''
      | .panicked chain => Q (.panic chain) a w''
      | .outgrown => LetsOut Q) (fun e w' ⟨v, Hs, he, hpo, s'⟩ => by
        subst he
        exact ⟨_, _, ⟨v, Hs, hpo, rfl, rfl⟩, k.put' d v hd, s'⟩))
  obtain ⟨h1, h2⟩ := hc
  refine ⟨trivial, fun cs hr => ?_⟩
  obtain ⟨e, w'', fr, hR, hcomes, hfn, hleave⟩ := h2 cs (room_wide _)
  refine ⟨e, w'', fr, ?_, hcomes, hfn, hleave⟩
  cases e <;> exact hR
end Go.SL
