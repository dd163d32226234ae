/- Own layer: a region that draws its order, walked once: silent operations are taken first, each with the part that it reads kept till whoever waits for it comes up; loud ones come up alone. -/
import Derived.Test.YtdekaodgbpngmaaSLh
namespace Go.SL
open Go Go.RowKit

section
variable {F : Fence} {P : Program} {ops : Array Oper} {Q : Exit → Act → World → Prop}

/-- j waits for i, by one edge or by several. -/
def reach (ops : Array Oper) : Nat → Nat → Nat → Bool
  | 0, _, _ => false
  | n + 1, j, i => match ops[j]? with
    | none => false
    | some o => o.after.toList.any fun e => Region.binds .any e && (e.on == i || reach ops n e.on i)
def closedL (ops : Array Oper) (listed : Array Bool) : Prop :=
  ∀ (j : Nat) (o : Oper), ops[j]? = some o → listed.getD j false = true → ∀ e ∈ o.after, Region.binds .any e = true → listed.getD e.on false = true
theorem reach_listed {listed : Array Bool} (hc : closedL ops listed) {i : Nat} (hi : listed.getD i false = false) : ∀ (n j : Nat), listed.getD j false = true → reach ops n j i = false := by
  intro n
  induction n with
  | zero => intro j _; rfl
  | succ n ih =>
    intro j hj
    simp only [reach]
    split
    · rfl
    · rename_i o ho
      rw [List.any_eq_false]
      intro e he
      simp only [Bool.and_eq_true, Bool.or_eq_true, beq_iff_eq, not_and, not_or]
      intro hb
      have := hc j o ho hj e (by simpa using he) hb
      refine ⟨fun h => ?_, by rw [ih e.on this]; simp⟩
      rw [h, hi] at this; cases this
theorem reach_ready {listed : Array Bool} (hc : closedL ops listed) {i j : Nat} (hi : listed.getD i false = false) (hj : j ∈ Region.ready .any ops listed) (n : Nat) : reach ops n j i = false := by
  cases n with
  | zero => rfl
  | succ n =>
    obtain ⟨_, o, ho, hall⟩ := mem_ready.1 hj
    simp only [reach, ho]
    rw [List.any_eq_false]
    intro e he
    simp only [Bool.and_eq_true, Bool.or_eq_true, beq_iff_eq, not_and, not_or]
    intro hb
    have := hall e (by simpa using he) hb
    refine ⟨fun h => ?_, by rw [reach_listed hc hi n e.on this]; simp⟩
    rw [h, hi] at this; cases this
theorem getD_false_of_true {listed : Array Bool} {i : Nat} (h : listed.getD i true = false) : listed.getD i false = false := by
  simp only [Array.getD_eq_getD_getElem?] at *
  cases hh : listed[i]? with
  | none => rfl
  | some b => rw [hh] at h; simpa using h
theorem closedL_set {listed : Array Bool} {i : Nat} (hc : closedL ops listed) (hi : i ∈ Region.ready .any ops listed) : closedL ops (listed.setIfInBounds i true) := by
  intro j o ho hj e he hb
  by_cases hij : i = j
  · subst hij
    obtain ⟨_, o', ho', hall⟩ := mem_ready.1 hi
    rw [ho] at ho'; cases ho'
    exact getD_set_true (hall e he hb)
  · rw [getD_set_ne false hij] at hj
    exact getD_set_true (hc j o ho hj e he hb)

/-- Whatever order is picked; what the pending ones read is kept till one that waits for them comes up. -/
def DW (F : Fence) (P : Program) (ops : Array Oper) (Q : Exit → Act → World → Prop) : Nat → Array Bool → List (Nat × (World → Prop)) → Act → World → Prop
  | 0, listed, _, a, w => Region.ready .any ops listed = [] ∧ Q .normal a w
  | fuel + 1, listed, pend, a, w =>
    (Region.ready .any ops listed = [] → Q .normal a w) ∧
    ∀ i ∈ Region.ready .any ops listed, wpOpIn F 0 P ops Q i (fun a' w' => (∀ q ∈ pend, reach ops ops.size i q.1 = true ∨ q.2 w') ∧
      DW F P ops Q fuel (listed.setIfInBounds i true) (pend.filter fun q => !reach ops ops.size i q.1) a' w') a w
theorem DW.any : ∀ (fuel : Nat) (listed : Array Bool) (pend : List (Nat × (World → Prop))) (a : Act) (w : World), DW F P ops Q fuel listed pend a w → wpAnyIn F 0 P .any ops Q fuel listed a w
  | 0, _, _, _, _, h => h
  | fuel + 1, _, _, _, _, h => ⟨h.1, fun i hi => wpOpIn_mono (fun a' w' h' => DW.any fuel _ _ a' w' h'.2) (h.2 i hi)⟩
theorem DW.weaken : ∀ (fuel : Nat) (listed : Array Bool) (pend pend' : List (Nat × (World → Prop))) (a : Act) (w : World), (∀ q ∈ pend', q ∈ pend) → DW F P ops Q fuel listed pend a w → DW F P ops Q fuel listed pend' a w
  | 0, _, _, _, _, _, _, h => h
  | fuel + 1, _, pend, pend', _, _, hs, h => ⟨h.1, fun i hi => wpOpIn_mono (fun a' w' h' => ⟨fun q hq => h'.1 q (hs q hq), DW.weaken fuel _ _ _ a' w' (fun q hq => by
      rw [List.mem_filter] at *
      exact ⟨hs q hq.1, hq.2⟩) h'.2⟩) (h.2 i hi)⟩

/-- In state 'a', in every world that meets 'S', 'o' leaves 'v' in its slot and does nothing else. -/
def YS (P : Program) (ops : Array Oper) (S : World → Prop) (o : Oper) (v : Value) (a : Act) : Prop :=
  (Region.wanted o (yielded ops a.tmps) = true ∧ ∀ w, S w → (execOp a.eval o).run P w = .ok (.value v) w) ∨
  (Region.wanted o (yielded ops a.tmps) = false ∧ v = undef)
def plainB (o : Oper) : Bool := match o.op with | .select .. | .defer _ => false | _ => true
theorem plain_sel {o : Oper} (h : plainB o = true) : ∀ cs b, o.op ≠ .select cs b := fun cs b e => by simp [plainB, e] at h
theorem plain_def {o : Oper} (h : plainB o = true) : ∀ c, o.op ≠ .defer c := fun c e => by simp [plainB, e] at h
def normQ (Q : Exit → Act → World → Prop) : Exit → Act → World → Prop
  | .normal, a, w => Q .normal a w
  | _, _, _ => False

theorem YS.wpOp (hF : ∀ f, F.fn f) {S : World → Prop} {i : Nat} {o : Oper} {v : Value} {a : Act} (hp : plainB o = true) (hi : ops[i]? = some o) (hy : YS P ops S o v a) {K : Act → World → Prop} {w : World} (hS : S w) (h : K (a.put o.dst v) w) : wpOpIn F 0 P ops Q i K a w := by
  unfold wpOpIn
  simp only [hi]
  rcases hy with ⟨hw, hv⟩ | ⟨hw, rfl⟩
  · simp only [hw, if_true]
    refine ⟨fun _ _ => hF _, ?_⟩
    rw [Oper.semAt_eq _ _ _ (plain_def hp), hv w hS]
    exact h
  · simp only [hw, Bool.false_eq_true, if_false]; exact ⟨fun _ _ => hF _, h⟩
theorem wpOp_swap (hF : ∀ f, F.fn f) {S : World → Prop} {j : Nat} {oi oj : Oper} {v : Value} (hj : ops[j]? = some oj) (hap : oi.apart ops oj = true) (hpi : plainB oi = true) (hpj : plainB oj = true)
    {K : Act → World → Prop} {a : Act} {w : World} (hy : YS P ops S oi v a) (h : wpOpIn F 0 P ops (normQ Q) j K (a.put oi.dst v) w) :
    wpOpIn F 0 P ops (normQ Q) j (fun a' w' => YS P ops S oi v a' ∧ K (a'.put oi.dst v) w') a w := by
  obtain ⟨h1, h2, h3⟩ := Oper.apart_spec hap
  have keep : ∀ (a : Act), YS P ops S oi v a → ∀ u, YS P ops S oi v (a.put oj.dst u) := fun a hy u => by
    unfold YS at *
    rw [execOp_put oi (plain_sel hpi) a oj.dst u h3, wanted_put oi a oj.dst u h3]
    exact hy
  unfold wpOpIn at *
  simp only [hj] at *
  rw [wanted_put oj a oi.dst v h1] at h
  split
  · rename_i hw
    simp only [hw, if_true] at h
    refine ⟨fun _ _ => hF _, ?_⟩
    have h := h.2
    rw [Oper.semAt_eq _ _ _ (plain_def hpj)] at h ⊢
    rw [execOp_put oj (plain_sel hpj) a oi.dst v h1] at h
    generalize (execOp a.eval oj).run P w = r at *
    cases r with
    | ok n w' =>
      cases n <;> simp only [Oper.uponIn] at h ⊢
      case value u => exact ⟨keep a hy u, by rw [← Act.put_comm a v u h2]; exact h⟩
      case skip => exact ⟨keep a hy _, by rw [← Act.put_comm a v undef h2]; exact h⟩
      case defer d =>
        refine ⟨?_, ?_⟩
        · have : YS P ops S oi v { a with defers := d :: a.defers } := hy
          exact keep _ this _
        · rw [← Act.put_comm _ v undef h2, ← Act.put_defers]; exact h
      case enter f args =>
        refine ⟨h.1, CallsIn.mono h.2 fun e w'' he => ?_⟩
        cases e with
        | returned u => exact ⟨keep a hy u, by rw [← Act.put_comm a v u h2]; exact he⟩
        | panicked c => exact he
        | outgrown => exact he
      case row row args => exact ⟨h.1, RowsIn.mono h.2 fun u w'' he => ⟨keep a hy u, by rw [← Act.put_comm a v u h2]; exact he⟩⟩
      case round l f tmps assign body =>
        refine ⟨h.1, RoundIn.mono h.2 fun e w'' he => ?_⟩
        cases e with
        | returned u => exact ⟨keep a hy u, by rw [← Act.put_comm a v u h2]; exact he⟩
        | panicked c => exact he
        | outgrown => exact he
    | halt x w' => cases x <;> simp only [Oper.uponIn, normQ] at h ⊢
  · rename_i hw
    simp only [hw, Bool.false_eq_true, if_false] at h
    exact ⟨fun _ _ => hF _, keep a hy _, by rw [← Act.put_comm a v undef h2]; exact h.2⟩

/-- An operation that may come up now may be taken first. -/
theorem DW.take (hF : ∀ f, F.fn f) {S : World → Prop} {i : Nat} {oi : Oper} {v : Value} (hi : ops[i]? = some oi) (hpl : ∀ (j : Nat) (o : Oper), ops[j]? = some o → plainB o = true) :
    ∀ (fuel : Nat) (listed : Array Bool) (pend : List (Nat × (World → Prop))) (a : Act) (w : World), closedL ops listed →
      (∀ (j : Nat) (oj : Oper), ops[j]? = some oj → j ≠ i → listed.getD j true = false → (∀ e ∈ oj.after, Region.binds .any e = true → e.on ≠ i) → oi.apart ops oj = true) →
      i ∈ Region.ready .any ops listed → YS P ops S oi v a → S w → (∀ q ∈ pend, q.2 w) →
      DW F P ops (normQ Q) fuel (listed.setIfInBounds i true) ((i, S) :: pend) (a.put oi.dst v) w → DW F P ops (normQ Q) (fuel + 1) listed pend a w := by
  intro fuel
  induction fuel with
  | zero =>
    intro listed pend a w hc _ hr hy hS hpd H
    refine ⟨fun h => (by rw [h] at hr; cases hr), fun j hj => ?_⟩
    by_cases hji : j = i
    · subst hji; exact hy.wpOp hF (hpl _ _ hi) hi hS ⟨fun q hq => .inr (hpd q hq), H⟩
    · have := ready_mono hj hji
      rw [H.1] at this
      cases this
  | succ fuel ih =>
    intro listed pend a w hc hfree hr hy hS hpd H
    refine ⟨fun h => (by rw [h] at hr; cases hr), fun j hj => ?_⟩
    by_cases hji : j = i
    · subst hji
      exact hy.wpOp hF (hpl _ _ hi) hi hS ⟨fun q hq => .inr (hpd q hq), DW.weaken _ _ _ _ _ _ (fun q hq => List.mem_cons_of_mem _ (List.mem_filter.1 hq).1) H⟩
    · have h1 := H.2 j (ready_mono hj hji)
      obtain ⟨hjun, oj, hoj, hall⟩ := mem_ready.1 hj
      have hiun := getD_false_of_true (mem_ready.1 hr).1
      have hnot : ∀ e ∈ oj.after, Region.binds .any e = true → e.on ≠ i := fun e he hb heq => by
        have h1 := hall e he hb
        rw [heq, hiun] at h1; cases h1
      have hrch := reach_ready hc hiun hj ops.size
      have h2 := wpOp_swap hF hoj (hfree j oj hoj hji hjun hnot) (hpl _ _ hi) (hpl _ _ hoj) hy h1
      have hfree' : ∀ (k : Nat) (ok : Oper), ops[k]? = some ok → k ≠ i → (listed.setIfInBounds j true).getD k true = false →
          (∀ e ∈ ok.after, Region.binds .any e = true → e.on ≠ i) → oi.apart ops ok = true := fun k ok hk hki hun hno => by
        refine hfree k ok hk hki ?_ hno
        by_cases hjk : j = k
        · subst hjk; exact hjun
        · rw [getD_set_ne true hjk] at hun; exact hun
      refine wpOpIn_mono (fun a' w' h3 => ?_) h2
      obtain ⟨hy', hp', hd'⟩ := h3
      have hS' : S w' := (hp' (i, S) (List.mem_cons_self ..)).resolve_left (by simp [hrch])
      refine ⟨fun q hq => hp' q (List.mem_cons_of_mem _ hq), ih (listed.setIfInBounds j true) _ a' w' (closedL_set hc hj) hfree' (ready_mono hr (Ne.symm hji)) hy' hS' (fun q hq => ?_) ?_⟩
      · obtain ⟨hq1, hq2⟩ := List.mem_filter.1 hq
        exact (hp' q (List.mem_cons_of_mem _ hq1)).resolve_left (by simpa using hq2)
      · rw [Array.setIfInBounds_comm _ _ hji]
        rw [List.filter_cons, if_pos (by simp [hrch])] at hd'
        exact hd'
end

/-! ### the order that is walked, held against the edges once -/
def freeB (ops : Array Oper) (listed : Array Bool) (i : Nat) : Bool :=
  match ops[i]? with
  | none => false
  | some oi => ops.toList.zipIdx.all fun (oj, j) => j == i || listed.getD j true || (oj.after.toList.any fun e => Region.binds .any e && e.on == i) || oi.apart ops oj
def orderB (ops : Array Oper) : Array Bool → List (Nat × Bool) → Bool
  | listed, [] => (Region.ready .any ops listed).isEmpty
  | listed, (i, true) :: l => (Region.ready .any ops listed).contains i && freeB ops listed i && orderB ops (listed.setIfInBounds i true) l
  | listed, (i, false) :: l => (Region.ready .any ops listed == [i]) && orderB ops (listed.setIfInBounds i true) l
def drawB (ops : Array Oper) (l : List (Nat × Bool)) : Bool :=
  (l.length == ops.size) && ops.toList.all plainB && orderB ops (Array.replicate ops.size false) l

/-- The region's operations, walked in the order 'l'. -/
def DL (C : Cx) (ops : Array Oper) (Q : Exit → Act → World → Prop) : List (Nat × Bool) → List (Nat × HP) → Env → List HP → Prop
  | [], _, L, H => G C L H (Q .normal)
  | (i, true) :: l, pend, L, H => ∃ o d v c, ops[i]? = some o ∧ o.dst = some d ∧ Nat.blt d C.n = true ∧ (∀ w, Sat C.β H w → Sat C.β [c] w) ∧
      ((gd ops L o.guard = some true ∧ SIL C o L c v) ∨ (gd ops L o.guard = some false ∧ v = undef)) ∧ DL C ops Q l ((i, c) :: pend) ((d, v) :: L) H
  | (i, false) :: l, pend, L, H => ∃ o, ops[i]? = some o ∧
      ((gd ops L o.guard = some true ∧ ∃ Out : Env → List HP → Prop, EX C o L H Out ∧ ∀ L' H', Out L' H' → (∀ q ∈ pend, reach ops ops.size i q.1 = true ∨ ∀ w, Sat C.β H' w → Sat C.β [q.2] w) ∧ DL C ops Q l (pend.filter fun q => !reach ops ops.size i q.1) L' H') ∨
       (gd ops L o.guard = some false ∧ o.dst = none ∧ DL C ops Q l (pend.filter fun q => !reach ops ops.size i q.1) L H))

theorem DL.sound {C : Cx} {ops : Array Oper} {Q : Exit → Act → World → Prop} (hpl : ∀ (j : Nat) (o : Oper), ops[j]? = some o → plainB o = true) : ∀ (l : List (Nat × Bool)) (listed : Array Bool) (pend : List (Nat × HP)) (L : Env) (H : List HP) (a : Act) (w : World), closedL ops listed → orderB ops listed l = true →
    DL C ops Q l pend L H → Knows C.n C.D a L → Sat C.β H w → (∀ q ∈ pend, Sat C.β [q.2] w) → DW (FW C.ρ) C.P ops (normQ Q) l.length listed (pend.map fun q => (q.1, fun w => Sat C.β [q.2] w)) a w := by
  intro l
  induction l with
  | nil =>
    intro listed pend L H a w hc ho h k s hp
    exact ⟨by simpa [orderB] using ho, h a w k s⟩
  | cons x l ih =>
    intro listed pend L H a w hc ho h k s hp
    obtain ⟨i, b⟩ := x
    cases b with
    | true =>
      simp only [orderB, Bool.and_eq_true] at ho
      obtain ⟨⟨hr, hfree⟩, ho⟩ := ho
      have hr' : i ∈ Region.ready .any ops listed := by simpa using hr
      obtain ⟨o, d, v, c, hi, hd, hdn, hcs, hy, hrest⟩ := h
      have hys : YS C.P ops (fun w => Sat C.β [c] w) o v a := by
        rcases hy with ⟨hg, hs⟩ | ⟨hg, hv⟩
        · exact .inl ⟨gd_spec (C := C) k hg, fun w' s' => hs a w' k s'⟩
        · exact .inr ⟨gd_spec (C := C) k hg, hv⟩
      refine DW.take (S := fun w => Sat C.β [c] w) (fun _ => trivial) hi hpl _ _ _ _ _ hc ?_ hr' hys (hcs w s) ?_ ?_
      · intro j oj hj hji hun hno
        simp only [freeB, hi] at hfree
        rw [List.all_eq_true] at hfree
        have hmem : (oj, j) ∈ ops.toList.zipIdx := by
          rw [List.mem_zipIdx_iff_getElem?]
          simpa using hj
        have := hfree (oj, j) hmem
        simp only [Bool.or_eq_true, beq_iff_eq, List.any_eq_true, Bool.and_eq_true] at this
        rcases this with ((h1 | h1) | ⟨e, he, hb, heq⟩) | h1
        · exact absurd h1 hji
        · rw [hun] at h1; cases h1
        · exact absurd heq (hno e (by simpa using he) hb)
        · exact h1
      · intro q hq
        obtain ⟨q', hq', rfl⟩ := List.mem_map.1 hq
        exact hp q' hq'
      · rw [hd]
        exact ih _ ((i, c) :: pend) _ _ _ _ (closedL_set hc hr') ho hrest (k.put d v hdn) s (fun q hq => by
          rcases List.mem_cons.1 hq with rfl | hq
          · exact hcs w s
          · exact hp q hq)
    | false =>
      simp only [orderB, Bool.and_eq_true, beq_iff_eq] at ho
      obtain ⟨hr, ho⟩ := ho
      refine ⟨fun hn => (by rw [hn] at hr; cases hr), fun j hj => ?_⟩
      have hji : j = i := by rw [hr] at hj; simpa using hj
      subst hji
      obtain ⟨o, hi, hcase⟩ := h
      have hfil : ∀ p : List (Nat × HP), ((p.map fun q => (q.1, fun w => Sat C.β [q.2] w)).filter fun q => !reach ops ops.size j q.1) = (p.filter fun q => !reach ops ops.size j q.1).map fun q => (q.1, fun w => Sat C.β [q.2] w) := fun p => by
        rw [List.filter_map]; rfl
      unfold wpOpIn
      simp only [hi]
      rcases hcase with ⟨hg, Out, hex, hrest⟩ | ⟨hg, hdn, hrest⟩
      · rw [gd_spec (C := C) k hg]
        simp only [if_true]
        refine Oper.wpIn_mono' (fun a' w' hh => ?_) (hex a w k s _)
        obtain ⟨L', H', hout, k', s'⟩ := hh
        obtain ⟨hk, hrest⟩ := hrest L' H' hout
        refine ⟨fun q hq => ?_, ?_⟩
        · obtain ⟨q', hq', rfl⟩ := List.mem_map.1 hq
          rcases hk q' hq' with h1 | h1
          · exact .inl h1
          · exact .inr (h1 w' s')
        · rw [hfil]
          refine ih _ _ _ _ _ _ (closedL_set hc (by rw [hr]; simp)) ho hrest k' s' (fun q hq => ?_)
          obtain ⟨hq1, hq2⟩ := List.mem_filter.1 hq
          exact (hk q hq1).resolve_left (by simpa using hq2) w' s'
      · rw [gd_spec (C := C) k hg]
        simp only [Bool.false_eq_true, if_false]
        refine ⟨fun _ _ => trivial, fun q hq => ?_, ?_⟩
        · obtain ⟨q', hq', rfl⟩ := List.mem_map.1 hq
          exact .inr (hp q' hq')
        · rw [hfil, hdn]
          exact ih _ _ _ _ _ _ (closedL_set hc (by rw [hr]; simp)) ho hrest k s (fun q hq => hp q (List.mem_filter.1 hq).1)
/-- A region that draws its order. -/
theorem T.draw {C : Cx} {id : Nat} {ops : Array Oper} {L : Env} {H : List HP} {Q : Exit → Act → World → Prop} (l : List (Nat × Bool)) (hm : C.P.follows .mixedOrders = true) (hB : drawB ops l = true) (h : DL C ops Q l [] L H) : T C (.region id ops true) L H Q := by
  intro a w k s
  simp only [drawB, Bool.and_eq_true, beq_iff_eq] at hB
  obtain ⟨⟨hlen, hpl⟩, ho⟩ := hB
  have hpl' : ∀ (j : Nat) (o : Oper), ops[j]? = some o → plainB o = true := fun j o hj => by
    rw [List.all_eq_true] at hpl
    exact hpl o (by rw [Array.mem_toList_iff]; exact Array.mem_of_getElem? hj)
  have hc : closedL ops (Array.replicate ops.size false) := fun j o _ hj => by
    simp only [Array.getD_eq_getD_getElem?, Array.getElem?_replicate] at hj
    split at hj <;> simp at hj
  have := DL.sound hpl' l _ [] L H a { w with drawn := w.drawn + 1 } hc ho h k (s.same rfl ⟨rfl, rfl, rfl⟩) (fun q hq => by cases hq)
  rw [hlen] at this
  refine wpIn_mono (wpIn_region_any hm (DW.any _ _ _ _ _ this)) fun e a' w' hq => ?_
  cases e <;> first | exact hq | exact hq.elim
end Go.SL
