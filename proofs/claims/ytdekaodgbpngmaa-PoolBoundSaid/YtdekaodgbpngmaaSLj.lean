/- Own layer: the moves of a walk through a region that draws its order; guards; more silent operations. -/
import Derived.Test.YtdekaodgbpngmaaSLi
namespace Go.SL
open Go Go.RowKit

theorem Knows.bool {n : Nat} {D : List Deferred} {a : Act} {L : Env} {t : Nat} {b b' : Bool} (k : Knows n D a L) (hl : lk L t = some (.bool b)) (e : b = b') : Knows n D a ((t, .bool b') :: L) :=
  ⟨k.size, k.defers, fun u v h => by
    subst e
    simp only [lk] at h
    cases hb : Nat.beq t u with
    | true => rw [hb] at h; simp at h; subst h; have : t = u := Nat.eq_of_beq_eq_true hb; subst this; exact k.get _ _ hl
    | false => rw [hb] at h; simp at h; exact k.get _ _ h⟩
section
variable {C : Cx} {ops : Array Oper} {Q : Exit → Act → World → Prop} {L : Env} {H : List HP}
theorem TL.guard {os : List Oper} {b : Bool} (t : Nat) (hl : lk L t = some (.bool b)) (ht : b = true → TL C ops os ((t, .bool true) :: L) H Q) (hf : b = false → TL C ops os ((t, .bool false) :: L) H Q) : TL C ops os L H Q := fun a w k s => by
  cases hb : b with
  | true => exact ht hb a w (k.bool hl hb) s
  | false => exact hf hb a w (k.bool hl hb) s
theorem T.guard {c : Code} {b : Bool} (t : Nat) (hl : lk L t = some (.bool b)) (ht : b = true → T C c ((t, .bool true) :: L) H Q) (hf : b = false → T C c ((t, .bool false) :: L) H Q) : T C c L H Q := fun a w k s => by
  cases hb : b with
  | true => exact ht hb a w (k.bool hl hb) s
  | false => exact hf hb a w (k.bool hl hb) s

theorem DL.addpure {i : Nat} : ∀ (l : List (Nat × Bool)) (pend pend' : List (Nat × HP)) (L : Env) (H : List HP), (∀ q ∈ pend', q ∈ pend ∨ q.2 = pur True) → DL C ops Q l pend L H → DL C ops Q l pend' L H
  | [], _, _, _, _, _, h => h
  | (j, true) :: l, pend, pend', L, H, hs, ⟨o, d, v, c, h1, h2, h3, h4, h5, h6⟩ => ⟨o, d, v, c, h1, h2, h3, h4, h5, DL.addpure (i := i) l _ _ _ _ (fun q hq => by
      rcases List.mem_cons.1 hq with rfl | hq
      · exact .inl (List.mem_cons_self ..)
      · exact (hs q hq).imp (List.mem_cons_of_mem _) id) h6⟩
  | (j, false) :: l, pend, pend', L, H, hs, ⟨o, h1, h2⟩ => ⟨o, h1, by
      have hf : ∀ q ∈ pend'.filter (fun q => !reach ops ops.size j q.1), q ∈ pend.filter (fun q => !reach ops ops.size j q.1) ∨ q.2 = pur True := fun q hq => by
        obtain ⟨q1, q2⟩ := List.mem_filter.1 hq
        exact (hs q q1).imp (fun h => List.mem_filter.2 ⟨h, q2⟩) id
      rcases h2 with ⟨h2, Out, h3, h4⟩ | ⟨h2, h3, h4⟩
      · exact .inl ⟨h2, Out, h3, fun L' H' ho => ⟨fun q hq => by
          rcases hs q hq with h | h
          · exact (h4 L' H' ho).1 q h
          · right; intro w s; rw [h]; exact Sat.head_unpur trivial (s.conv fun _ _ => trivial), DL.addpure (i := i) l _ _ _ _ hf (h4 L' H' ho).2⟩⟩
      · exact .inr ⟨h2, h3, DL.addpure (i := i) l _ _ _ _ hf h4⟩⟩
variable {op : Op} {ty : TypeId} {pos : String} {af : Array Edge} {g : Option (Nat × Bool)} {d i : Nat} {l : List (Nat × Bool)} {pend : List (Nat × HP)} {v : Value}
theorem DL.s0 (hi : ops[i]? = some ⟨some d, op, ty, pos, af, g⟩) (h : SIL C ⟨some d, op, ty, pos, af, g⟩ L (pur True) v) (next : DL C ops Q l pend ((d, v) :: L) H) (hg : gd ops L g = some true := by rfl) (hd : Nat.blt d C.n = true := by rfl) : DL C ops Q ((i, true) :: l) pend L H :=
  ⟨_, d, v, pur True, hi, rfl, hd, fun _ s => Sat.head_unpur trivial (s.conv fun _ _ => trivial), .inl ⟨hg, h⟩, DL.addpure (i := i) l _ _ _ _ (fun q hq => by
    rcases List.mem_cons.1 hq with rfl | hq
    · exact .inr rfl
    · exact .inl hq) next⟩
theorem DL.s1 {c : HP} (m : Nat) (hi : ops[i]? = some ⟨some d, op, ty, pos, af, g⟩) (hm : nth H m = some c) (h : SIL C ⟨some d, op, ty, pos, af, g⟩ L c v) (next : DL C ops Q l ((i, c) :: pend) ((d, v) :: L) H) (hg : gd ops L g = some true := by rfl) (hd : Nat.blt d C.n = true := by rfl) : DL C ops Q ((i, true) :: l) pend L H :=
  ⟨_, d, v, c, hi, rfl, hd, fun _ s => s.mid hm, .inl ⟨hg, h⟩, next⟩
theorem DL.pass (hi : ops[i]? = some ⟨some d, op, ty, pos, af, g⟩) (hg : gd ops L g = some false) (next : DL C ops Q l pend ((d, undef) :: L) H) (hd : Nat.blt d C.n = true := by rfl) : DL C ops Q ((i, true) :: l) pend L H :=
  ⟨_, d, undef, pur True, hi, rfl, hd, fun _ s => Sat.head_unpur trivial (s.conv fun _ _ => trivial), .inr ⟨hg, rfl⟩, DL.addpure (i := i) l _ _ _ _ (fun q hq => by
    rcases List.mem_cons.1 hq with rfl | hq
    · exact .inr rfl
    · exact .inl hq) next⟩
theorem DL.nil (h : G C L H (Q .normal)) : DL C ops Q [] pend L H := h
theorem DL.conv {K : List HP} (hk : ∀ w, Sat C.β H w → Sat C.β K w) (hk' : ∀ w, Sat C.β K w → Sat C.β H w) : ∀ (l : List (Nat × Bool)) (pend : List (Nat × HP)) (L : Env), DL C ops Q l pend L K → DL C ops Q l pend L H
  | [], _, _, h => G.conv hk h
  | (_, true) :: _, _, _, ⟨o, d, v, c, h1, h2, h3, h4, h5, h6⟩ => ⟨o, d, v, c, h1, h2, h3, fun w s => h4 w (hk w s), h5, DL.conv hk hk' _ _ _ h6⟩
  | (_, false) :: _, _, _, ⟨o, h1, h2⟩ => ⟨o, h1, by
      rcases h2 with ⟨h2, Out, h3, h4⟩ | ⟨h2, h3, h4⟩
      · exact .inl ⟨h2, Out, fun a w k s => h3 a w k (hk w s), h4⟩
      · exact .inr ⟨h2, h3, DL.conv hk hk' _ _ _ h4⟩⟩
theorem gd_env {K L : Env} (h : ∀ t v, lk K t = some v → lk L t = some v) {g : Option (Nat × Bool)} {b : Bool} (hg : gd ops K g = some b) : gd ops L g = some b := by
  cases g with
  | none => exact hg
  | some jw =>
    obtain ⟨j, want⟩ := jw
    simp only [gd] at hg ⊢
    cases hd : (ops[j]?).bind (·.dst) with
    | none => rw [hd] at hg; simp at hg
    | some t =>
      rw [hd] at hg
      simp only [Option.bind_some] at hg ⊢
      cases hk : lk K t with
      | none => rw [hk] at hg; cases hg
      | some v => rw [h t v hk]; rw [hk] at hg; exact hg
theorem ext_env {K L : Env} (h : ∀ t v, lk K t = some v → lk L t = some v) (x : Nat × Value) : ∀ t v, lk (x :: K) t = some v → lk (x :: L) t = some v := by
  intro t v
  simp only [lk]
  cases Nat.beq x.1 t with
  | true => exact fun h => h
  | false => exact h t v
theorem DL.env : ∀ (l : List (Nat × Bool)) (pend : List (Nat × HP)) (K L : Env), (∀ t v, lk K t = some v → lk L t = some v) → DL C ops Q l pend K H → DL C ops Q l pend L H
  | [], _, _, _, hk, h => fun a w k s => h a w (k.weaken hk) s
  | (_, true) :: _, _, _, _, hk, ⟨o, d, v, c, h1, h2, h3, h4, h5, h6⟩ => ⟨o, d, v, c, h1, h2, h3, h4, h5.imp (fun ⟨x, y⟩ => ⟨gd_env hk x, fun a w k s => y a w (k.weaken hk) s⟩) (fun ⟨x, y⟩ => ⟨gd_env hk x, y⟩), DL.env _ _ _ _ (ext_env hk _) h6⟩
  | (_, false) :: _, _, _, _, hk, ⟨o, h1, h2⟩ => ⟨o, h1, by
      rcases h2 with ⟨h2, Out, h3, h4⟩ | ⟨h2, h3, h4⟩
      · exact .inl ⟨gd_env hk h2, Out, fun a w k s => h3 a w (k.weaken hk) s, h4⟩
      · exact .inr ⟨gd_env hk h2, h3, DL.env _ _ _ _ hk h4⟩⟩
theorem DL.guard {b : Bool} (t : Nat) (hl : lk L t = some (.bool b)) (ht : b = true → DL C ops Q l pend ((t, .bool true) :: L) H) (hf : b = false → DL C ops Q l pend ((t, .bool false) :: L) H) : DL C ops Q l pend L H := by
  have key : ∀ b', b = b' → DL C ops Q l pend ((t, .bool b') :: L) H → DL C ops Q l pend L H := fun b' e h => DL.env _ _ _ _ (fun u v => by
    subst e
    simp only [lk]
    cases hb : Nat.beq t u with
    | true => have : t = u := Nat.eq_of_beq_eq_true hb; subst this; intro h; simp at h; subst h; exact hl
    | false => exact fun h => h) h
  cases hb : b with
  | true => exact key true hb (ht hb)
  | false => exact key false hb (hf hb)
/-- A part is still there. -/
inductive Mm : List HP → HP → Prop
  | h {c : HP} {H : List HP} : Mm (c :: H) c
  | t {c x : HP} {H : List HP} : Mm H c → Mm (x :: H) c
theorem Mm.sat {β : Base} {H : List HP} {c : HP} (m : Mm H c) : ∀ {w : World}, Sat β H w → Sat β [c] w := by
  induction m with
  | h => exact fun s => s.conv fun _ x => star_mono x (fun _ y => y) (fun _ _ => trivial)
  | t _ ih => exact fun s => ih s.drop
/-- What is pending, behind a loud operation. -/
inductive Kp (ops : Array Oper) (i : Nat) (H : List HP) : List (Nat × HP) → List (Nat × HP) → Prop
  | n : Kp ops i H [] []
  | d {q : Nat} {c : HP} {p p' : List (Nat × HP)} : reach ops ops.size i q = true → Kp ops i H p p' → Kp ops i H ((q, c) :: p) p'
  | k {q : Nat} {c : HP} {p p' : List (Nat × HP)} : Mm H c → reach ops ops.size i q = false → Kp ops i H p p' → Kp ops i H ((q, c) :: p) ((q, c) :: p')
theorem Kp.out {β : Base} {p p' : List (Nat × HP)} (k : Kp ops i H p p') : (∀ q ∈ p, reach ops ops.size i q.1 = true ∨ ∀ w, Sat β H w → Sat β [q.2] w) ∧ p.filter (fun q => !reach ops ops.size i q.1) = p' := by
  induction k with
  | n => exact ⟨fun _ h => (by cases h), rfl⟩
  | d h _ ih => exact ⟨fun q hq => by
      rcases List.mem_cons.1 hq with rfl | hq
      · exact .inl h
      · exact ih.1 q hq, by rw [List.filter_cons, if_neg (by simp [h])]; exact ih.2⟩
  | k m h _ ih => exact ⟨fun q hq => by
      rcases List.mem_cons.1 hq with rfl | hq
      · exact .inr fun w s => m.sat s
      · exact ih.1 q hq, by rw [List.filter_cons, if_pos (by simp [h]), ih.2]⟩
theorem DL.ex {o : Oper} {pend' : List (Nat × HP)} {Out : Env → List HP → Prop} (hi : ops[i]? = some o) (h : EX C o L H Out) (next : ∀ L' H', Out L' H' → Kp ops i H' pend pend' ∧ DL C ops Q l pend' L' H') (hg : gd ops L o.guard = some true := by rfl) : DL C ops Q ((i, false) :: l) pend L H :=
  ⟨o, hi, .inl ⟨hg, Out, h, fun L' H' ho => ⟨(next L' H' ho).1.out.1, (next L' H' ho).1.out (β := C.β) |>.2 ▸ (next L' H' ho).2⟩⟩⟩
theorem DL.e1 {o : Oper} {L' : Env} {H' : List HP} {pend' : List (Nat × HP)} (hi : ops[i]? = some o) (h : EX C o L H (Out1 L' H')) (kp : Kp ops i H' pend pend') (next : DL C ops Q l pend' L' H') (hg : gd ops L o.guard = some true := by rfl) : DL C ops Q ((i, false) :: l) pend L H :=
  DL.ex hi h (fun _ _ ⟨e1, e2⟩ => by subst e1; subst e2; exact ⟨kp, next⟩) hg
theorem DL.pass0 {o : Oper} {pend' : List (Nat × HP)} (hi : ops[i]? = some o) (hdn : o.dst = none) (hg : gd ops L o.guard = some false) (kp : Kp ops i H pend pend') (next : DL C ops Q l pend' L H) : DL C ops Q ((i, false) :: l) pend L H :=
  ⟨o, hi, .inr ⟨hg, hdn, (kp.out (β := C.β)).2 ▸ next⟩⟩
end

/-! #### values in several cells -/
def gts : List Value → Nat → Nat → Option (List Value)
  | _, _, 0 => some []
  | l, k, n + 1 => match gt l k with
    | none => none
    | some v => match gts l (k + 1) n with
      | none => none
      | some vs => some (v :: vs)
theorem gts_spec : ∀ {n k : Nat} {l vs : List Value}, gts l k n = some vs → vs.length = n ∧ ∀ j v, vs[j]? = some v → l[k + j]? = some v
  | 0, k, l, vs, h => by simp [gts] at h; subst h; simp
  | n + 1, k, l, vs, h => by
    simp only [gts] at h
    cases h1 : gt l k with
    | none => rw [h1] at h; cases h
    | some v =>
      rw [h1] at h
      cases h2 : gts l (k + 1) n with
      | none => rw [h2] at h; cases h
      | some us =>
        rw [h2] at h; simp at h; subst h
        obtain ⟨h3, h4⟩ := gts_spec h2
        refine ⟨by simp [h3], fun j u hj => ?_⟩
        cases j with
        | zero => simp at hj; subst hj; rw [gt_eq] at h1; simpa using h1
        | succ j =>
          have := h4 j u (by simpa using hj)
          rw [← this]; congr 1; omega
theorem run_isAgg_not {P : Program} {t : TypeId} {td : TypeDesc} (hu : P.underlying t = some td) (hf : flat td = false) (w : World) : (isAgg t).run P w = .ok true w := by
  cases td <;> simp_all [isAgg, underlying, flat]
section
variable {C : Cx} {L : Env} {d : Option Tmp} {ty : TypeId} {pos : String} {af : Array Edge} {g : Option (Nat × Bool)} {c : HP}
theorem run_loadCells' {P : Program} {β : Base} {F : List HP} {w : World} {b off n : Nat} {T : TypeId} {l vs : List Value} {fr : Nat × Nat} (s : Sat β (bl b T l fr :: F) w) (hg : gts l off n = some vs) : (loadCells ⟨b, off, none⟩ n).run P w = .ok ⟨vs⟩ w := by
  obtain ⟨h1, h2⟩ := gts_spec hg
  have := run_loadCells_list (P := P) w ⟨b, off, none⟩ vs (fun j v hj => by rw [addr_add]; exact cell_of_sat s (by rw [gt_eq]; exact h2 j v hj))
  rw [h1] at this
  rw [this]
theorem SIL.loadA {t : TypeId} {td : TypeDesc} {x : Operand} {b off n : Nat} {T : TypeId} {l vs : List Value} {fr : Nat × Nat} (hu : C.P.underlying t = some td) (hz : sizeIs C.P t n) (h : ev L x = some (.pointer (some ⟨b, off, none⟩))) (hg : gts l off n = some vs) (hf : flat td = false := by rfl) :
    SIL C ⟨d, .load t x, ty, pos, af, g⟩ L (bl b T l fr) (.agg ⟨vs⟩) := fun a w k s => by
  simp [execOp, k.eval h, Instr.loadAt, Instr.sureAddr, loadVar, run_isAgg_not hu hf, hz w, run_loadCells' s hg]
theorem resV.cellA {H : List HP} {x b off n : Nat} {t : TypeId} {td : TypeDesc} {T : TypeId} {l vs : List Value} {fr : Nat × Nat} (i : Nat) (hi : nth H i = some (bl b T l fr)) (hx : lk L x = some (.pointer (some ⟨b, off, none⟩))) (hu : C.P.underlying t = some td) (hz : sizeIs C.P t n) (hg : gts l off n = some vs) (hf : flat td = false := by rfl) : resV C L H (.cell x t) (.agg ⟨vs⟩) := fun a w k s => by
  have h1 := k.get x _ hx
  have h2 := run_loadCells' (P := C.P) (s.mid hi) hg
  simp [resM, h1, asAddr, loadVar, run_isAgg_not hu hf, hz w, h2]
theorem SIL.makeFunc' {fn : Fn} {xs ys : List Operand} {us vs : List Value} (hx : Evs L xs us) (hy : Evs L ys vs) : SIL C ⟨d, .makeFunc fn ⟨xs⟩ ⟨ys⟩, ty, pos, af, g⟩ L c (.func fn ⟨us⟩ ⟨vs⟩) :=
  SIL.makeFunc (by simpa using hx.map) (by simpa using hy.map)
theorem SIL.field {t ft : TypeId} {fs : Array Field} {fd : Field} {td : TypeDesc} {x : Operand} {f : Nat} {l : List Value} {v : Value} (hu : C.P.underlying t = some (.struct fs)) (hf : fs[f]? = some fd) (hft : C.P.underlying fd.type = some td) (hx : ev L x = some (.agg ⟨l⟩)) (hg : gt l fd.offset = some v) (hfl : flat td = true := by rfl) : SIL C ⟨d, .field t x f, ty, pos, af, g⟩ L c v := fun a w k _ => by
  have _ := ft
  rw [gt_eq] at hg
  simp [execOp, k.eval hx, Instr.field, run_underlying' hu, hf, asAgg, part, run_isAgg_flat hft hfl, hg]
theorem SIL.fieldA {t : TypeId} {fs : Array Field} {fd : Field} {td : TypeDesc} {x : Operand} {f n : Nat} {l vs : List Value} (hu : C.P.underlying t = some (.struct fs)) (hf : fs[f]? = some fd) (hft : C.P.underlying fd.type = some td) (hz : sizeIs C.P fd.type n) (hx : ev L x = some (.agg ⟨l⟩)) (hg : gts l fd.offset n = some vs) (hfl : flat td = false := by rfl) : SIL C ⟨d, .field t x f, ty, pos, af, g⟩ L c (.agg ⟨vs⟩) := fun a w k _ => by
  obtain ⟨h1, h2⟩ := gts_spec hg
  have : List.take n (List.drop fd.offset l) = vs := by
    apply List.ext_getElem?
    intro j
    by_cases hj : j < n
    · have hv : vs[j]? = some vs[j] := List.getElem?_eq_getElem (by omega)
      rw [List.getElem?_take_of_lt (by omega), List.getElem?_drop, h2 j _ hv, hv]
    · rw [List.getElem?_take_eq_none (by omega), List.getElem?_eq_none (by omega)]
  simp [execOp, k.eval hx, Instr.field, run_underlying' hu, hf, asAgg, part, run_isAgg_not hft hfl, hz w, this]
end
end Go.SL
