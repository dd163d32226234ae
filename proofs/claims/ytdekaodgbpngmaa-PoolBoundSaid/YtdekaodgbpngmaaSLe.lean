/- Own layer: loops, ways out, maps. -/
import Derived.Test.YtdekaodgbpngmaaSLd
namespace Go.SL
open Go Go.RowKit

/-- 'H' gives all of 'K'. -/
inductive Sb : List HP → List HP → Prop
  | z {H F : List HP} : Tl H F → Sb H F
  | c {H M K : List HP} {c : HP} : Rm H c M → Sb M K → Sb H (c :: K)
theorem Sb.to {H K : List HP} (s : Sb H K) : ∀ {h : PH}, stars H h → stars K h := by
  induction s with
  | z t => exact fun hs => t.to hs
  | c r _ ih => exact fun hs => star_mono (r.to hs) (fun _ x => x) (fun _ x => ih x)
/-- 'L' knows all that 'K' says. -/
inductive ES : Env → Env → Prop
  | n {L : Env} : ES L []
  | c {L K : Env} {t : Nat} {v : Value} : lk L t = some v → ES L K → ES L ((t, v) :: K)
theorem ES.get {L K : Env} (p : ES L K) : ∀ t v, lk K t = some v → lk L t = some v := by
  induction p with
  | n => intro t v h; cases h
  | @c K t' v' h1 _ ih =>
    intro t v h
    simp only [lk] at h
    cases e : Nat.beq t' t with
    | true => rw [e] at h; simp at h; subst h; have : t' = t := Nat.eq_of_beq_eq_true e; subst this; exact h1
    | false => rw [e] at h; simp at h; exact ih t v h
theorem T.es {C : Cx} {c : Code} {L K : Env} {H : List HP} {Q : Exit → Act → World → Prop} (p : ES L K) (h : T C c K H Q) : T C c L H Q := T.env p.get h
theorem T.sb {C : Cx} {c : Code} {L : Env} {H K : List HP} {Q : Exit → Act → World → Prop} (p : Sb H K) (h : T C c L K Q) : T C c L H Q := T.conv (fun _ s => s.conv fun _ => p.to) h
theorem TL.sb {C : Cx} {ops : Array Oper} {os : List Oper} {L : Env} {H K : List HP} {Q : Exit → Act → World → Prop} (p : Sb H K) (h : TL C ops os L K Q) : TL C ops os L H Q := TL.conv (fun _ s => s.conv fun _ => p.to) h

/-- What holds at a loop's head again, for a ghost of a lesser measure. -/
def Again (C : Cx) {X : Type} (Lx : X → Env) (Hx : X → List HP) (φ : X → Prop) (m : X → Nat) (j : Nat) : Act → World → Prop :=
  fun a w => ∃ x, m x < j ∧ φ x ∧ Knows C.n C.D a (Lx x) ∧ Sat C.β (Hx x) w
theorem G.again {C : Cx} {X : Type} {Lx : X → Env} {Hx : X → List HP} {φ : X → Prop} {m : X → Nat} {j : Nat} {L : Env} {H : List HP} (x : X) (hφ : φ x) (hm : m x < j) (hL : ES L (Lx x)) (hH : ∀ w, Sat C.β H w → Sat C.β (Hx x) w) : G C L H (Again C Lx Hx φ m j) :=
  fun _ w k s => ⟨x, hm, hφ, k.weaken hL.get, hH w s⟩
theorem T.loop {C : Cx} {c : Code} {L : Env} {H : List HP} {Q : Exit → Act → World → Prop} {X : Type} (Lx : X → Env) (Hx : X → List HP) (φ : X → Prop) (m : X → Nat) (x0 : X) (hφ : φ x0) (hL : ES L (Lx x0)) (hH : ∀ w, Sat C.β H w → Sat C.β (Hx x0) w)
    (round : ∀ x, φ x → T C c (Lx x) (Hx x) (Exit.then (Again C Lx Hx φ m (m x)) Q)) : T C (.loop c) L H Q := by
  intro a w kn s b k cs hro hb hr
  have key : ∀ j x a w, m x = j → φ x → Knows C.n C.D a (Lx x) → Sat C.β (Hx x) w →
      ∃ e a' w', Q e a' w' ∧ ArrivesIn (Machine.fenced C.P (FW C.ρ)) C.P (lone (b.atR a (.code c :: .inLoop c :: k)) cs w) b k cs e a' w' := by
    intro j
    induction j using Nat.strongRecOn with
    | _ j ih =>
      intro x a w hn hI kn s
      obtain ⟨e, a₁, w₁, hq, harr⟩ := round x hI a w kn s b (.inLoop c :: k) cs hro hb hr
      cases e with
      | normal =>
        obtain ⟨x', hlt, hφ', kn', s'⟩ := hq
        obtain ⟨e₂, a₂, w₂, hq₂, harr₂⟩ := ih (m x') (hn ▸ hlt) x' a₁ w₁ rfl hφ' kn' s'
        exact ⟨e₂, a₂, w₂, hq₂, .of_steps (StepsIn.trans harr (.one (fenced_calm hb hr rfl) stepR_inLoop)) harr₂⟩
      | exit id => exact ⟨_, a₁, w₁, hq, .pass (x := .inLoop c) rfl (fun _ _ => .inl (by simp)) harr⟩
      | goto l => exact ⟨_, a₁, w₁, hq, .pass (x := .inLoop c) rfl (fun _ _ => .inl (by simp)) harr⟩
      | ret => exact ⟨_, a₁, w₁, hq, .pass (x := .inLoop c) rfl (fun _ _ => .inl (by simp)) harr⟩
      | panic ch => exact ⟨_, a₁, w₁, hq, .pass (x := .inLoop c) rfl (fun _ _ => .inl (by simp)) harr⟩
      | outgrown => exact ⟨_, a₁, w₁, hq, .pass (x := .inLoop c) rfl (fun _ _ => .inl (by simp)) harr⟩
  obtain ⟨e, a', w', hq, harr⟩ := key _ x0 a w rfl hφ (kn.weaken hL.get) (hH w s)
  exact ⟨e, a', w', hq, .of_steps (.one (fenced_calm hb hr rfl) stepR_loop) harr⟩
/-- Ways that meet again: one of the ghosts' states holds. -/
def Meet (C : Cx) {X : Type} (Lx : X → Env) (Hx : X → List HP) (φ : X → Prop) : Act → World → Prop := fun a w => ∃ x, φ x ∧ Knows C.n C.D a (Lx x) ∧ Sat C.β (Hx x) w
theorem T.meet {C : Cx} {c y : Code} {L : Env} {H : List HP} {Q : Exit → Act → World → Prop} {X : Type} (Lx : X → Env) (Hx : X → List HP) (φ : X → Prop) (h : T C c L H (Exit.then (Meet C Lx Hx φ) Q)) (hr : ∀ x, φ x → T C y (Lx x) (Hx x) Q) : T C (.seq c y) L H Q := by
  refine T.seq fun a w k s => wpIn_mono (h a w k s) fun e a' w' hq => ?_
  cases e <;> first | exact hq | (obtain ⟨x, p, k', s'⟩ := hq; exact hr x p a' w' k' s')
theorem G.meet {C : Cx} {X : Type} {Lx : X → Env} {Hx : X → List HP} {φ : X → Prop} {L : Env} {H : List HP} (x : X) (hφ : φ x) (hL : ES L (Lx x)) (hH : ∀ w, Sat C.β H w → Sat C.β (Hx x) w) : G C L H (Meet C Lx Hx φ) :=
  fun _ w k s => ⟨x, hφ, k.weaken hL.get, hH w s⟩
theorem G.then {C : Cx} {L : Env} {H : List HP} {K : Act → World → Prop} {Q : Exit → Act → World → Prop} (h : G C L H K) : G C L H (Exit.then K Q .normal) := h

/-! ### results -/
def resM (a : Act) : ResultVar → Sem Value
  | .tmp t => pure (a.tmps.getD t undef)
  | .cell x t => do loadVar t (← asAddr (a.tmps.getD x undef))
def resV (C : Cx) (L : Env) (H : List HP) (r : ResultVar) (v : Value) : Prop :=
  ∀ a w, Knows C.n C.D a L → Sat C.β H w → (resM a r).run C.P w = .ok v w
inductive Res (C : Cx) (L : Env) (H : List HP) : List ResultVar → List Value → Prop
  | n : Res C L H [] []
  | c {r : ResultVar} {v : Value} {rs : List ResultVar} {vs : List Value} : resV C L H r v → Res C L H rs vs → Res C L H (r :: rs) (v :: vs)
theorem resV.tmp {C : Cx} {L : Env} {H : List HP} {t : Nat} {v : Value} (h : lk L t = some v) : resV C L H (.tmp t) v := fun a w k _ => by
  have := k.get t v h
  simp [resM, this]
theorem resV.cell {C : Cx} {L : Env} {H : List HP} {x b off : Nat} {t : TypeId} {td : TypeDesc} {T : TypeId} {l : List Value} {fr : Nat × Nat} {v : Value} (i : Nat) (hi : nth H i = some (bl b T l fr)) (hx : lk L x = some (.pointer (some ⟨b, off, none⟩))) (hu : C.P.underlying t = some td) (hg : gt l off = some v) (hf : flat td = true := by rfl) : resV C L H (.cell x t) v := fun a w k s => by
  have h1 := k.get x _ hx
  have h2 := cell_of_sat (s.mid hi) hg
  simp [resM, h1, asAddr, loadVar, run_isAgg_flat hu hf, h2]
def retV (vs : List Value) : Value := match vs with | [v] => v | vs => .tuple ⟨vs⟩
theorem res_run {C : Cx} {L : Env} {H : List HP} {a : Act} {w : World} (k : Knows C.n C.D a L) (s : Sat C.β H w) : ∀ {rs : List ResultVar} {vs : List Value}, Res C L H rs vs →
    (rs.mapM (resM a)).run C.P w = .ok vs w := by
  intro rs vs h
  induction h with
  | n => simp
  | c h1 _ ih => simp only [List.mapM_cons, Sem.run_bind, h1 a w k s, Result.andThen_ok, ih, Sem.run_pure]
theorem results_run {C : Cx} {L : Env} {H : List HP} {a : Act} {w : World} {fn : Func} {rs : List ResultVar} {vs : List Value} (k : Knows C.n C.D a L) (s : Sat C.β H w) (hfn : fn.results = ⟨rs⟩) (h : Res C L H rs vs) : (results fn a.tmps).run C.P w = .ok (retV vs) w := by
  have h1 := res_run k s h
  have hr : ∀ P w, (results fn a.tmps).run P w = ((do let vs ← fn.results.mapM (resM a); pure (if h : vs.size = 1 then vs[0] else .tuple vs)) : Sem Value).run P w := fun P w => by
    unfold results
    congr 2
  rw [hr, hfn, Array.mapM_eq_mapM_toList]
  simp only [Sem.run_bind, Sem.run_map]
  rw [h1]
  simp only [Result.andThen_ok]
  match vs with
  | [] => simp [retV]
  | [v] => simp [retV]
  | u :: v :: l => simp [retV]
theorem G.ret {P : Program} {β : Base} {n : Nat} {fn : Func} {F : List HP} {Post : Value → List HP → Prop} {L : Env} {H Hs K : List HP} {rs : List ResultVar} {vs : List Value} (hfn : fn.results = ⟨rs⟩) (hr : Res ⟨P, β, n, [], none⟩ L H rs vs)
    (hp : Post (retV vs) Hs) (pk : Pk H Hs K) (tl : Tl K F) : G ⟨P, β, n, [], none⟩ L H (bodyR P β fn F Post .ret) := by
  intro a w k s
  refine ⟨k.defers, _, results_run k s hfn hr, _, Hs, rfl, hp, ?_⟩
  exact (s.pk pk).conv fun _ x => stars_append' (star_mono (stars_append x) (fun _ y => y) (fun _ y => tl.to y))
theorem G.end {P : Program} {β : Base} {n : Nat} {fn : Func} {F : List HP} {Post : Value → List HP → Prop} {L : Env} {H Hs K : List HP} {rs : List ResultVar} {vs : List Value} (hfn : fn.results = ⟨rs⟩) (hr : Res ⟨P, β, n, [], none⟩ L H rs vs)
    (hp : Post (retV vs) Hs) (pk : Pk H Hs K) (tl : Tl K F) : G ⟨P, β, n, [], none⟩ L H (bodyR P β fn F Post .normal) := G.ret hfn hr hp pk tl

/-! ### maps keyed by numbers -/
/-- What a map's block holds: entries in some order, no key twice, no stamp twice. -/
structure MI {K : Type} (enc : K → Value) (es : Array MapEntry) (clock : Nat) (m : List (K × Value)) : Prop where
  kv : es.toList.map (fun e => (e.key, e.val)) = m.map (fun x => (enc x.1, x.2))
  nd : (m.map Prod.fst).Nodup
  born : ∀ e ∈ es.toList, e.born < clock
  bnd : (es.toList.map (·.born)).Nodup
def MapP {K : Type} (enc : K → Value) (r : Nat) (m : List (K × Value)) : HP := fun h => ∃ es clock, h r = some (.map es clock) ∧ MI enc es clock m
abbrev ik : Int → Value := fun k => .int .i64 k
abbrev sk : ByteArray → Value := fun k => .string k
def mget {K V : Type} [DecidableEq K] : List (K × V) → K → Option V
  | [], _ => none
  | (k, v) :: r, x => if k = x then some v else mget r x
def mset {K V : Type} [DecidableEq K] : List (K × V) → K → V → List (K × V)
  | [], x, u => [(x, u)]
  | (k, v) :: r, x, u => if k = x then (k, u) :: r else (k, v) :: mset r x u
def mdel {K V : Type} [DecidableEq K] : List (K × V) → K → List (K × V)
  | [], _ => []
  | (k, v) :: r, x => if k = x then r else (k, v) :: mdel r x

theorem bbeq (a b : ByteArray) : (a == b) = decide (a = b) := by
  cases a; cases b
  rw [Bool.eq_iff_iff]
  simp only [decide_eq_true_eq]
  constructor
  · intro h; exact congrArg ByteArray.mk (eq_of_beq (show (_ == _) = true from h))
  · intro h; cases h; exact beq_self_eq_true (α := Array UInt8) _
/-- Keys that are told apart at once. -/
class KeyOk {K : Type} [DecidableEq K] (enc : K → Value) (P : Program) (t : TypeId) : Prop where
  same : ∀ td, P.underlying t = some td → ∀ a b : K, Instr.sameNow td (enc a) (enc b) = some (decide (a = b))
  check : ∀ e n (k : K) w, (Instr.checkKey e (n + 1) t (enc k)).run P w = .ok () w
  bits : ∀ k : K, Instr.sameBits 10000 (enc k) (enc k) = true
  ud : ∃ td, P.underlying t = some td
theorem KeyOk.int {P : Program} {t : TypeId} (hu : P.underlying t = some (.int .i64)) : KeyOk ik P t where
  same := fun td h a b => by
    rw [hu] at h; cases h
    simp [Instr.sameNow]
    rfl
  check := fun e n k w => by simp [Instr.checkKey, run_underlying' hu]
  bits := fun k => by simp [Instr.sameBits]
  ud := ⟨_, hu⟩
theorem KeyOk.str {P : Program} {t : TypeId} (hu : P.underlying t = some .string) : KeyOk sk P t where
  same := fun td h a b => by
    rw [hu] at h; cases h
    simp only [Instr.sameNow, bbeq]
  check := fun e n k w => by simp [Instr.checkKey, run_underlying' hu]
  bits := fun k => by simp [Instr.sameBits, bbeq]
  ud := ⟨_, hu⟩

theorem MI.nil {K : Type} {enc : K → Value} : MI enc #[] 0 [] := ⟨by simp, by simp, by simp, by simp⟩
theorem mget_mem {K V : Type} [DecidableEq K] : ∀ {m : List (K × V)} {k : K} {v : V}, mget m k = some v → (k, v) ∈ m
  | [], _, _, h => by cases h
  | (k', v') :: r, k, v, h => by
    simp only [mget] at h
    split at h
    · rename_i e; cases h; subst e; exact List.mem_cons_self ..
    · exact List.mem_cons_of_mem _ (mget_mem h)
theorem mget_none {K V : Type} [DecidableEq K] : ∀ {m : List (K × V)} {k : K}, mget m k = none → k ∉ m.map Prod.fst
  | [], _, _ => by simp
  | (k', v') :: r, k, h => by
    simp only [mget] at h
    split at h
    · cases h
    · rename_i e
      have := mget_none h
      simp only [List.map_cons, List.mem_cons, not_or]
      exact ⟨fun h => e h.symm, this⟩
theorem find_of_mi {K : Type} [DecidableEq K] {enc : K → Value} {P : Program} {t : TypeId} [ok : KeyOk enc P t] {td : TypeDesc} (hu : P.underlying t = some td) (k : K) : ∀ (es : List MapEntry) (m : List (K × Value)) (i : Nat), es.map (fun e => (e.key, e.val)) = m.map (fun x => (enc x.1, x.2)) →
    ∃ r, Instr.findNow td (enc k) es i = some r ∧ (match r with
      | none => mget m k = none
      | some (j, v) => mget m k = some v ∧ i ≤ j ∧ j < i + es.length ∧ (∃ e, es[j - i]? = some e ∧ e.key = enc k ∧ e.val = v) ∧
          (∀ u, (es.modify (j - i) fun e => { e with key := enc k, val := u }).map (fun e => (e.key, e.val)) = (mset m k u).map (fun x => (enc x.1, x.2))) ∧
          (es.eraseIdx (j - i)).map (fun e => (e.key, e.val)) = (mdel m k).map (fun x => (enc x.1, x.2)))
  | [], [], i, _ => ⟨none, rfl, rfl⟩
  | [], _ :: _, _, h => by simp at h
  | _ :: _, [], _, h => by simp at h
  | e :: es, x :: m, i, h => by
    rw [List.map_cons, List.map_cons, List.cons.injEq] at h
    obtain ⟨h1, h2⟩ := h
    simp only [Prod.mk.injEq] at h1
    obtain ⟨h1, h1v⟩ := h1
    have hs := ok.same td hu k x.1
    simp only [Instr.findNow]
    rw [h1, hs]
    by_cases hk : k = x.1
    · subst hk
      refine ⟨some (i, e.val), by simp, ?_⟩
      simp only [mget, if_true, h1v, Nat.le_refl, Nat.sub_self, List.length_cons, mset, mdel, List.eraseIdx_cons_zero, true_and]
      refine ⟨by omega, ⟨e, by simp, h1, h1v⟩, fun u => ?_, h2⟩
      simp [h2]
    · obtain ⟨r, hr, hp⟩ := find_of_mi (enc := enc) (ok := ok) hu k es m (i + 1) h2
      refine ⟨r, by simp [hk, hr], ?_⟩
      have hk' : ¬ x.1 = k := fun e => hk e.symm
      cases r with
      | none => simp only [mget, hk', if_false]; exact hp
      | some jv =>
        obtain ⟨j, v⟩ := jv
        obtain ⟨p1, p2, p3, ⟨e', p4, p5, p6⟩, p7, p8⟩ := hp
        have hj : j - i = (j - (i + 1)) + 1 := by omega
        simp only [mget, hk', if_false]
        refine ⟨p1, by omega, by simp; omega, ⟨e', by rw [hj]; simpa using p4, p5, p6⟩, fun u => ?_, ?_⟩
        · rw [hj]
          simp only [mset, hk', if_false, List.modify_succ_cons, List.map_cons, h1, h1v]
          rw [p7 u]
        · rw [hj]
          simp only [mdel, hk', if_false, List.eraseIdx_cons_succ, List.map_cons, h1, h1v]
          rw [p8]
end Go.SL
