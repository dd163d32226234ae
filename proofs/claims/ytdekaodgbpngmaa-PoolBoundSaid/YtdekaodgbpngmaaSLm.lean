/- Own layer: a range over a function. -/
import Derived.Test.YtdekaodgbpngmaaSLk
namespace Go.SL
open Go Go.RowKit

/-- A loop's record. -/
def lrec (l fn : Nat) (tmps : Array Value) (ps : Array Tmp) (assign body : Code) (D : Nat) (st : LoopState) (pend : Option Code) : HP :=
  blk l (.loop { state := st, pending := pend, fn, tmps, params := ps, assign, body, defers := D })
/-- What a round does, begun by a call of yield. -/
def YFn (P : Program) (β : Base) (l : Nat) (vs : List Value) (Pre : List HP) (Post : Value → List HP → Prop) : Prop :=
  ∀ (F : List HP) (w : World), Sat β (Pre ++ F) w → ∀ ρ, ∃ fn tmps assign body, (Instr.yield l ⟨vs⟩).run P w = .ok (.round l fn tmps assign body) w ∧
    RoundIn (FW ρ) 0 P l fn tmps assign body w fun e w' => ∃ v Hs, e = .returned v ∧ Post v Hs ∧ Sat β (Hs ++ F) w'
theorem YFn.mono {P : Program} {β : Base} {l : Nat} {vs : List Value} {Pre : List HP} {Post Post' : Value → List HP → Prop} (h : YFn P β l vs Pre Post) (hp : ∀ v Hs, Post v Hs → Post' v Hs) : YFn P β l vs Pre Post' := fun F w s ρ => by
  obtain ⟨fn, tmps, assign, body, h1, h2⟩ := h F w s ρ
  exact ⟨fn, tmps, assign, body, h1, h2.mono fun _ _ ⟨v, Hs, e, p, s'⟩ => ⟨v, Hs, e, hp v Hs p, s'⟩⟩
section
variable {C : Cx} {L : Env} {ty : TypeId} {pos : String} {af : Array Edge} {g : Option (Nat × Bool)} {H : List HP}
/-- The call of yield. -/
theorem EX.yield {d : Option Tmp} {t : Operand} {xs : List Operand} {ats : Array TypeId} {Pre F : List HP} {l : Nat} {vs : List Value} {Post : Value → List HP → Prop}
    (ht : ev L t = some (.func (.yield l) #[] #[])) (hv : Evs L xs vs) (spec : YFn C.P C.β l vs Pre Post) (hp : Pk H Pre F) (hd : dOk d C.n = true := by rfl) :
    EX C ⟨d, .call { callee := .value t, args := ⟨xs⟩, argTypes := ats }, ty, pos, af, g⟩ L H (fun L' H' => ∃ v Hs, Post v Hs ∧ L' = pl d v L ∧ H' = Hs ++ F) := by
  intro a w k s Q
  refine ⟨fun _ _ => trivial, ?_⟩
  show Oper.uponIn _ _ _ _ _ _ _ ((Oper.semAt C.ρ a.eval _).run C.P w)
  rw [Oper.semAt_eq _ _ _ (fun c hc => by cases hc)]
  have hargs : (⟨xs⟩ : Array Operand).map a.eval = ⟨vs⟩ := by
    have h1 := map_eval k xs vs (by simpa using hv.map)
    rw [← h1]; simp
  obtain ⟨fn, tmps, assign, body, hy, hR⟩ := spec F w (s.pk hp) C.ρ
  have hrun : (execOp a.eval (⟨d, .call { callee := .value t, args := ⟨xs⟩, argTypes := ats }, ty, pos, af, g⟩ : Oper)).run C.P w = .ok (.round l fn tmps assign body) w := by
    simp [execOp, resolve, k.eval ht, Deferred.ofValue, invoke, hargs, hy]
  rw [hrun]
  refine ⟨fun h => by simp [FW] at h, RoundIn.mono hR fun e w' he => ?_⟩
  obtain ⟨v, Hs, e1, hpo, s'⟩ := he
  subst e1
  exact ⟨_, _, ⟨v, Hs, hpo, rfl, rfl⟩, k.put' d v hd, s'⟩
end

theorem run_getObj_lrec {P : Program} {β : Base} {F : List HP} {w : World} {l : Nat} {r : Loop} (s : Sat β (blk l (.loop r) :: F) w) : (getObj l).run P w = .ok (.loop r) w := by
  have := s.heap
  simp [getObj, Sem.run, this]
theorem run_setObj_lrec {P : Program} {β : Base} {F : List HP} {w : World} {l : Nat} {r : Loop} {o : Obj} (s : Sat β (blk l (.loop r) :: F) w) : (setObj l o).run P w = .ok () { w with heap := w.heap.setIfInBounds l o } := by
  have := s.heap
  simp [setObj, Sem.run, this]
/-- The slots as a round begins. -/
def roundTmps (ps : List Tmp) (vs : List Value) (tmps : Array Value) : Array Value := (ps.zip vs).foldl (fun t x => t.setIfInBounds x.1 x.2) tmps
def roundEnv : List Tmp → List Value → Env → Env
  | p :: ps, v :: vs, L => roundEnv ps vs ((p, v) :: L)
  | _, _, L => L
theorem knows_round {n : Nat} : ∀ (ps : List Tmp) (vs : List Value) (tmps : Array Value) (L : Env), Knows n [] { tmps := tmps, defers := [] } L → (ps.all fun p => Nat.blt p n) = true → Knows n [] { tmps := roundTmps ps vs tmps, defers := [] } (roundEnv ps vs L)
  | [], vs, tmps, L, k, _ => by cases vs <;> exact k
  | p :: ps, [], tmps, L, k, _ => k
  | p :: ps, v :: vs, tmps, L, k, h => by
    simp only [List.all_cons, Bool.and_eq_true] at h
    have := k.put p v h.1
    exact knows_round ps vs (tmps.setIfInBounds p v) _ this h.2
/-- A round, out of its code's walk. -/
theorem YFn.mk {P : Program} {β : Base} {n l fn D : Nat} {A : Array Value} {ps : List Tmp} {assign body : Code} {L : Env} {vs : List Value} {Pre : List HP} {Post : Value → List HP → Prop} (hlen : vs.length = ps.length) (hps : (ps.all fun p => Nat.blt p n) = true) (hA : Knows n [] { tmps := A, defers := [] } L)
    (h : ∀ F, T ⟨P, β, n, [], some l⟩ assign (roundEnv ps vs L) (lrec l fn A ⟨ps⟩ assign body D .ready none :: (Pre ++ F)) (Exit.then (fun a₁ w₁ => ∃ w₂, (Instr.beginRound l).run P w₁ = .ok () w₂ ∧ body.wpIn (FW (some l)) 0 P (roundPost P l fun e w' => ∃ v Hs, e = .returned v ∧ Post v Hs ∧ Sat β (Hs ++ F) w') a₁ w₂) (fun _ _ _ => False))) :
    YFn P β l vs (lrec l fn A ⟨ps⟩ assign body D .ready none :: Pre) Post := by
  intro F w s ρ
  have s' : Sat β (lrec l fn A ⟨ps⟩ assign body D .ready none :: (Pre ++ F)) w := s
  refine ⟨fn, roundTmps ps vs A, assign, body, ?_, roundIn_of_wpIn (F := FW ρ) trivial (h F _ w (knows_round ps vs A L hA hps) s')⟩
  have hg := run_getObj_lrec (P := P) s'
  simp only [Instr.yield, Instr.getLoop, Sem.run_bind, hg, Result.andThen_ok, Sem.run_pure]
  simp [hlen, roundTmps]
/-- Between the assignment and the body: the record turns busy. -/
theorem G.beginRound {P : Program} {β : Base} {n l fn D : Nat} {A : Array Value} {ps : Array Tmp} {assign body : Code} {L : Env} {H H' : List HP} {R : Ending → World → Prop} (hsw : Sw H (lrec l fn A ps assign body D .ready none) (lrec l fn A ps assign body D .busy none) H') (h : T ⟨P, β, n, [], some l⟩ body L H' (roundPost P l R)) :
    G ⟨P, β, n, [], some l⟩ L H (Exit.then (fun a₁ w₁ => ∃ w₂, (Instr.beginRound l).run P w₁ = .ok () w₂ ∧ body.wpIn (FW (some l)) 0 P (roundPost P l R) a₁ w₂) (fun _ _ _ => False) .normal) := by
  intro a w k s
  obtain ⟨M, rm, q⟩ := hsw.rm
  have s' := s.rm rm
  refine ⟨_, ?_, h a _ k ((Sat.putObj s').unrm q)⟩
  simp only [Instr.beginRound, Instr.getLoop, Sem.run_bind, run_getObj_lrec (P := P) s', Result.andThen_ok, Sem.run_pure, run_setObj_lrec (P := P) s']
theorem endRound_sat {P : Program} {β : Base} {l fn D : Nat} {A : Array Value} {ps : Array Tmp} {assign body : Code} {M F Hs K : List HP} {w : World} (jump : Option Code) (s' : Sat β (lrec l fn A ps assign body D .busy none :: M) w) (pk : Pk M Hs K) (tl : Tl K F) :
    ∃ w', (Instr.endRound l jump).run P w = .ok (.bool jump.isNone) w' ∧ Sat β (lrec l fn A ps assign body D (if jump.isNone then .ready else .done) jump :: Hs ++ F) w' := by
  refine ⟨_, ?_, (Sat.putObj s').conv fun _ x => star_mono x (fun _ y => y) (fun _ y => stars_append' (star_mono (stars_append (pk.to y)) (fun _ z => z) (fun _ z => tl.to z)))⟩
  simp only [Instr.endRound, Instr.getLoop, Sem.run_bind, run_getObj_lrec (P := P) s', Result.andThen_ok, Sem.run_pure, run_setObj_lrec (P := P) s']
/-- A round's end: it goes on. -/
theorem G.roundOn {P : Program} {β : Base} {n l fn D : Nat} {A : Array Value} {ps : Array Tmp} {assign body : Code} {L : Env} {H M F Hs K : List HP} {Post : Value → List HP → Prop} (rm : Rm H (lrec l fn A ps assign body D .busy none) M) (hp : Post (.bool true) (lrec l fn A ps assign body D .ready none :: Hs)) (pk : Pk M Hs K) (tl : Tl K F) :
    G ⟨P, β, n, [], some l⟩ L H (roundPost P l (fun e w' => ∃ v Hs, e = .returned v ∧ Post v Hs ∧ Sat β (Hs ++ F) w') .normal) := by
  intro a w k s
  obtain ⟨w', h1, h2⟩ := endRound_sat (P := P) none (s.rm rm) pk tl
  exact ⟨.bool true, w', h1, .bool true, _, rfl, hp, h2⟩
/-- A round's end: it leaves by a return. -/
theorem G.roundRet {P : Program} {β : Base} {n l fn D : Nat} {A : Array Value} {ps : Array Tmp} {assign body : Code} {L : Env} {H M F Hs K : List HP} {Post : Value → List HP → Prop} (rm : Rm H (lrec l fn A ps assign body D .busy none) M) (hp : Post (.bool false) (lrec l fn A ps assign body D .done (some .ret) :: Hs)) (pk : Pk M Hs K) (tl : Tl K F) :
    G ⟨P, β, n, [], some l⟩ L H (roundPost P l (fun e w' => ∃ v Hs, e = .returned v ∧ Post v Hs ∧ Sat β (Hs ++ F) w') .ret) := by
  intro a w k s
  obtain ⟨w', h1, h2⟩ := endRound_sat (P := P) (some .ret) (s.rm rm) pk tl
  exact ⟨.bool false, w', h1, .bool false, _, rfl, hp, h2⟩
/-- A round's end: it leaves by a jump out of a block. -/
theorem G.roundExit {P : Program} {β : Base} {n l fn D id : Nat} {A : Array Value} {ps : Array Tmp} {assign body : Code} {L : Env} {H M F Hs K : List HP} {Post : Value → List HP → Prop} (rm : Rm H (lrec l fn A ps assign body D .busy none) M) (hp : Post (.bool false) (lrec l fn A ps assign body D .done (some (.exit id)) :: Hs)) (pk : Pk M Hs K) (tl : Tl K F) :
    G ⟨P, β, n, [], some l⟩ L H (roundPost P l (fun e w' => ∃ v Hs, e = .returned v ∧ Post v Hs ∧ Sat β (Hs ++ F) w') (.exit id)) := by
  intro a w k s
  obtain ⟨w', h1, h2⟩ := endRound_sat (P := P) (some (.exit id)) (s.rm rm) pk tl
  exact ⟨.bool false, w', h1, .bool false, _, rfl, hp, h2⟩

/-- The mark that a range over a function leaves among the deferred calls. -/
abbrev markD (D : Nat) : List Deferred := [{ target := .collected D, args := #[] }]
/-- The statement. -/
theorem T.range {P : Program} {β : Base} {n gf : Nat} {fnc : Func} {g : Operand} {ps : Array Tmp} {assign body : Code} {us ws : List Value} {L : Env} {H Pre F : List HP} {Q : Exit → Act → World → Prop} {PostIt : Nat → Nat → Nat → Act → List HP → Prop}
    (hg : ev L g = some (.func (.func gf) ⟨us⟩ ⟨ws⟩)) (cf : Callable P gf fnc) (hp : Pk H Pre F)
    (spec : ∀ (a : Act) (l D fn : Nat), Knows n [] a L → FSpec P β gf ⟨us ++ [.func (.yield l) #[] #[]] ++ ws⟩ (lrec l fn a.tmps ps assign body D .ready none :: blk D (.deferred (some [])) :: Pre) (fun _ Hs => PostIt l D fn a Hs))
    (done : ∀ (a : Act) (l D fn : Nat) (Hs : List HP), Knows n [] a L → PostIt l D fn a Hs → ∃ st pend K, st ≠ LoopState.busy ∧ Rm Hs (lrec l fn a.tmps ps assign body D st pend) K ∧
      (match pend with
       | none => G ⟨P, β, n, markD D, none⟩ L (K ++ F) (Q .normal)
       | some c => T ⟨P, β, n, markD D, none⟩ c L (K ++ F) Q)) : T ⟨P, β, n, [], none⟩ (.rangeFunc g ps assign body) L H Q := by
  intro a w k s
  refine wpIn_rangeFunc (F := FW none) fun fn _ => ?_
  have hev := k.eval hg
  -- the block for the deferred calls, the record
  let w1 : World := { w with heap := w.heap.push (.deferred (some [])) }
  let D := w.heap.size
  let o : Obj := .loop { state := .ready, pending := none, fn, tmps := a.tmps, params := ps, assign, body, defers := D }
  let w2 : World := { w1 with heap := w1.heap.push o }
  let l := w1.heap.size
  have s1 : Sat β (blk D (.deferred (some [])) :: H) w1 := Sat.alloc s rfl ⟨rfl, rfl, rfl⟩
  have s2 : Sat β (lrec l fn a.tmps ps assign body D .ready none :: blk D (.deferred (some [])) :: H) w2 := Sat.alloc s1 rfl ⟨rfl, rfl, rfl⟩
  have hnm' : fnc.name ≠ "runtime.NumGoroutine" := by simpa using cf.hn
  have hb' : fnc.body ≠ none := by intro e; have := cf.hb; rw [e] at this; cases this
  have hdef : a.defers = [] := k.defers
  refine ⟨l, markD D, w2, ⟨.fn (.func gf) ⟨ws⟩, ⟨us ++ [.func (.yield l) #[] #[]]⟩⟩, w2, gf, ⟨us ++ [.func (.yield l) #[] #[]] ++ ws⟩, w2, ?_, ?_, fun _ _ => trivial, ?_, fun h => by simp [FW] at h, ?_⟩
  · simp [Instr.enterLoop, FW, w2, w1, l, D, o]
  · have hevc : Act.eval a (.const (.func (.yield l) #[] #[])) = .func (.yield l) #[] #[] := rfl
    simp [resolve, hev, Deferred.ofValue, hevc]
  · simp [invoke, callFunc, cf.hf, hnm', hb']
  · have hsp := spec a l D fn k F w2 (s2.conv fun _ x => star_mono x (fun _ y => y) (fun _ y => star_mono y (fun _ z => z) (fun _ z => hp.to z)))
    refine (callsIn_wide (n := 0 - 1)).2 (hsp.mono fun e w3 he => ?_)
    obtain ⟨v, Hs, rfl, hpost, s3⟩ := he
    obtain ⟨st, pend, K, hst, hrm, hcont⟩ := done a l D fn Hs k hpost
    have s4 : Sat β (lrec l fn a.tmps ps assign body D st pend :: (K ++ F)) w3 := s3.conv fun _ x => star_assoc (star_mono (stars_append x) (fun _ y => hrm.to y) (fun _ y => y)) |> fun x => star_mono x (fun _ y => y) (fun _ y => stars_append' y)
    have hst' : (st == LoopState.busy) = false := by cases st <;> simp_all
    have hend : ∃ w4, (Instr.endLoop l).run P w3 = .ok pend w4 ∧ Sat β (K ++ F) w4 := by
      refine ⟨_, ?_, (Sat.putObj (o' := .loop { state := .exhausted, pending := pend, fn, tmps := a.tmps, params := ps, assign, body, defers := D }) s4).drop⟩
      simp only [Instr.endLoop, Instr.getLoop, Sem.run_bind, run_getObj_lrec (P := P) s4, Result.andThen_ok, Sem.run_pure, hst', Bool.false_eq_true, if_false, run_setObj_lrec (P := P) s4]
    obtain ⟨w4, he1, s5⟩ := hend
    refine ⟨pend, w4, he1, ?_⟩
    have k' : Knows n (markD D) { a with defers := markD D ++ a.defers } L := ⟨k.size, by simp [hdef], k.get⟩
    cases pend with
    | none => exact hcont _ _ k' s5
    | some c => exact hcont _ _ k' s5

/-! ### a function that holds such a statement -/
def bodyRM (P : Program) (β : Base) (fn : Func) (F : List HP) (Post : Value → List HP → Prop) : Exit → Act → World → Prop :=
  bodyPostM (FW none) 0 P fn fun e w' => ∃ v Hs, e = .returned v ∧ Post v Hs ∧ Sat β (Hs ++ F) w'
theorem FSpec.bodyM {P : Program} {β : Base} {f : FuncId} {fn : Func} {c : Code} {args : List Value} {Pre : List HP} {Post : Value → List HP → Prop} (hf : P.funcs[f]? = some fn) (hb : fn.body = some c) (hn : Nat.ble args.length fn.ntmps = true)
    (h : ∀ F, T ⟨P, β, fn.ntmps, [], none⟩ c (argsL args) (Pre ++ F) (bodyRM P β fn F Post)) : FSpec P β f args.toArray Pre Post := by
  intro F w s
  refine (callsIn_wide (n := 0)).1 (callsIn_of_wp_marks hf hb trivial ?_)
  have hn' : args.length ≤ fn.ntmps := by simpa using hn
  refine h F _ w ⟨?_, rfl, fun t v ht => ?_⟩ s
  · simp; omega
  · obtain ⟨_, h2⟩ := lk_args args 0 t v ht
    have hlt : t < args.length := by
      rcases Nat.lt_or_ge t args.length with h | h
      · exact h
      · simp [h] at h2
    rw [Array.getElem?_append_left (by simpa using hlt)]
    simpa using h2
theorem G.retM0 {P : Program} {β : Base} {n : Nat} {fn : Func} {F : List HP} {Post : Value → List HP → Prop} {L : Env} {H Hs K : List HP} {rs : List ResultVar} {vs : List Value} (hfn : fn.results = ⟨rs⟩) (hr : Res ⟨P, β, n, [], none⟩ L H rs vs)
    (hp : Post (retV vs) Hs) (pk : Pk H Hs K) (tl : Tl K F) : G ⟨P, β, n, [], none⟩ L H (bodyRM P β fn F Post .ret) := by
  intro a w k s
  have hd : a.defers = [] := k.defers
  show LeavesInM _ _ _ _ _ _ a.defers _ _
  rw [hd]
  exact ⟨_, results_run k s hfn hr, _, Hs, rfl, hp, (s.pk pk).conv fun _ x => stars_append' (star_mono (stars_append x) (fun _ y => y) (fun _ y => tl.to y))⟩
theorem G.retM1 {P : Program} {β : Base} {n D : Nat} {fn : Func} {F : List HP} {Post : Value → List HP → Prop} {L : Env} {H M Hs K : List HP} {rs : List ResultVar} {vs : List Value} (rm : Rm H (blk D (.deferred (some []))) M) (hfn : fn.results = ⟨rs⟩) (hr : Res ⟨P, β, n, markD D, none⟩ L M rs vs)
    (hp : Post (retV vs) Hs) (pk : Pk M Hs K) (tl : Tl K F) : G ⟨P, β, n, markD D, none⟩ L H (bodyRM P β fn F Post .ret) := by
  intro a w k s
  have hd : a.defers = markD D := k.defers
  show LeavesInM _ _ _ _ _ _ a.defers _ _
  rw [hd]
  have s' := s.rm rm
  have hh := s'.heap
  have s2 := (Sat.putObj (o' := .deferred none) s').drop
  refine ⟨by simp, .inl ⟨D, _, rfl, ?_, _, results_run k s2 hfn hr, _, Hs, rfl, hp, (s2.pk pk).conv fun _ x => stars_append' (star_mono (stars_append x) (fun _ y => y) (fun _ y => tl.to y))⟩⟩
  simp [Instr.takeDeferred, getObj, setObj, Sem.run, hh]
/-- The statement, with the record as a function of its state. -/
theorem T.range' {P : Program} {β : Base} {n gf : Nat} {fnc : Func} {g : Operand} {ps : Array Tmp} {assign body : Code} {us ws : List Value} {L : Env} {H Pre F : List HP} {Q : Exit → Act → World → Prop} {PostIt : (LoopState → Option Code → HP) → Nat → List HP → Prop}
    (hg : ev L g = some (.func (.func gf) ⟨us⟩ ⟨ws⟩)) (cf : Callable P gf fnc) (hp : Pk H Pre F)
    (spec : ∀ (A : Array Value) (l D fn : Nat), Knows n [] { tmps := A, defers := [] } L → FSpec P β gf ⟨us ++ [.func (.yield l) #[] #[]] ++ ws⟩ (lrec l fn A ps assign body D .ready none :: blk D (.deferred (some [])) :: Pre) (fun _ Hs => PostIt (lrec l fn A ps assign body D) D Hs))
    (done : ∀ (rec : LoopState → Option Code → HP) (D : Nat) (Hs : List HP), PostIt rec D Hs → ∃ st pend K, st ≠ LoopState.busy ∧ Rm Hs (rec st pend) K ∧
      (match pend with
       | none => G ⟨P, β, n, markD D, none⟩ L (K ++ F) (Q .normal)
       | some c => T ⟨P, β, n, markD D, none⟩ c L (K ++ F) Q)) : T ⟨P, β, n, [], none⟩ (.rangeFunc g ps assign body) L H Q :=
  T.range (PostIt := fun l D fn a Hs => PostIt (lrec l fn a.tmps ps assign body D) D Hs) hg cf hp (fun a l D fn k => spec a.tmps l D fn ⟨k.size, rfl, k.get⟩) (fun a l D fn Hs _ hP => done (lrec l fn a.tmps ps assign body D) D Hs hP)
/-! ### decided conditions -/
theorem T.condT {C : Cx} {c : Operand} {x y : Code} {b : Bool} {L : Env} {H : List HP} {Q : Exit → Act → World → Prop} (hc : ev L c = some (.bool b)) (hb : b = true) (ht : T C x L H Q) : T C (.cond c x y) L H Q := T.cond_true (hb ▸ hc) ht
theorem T.condF {C : Cx} {c : Operand} {x y : Code} {b : Bool} {L : Env} {H : List HP} {Q : Exit → Act → World → Prop} (hc : ev L c = some (.bool b)) (hb : b = false) (ht : T C y L H Q) : T C (.cond c x y) L H Q := T.cond_false (hb ▸ hc) ht
theorem TL.guardT {C : Cx} {ops : Array Oper} {os : List Oper} {b : Bool} {L : Env} {H : List HP} {Q : Exit → Act → World → Prop} (t : Nat) (hl : lk L t = some (.bool b)) (hb : b = true) (h : TL C ops os ((t, .bool true) :: L) H Q) : TL C ops os L H Q :=
  TL.guard t hl (fun _ => h) (fun e => absurd (hb.symm.trans e) (by decide))
theorem TL.guardF {C : Cx} {ops : Array Oper} {os : List Oper} {b : Bool} {L : Env} {H : List HP} {Q : Exit → Act → World → Prop} (t : Nat) (hl : lk L t = some (.bool b)) (hb : b = false) (h : TL C ops os ((t, .bool false) :: L) H Q) : TL C ops os L H Q :=
  TL.guard t hl (fun e => absurd (hb.symm.trans e) (by decide)) (fun _ => h)
theorem DL.guardT {C : Cx} {ops : Array Oper} {l : List (Nat × Bool)} {pend : List (Nat × HP)} {b : Bool} {L : Env} {H : List HP} {Q : Exit → Act → World → Prop} (t : Nat) (hl : lk L t = some (.bool b)) (hb : b = true) (h : DL C ops Q l pend ((t, .bool true) :: L) H) : DL C ops Q l pend L H :=
  DL.guard t hl (fun _ => h) (fun e => absurd (hb.symm.trans e) (by decide))
theorem DL.guardF {C : Cx} {ops : Array Oper} {l : List (Nat × Bool)} {pend : List (Nat × HP)} {b : Bool} {L : Env} {H : List HP} {Q : Exit → Act → World → Prop} (t : Nat) (hl : lk L t = some (.bool b)) (hb : b = false) (h : DL C ops Q l pend ((t, .bool false) :: L) H) : DL C ops Q l pend L H :=
  DL.guard t hl (fun e => absurd (hb.symm.trans e) (by decide)) (fun _ => h)
end Go.SL
