/- Own layer: map operations; slices. -/
import Derived.Test.YtdekaodgbpngmaaSLe
namespace Go.SL
open Go Go.RowKit

theorem MI.nd_entries {K : Type} {enc : K → Value} {es : Array MapEntry} {clock : Nat} {m : List (K × Value)} (h : MI enc es clock m) : es.size = m.length := by
  have := congrArg List.length h.kv
  simpa using this
theorem mset_keys {K V : Type} [DecidableEq K] : ∀ (m : List (K × V)) (k : K) (v : V), (mset m k v).map Prod.fst = if k ∈ m.map Prod.fst then m.map Prod.fst else m.map Prod.fst ++ [k]
  | [], k, v => by simp [mset]
  | (k', v') :: r, k, v => by
    simp only [mset]
    by_cases e : k' = k
    · subst e; simp
    · have ih := mset_keys r k v
      rw [if_neg e, List.map_cons, ih]
      have e' : ¬ k = k' := fun h => e h.symm
      by_cases hm : k ∈ r.map Prod.fst
      · simp only [hm, if_true, List.map_cons, List.mem_cons, or_true]
      · simp only [hm, if_false, List.map_cons, List.mem_cons, e', or_self, List.cons_append]
theorem mset_nodup {K V : Type} [DecidableEq K] {m : List (K × V)} (h : (m.map Prod.fst).Nodup) (k : K) (v : V) : ((mset m k v).map Prod.fst).Nodup := by
  rw [mset_keys]
  split
  · exact h
  · rename_i hn
    exact List.nodup_append.2 ⟨h, by simp, fun a ha b hb e => by simp at hb; subst hb; subst e; exact hn ha⟩
theorem mdel_sub {K V : Type} [DecidableEq K] : ∀ (m : List (K × V)) (k : K), ((mdel m k).map Prod.fst).Sublist (m.map Prod.fst)
  | [], _ => by simp [mdel]
  | (k', v') :: r, k => by
    simp only [mdel]
    split
    · exact List.sublist_cons_self ..
    · exact (mdel_sub r k).cons_cons _
theorem mdel_nodup {K V : Type} [DecidableEq K] {m : List (K × V)} (h : (m.map Prod.fst).Nodup) (k : K) : ((mdel m k).map Prod.fst).Nodup := (mdel_sub m k).nodup h
theorem mset_new {K V : Type} [DecidableEq K] : ∀ {m : List (K × V)} {k : K} (v : V), mget m k = none → mset m k v = m ++ [(k, v)]
  | [], _, _, _ => rfl
  | (k', v') :: r, k, v, h => by
    simp only [mget] at h
    split at h
    · cases h
    · rename_i e; simp [mset, e, mset_new v h]
theorem mdel_none {K V : Type} [DecidableEq K] : ∀ {m : List (K × V)} {k : K}, mget m k = none → mdel m k = m
  | [], _, _ => rfl
  | (k', v') :: r, k, h => by
    simp only [mget] at h
    split at h
    · cases h
    · rename_i e; simp [mdel, e, mdel_none h]

theorem born_modifyL {f : MapEntry → MapEntry} (hf : ∀ e, (f e).born = e.born) : ∀ (l : List MapEntry) (j : Nat), (l.modify j f).map (·.born) = l.map (·.born)
  | [], j => by cases j <;> simp [List.modify]
  | e :: l, 0 => by simp [hf]
  | e :: l, j + 1 => by simp [born_modifyL hf l j]
theorem born_modify {es : Array MapEntry} {j : Nat} {f : MapEntry → MapEntry} (hf : ∀ e, (f e).born = e.born) : (es.modify j f).toList.map (·.born) = es.toList.map (·.born) := by
  rw [Array.toList_modify]; exact born_modifyL hf _ _
theorem mapP_of_sat {K : Type} {enc : K → Value} {β : Base} {F : List HP} {w : World} {r : Nat} {m : List (K × Value)} (s : Sat β (MapP enc r m :: F) w) : ∃ es clock, MI enc es clock m ∧ Sat β (blk r (.map es clock) :: F) w := by
  obtain ⟨b, e, h, d, l, h1, h2, d', l1, l2, ⟨es, clock, hx, hm⟩, y⟩ := s
  exact ⟨es, clock, hm, b, e, h, d, l, h1, h2, d', l1, l2, hx, y⟩
theorem sat_of_mapP {K : Type} {enc : K → Value} {β : Base} {F : List HP} {w : World} {r : Nat} {es : Array MapEntry} {clock : Nat} {m : List (K × Value)} (hm : MI enc es clock m) (s : Sat β (blk r (.map es clock) :: F) w) : Sat β (MapP enc r m :: F) w :=
  s.head fun _ hx => ⟨es, clock, hx, hm⟩
section
variable {C : Cx} {L : Env} {ty : TypeId} {pos : String} {af : Array Edge} {g : Option (Nat × Bool)} {H : List HP} {K : Type} {enc : K → Value}
theorem SIL.lenMapP {d : Option Tmp} {t e e' : TypeId} {x : Operand} {r : Nat} {m : List (K × Value)} (hu : C.P.underlying t = some (.map e e')) (h : ev L x = some (.map (some r))) : SIL C ⟨d, .call { callee := .builtin .len, args := #[x], argTypes := #[t] }, ty, pos, af, g⟩ L (MapP enc r m) (.int .i64 m.length) := fun a w k s => by
  obtain ⟨es, clock, hm, s'⟩ := mapP_of_sat s
  rw [← hm.nd_entries]
  exact SIL.lenMap (d := d) hu h a w k s'
/-- 'make(map[K]V)'. -/
theorem EX.makeMap {d : Nat} {t : TypeId} (enc : K → Value) (hd : Nat.blt d C.n = true := by rfl) :
    EX C ⟨some d, .makeMap t none, ty, pos, af, g⟩ L H (fun L' H' => ∃ b, L' = (d, .map (some b)) :: L ∧ H' = MapP enc b [] :: H) := by
  refine EX.of_value hd fun a w k s => ⟨.map (some w.heap.size), { w with heap := w.heap.push (.map #[] 0) }, _, ?_, ?_, w.heap.size, rfl, rfl⟩
  · simp [execOp, Instr.makeMap]
  · exact sat_of_mapP MI.nil (s.alloc rfl ⟨rfl, rfl, rfl⟩)
end
section
variable {C : Cx} {L : Env} {ty : TypeId} {pos : String} {af : Array Edge} {g : Option (Nat × Bool)} {H : List HP}
variable {K : Type} [DecidableEq K] {enc : K → Value}

theorem run_findKey' {P : Program} {kt : TypeId} [ok : KeyOk enc P kt] (k : K) {es : Array MapEntry} {clock : Nat} {m : List (K × Value)} (hm : MI enc es clock m) (w : World) :
    ∃ r, (Instr.findKey kt (enc k) es.toList).run P w = .ok r w ∧ (match r with
      | none => mget m k = none
      | some (j, v) => mget m k = some v ∧ j < es.size ∧ (∃ e, es[j]? = some e ∧ e.key = enc k ∧ e.val = v) ∧
          (∀ u, ((es.modify j fun e => { e with key := enc k, val := u }).toList).map (fun e => (e.key, e.val)) = (mset m k u).map (fun x => (enc x.1, x.2))) ∧
          (es.eraseIdxIfInBounds j).toList.map (fun e => (e.key, e.val)) = (mdel m k).map (fun x => (enc x.1, x.2))) := by
  obtain ⟨td, hu⟩ := ok.ud
  obtain ⟨r, hr, hp⟩ := find_of_mi (enc := enc) (P := P) (t := kt) hu k es.toList m 0 hm.kv
  refine ⟨r, by simp only [Instr.findKey, Sem.run_bind, run_underlying' hu, Result.andThen_ok, hr, Sem.run_pure], ?_⟩
  cases r with
  | none => exact hp
  | some jv =>
    obtain ⟨j, v⟩ := jv
    obtain ⟨p1, p2, p3, ⟨e', p4, p5, p6⟩, p7, p8⟩ := hp
    refine ⟨p1, by simpa using p3, ⟨e', by simpa using p4, p5, p6⟩, fun u => ?_, ?_⟩
    · have := p7 u
      simpa using this
    · have : es.eraseIdxIfInBounds j = ⟨es.toList.eraseIdx j⟩ := by
        apply Array.ext'; simp
      rw [this]; simpa using p8
theorem SIL.lookup {d : Option Tmp} {t kt et : TypeId} [ok : KeyOk enc C.P kt] {x y : Operand} {r : Nat} {k : K} {z : Value} {m : List (K × Value)} (hu : C.P.underlying t = some (.map kt et)) (hz : zeroIs C.P et z) (hx : ev L x = some (.map (some r))) (hy : ev L y = some (enc k)) :
    SIL C ⟨d, .lookup t x y false, ty, pos, af, g⟩ L (MapP enc r m) ((mget m k).getD z) := fun a w kn s => by
  obtain ⟨es, clock, hm, s'⟩ := mapP_of_sat s
  have hh := s'.heap
  obtain ⟨q, hq, hp⟩ := run_findKey' (P := C.P) (kt := kt) k hm w
  simp only [execOp, kn.eval hx, kn.eval hy, Instr.lookup, Sem.run_bind, run_underlying' hu, Result.andThen_ok, getObj, Sem.run, hh, Sem.run_pure, ok.check es.isEmpty 9999 k w, hq]
  cases q with
  | none => simp only [Sem.run_bind, hz w, Result.andThen_ok, Sem.run_pure]; simp [show mget m k = none from hp]
  | some jv => simp [hp.1]
theorem SIL.lookupOk {d : Option Tmp} {t kt et : TypeId} [ok : KeyOk enc C.P kt] {x y : Operand} {r : Nat} {k : K} {z : Value} {m : List (K × Value)} (hu : C.P.underlying t = some (.map kt et)) (hz : zeroIs C.P et z) (hx : ev L x = some (.map (some r))) (hy : ev L y = some (enc k)) :
    SIL C ⟨d, .lookup t x y true, ty, pos, af, g⟩ L (MapP enc r m) (.tuple ⟨[(mget m k).getD z, .bool (mget m k).isSome]⟩) := fun a w kn s => by
  obtain ⟨es, clock, hm, s'⟩ := mapP_of_sat s
  have hh := s'.heap
  obtain ⟨q, hq, hp⟩ := run_findKey' (P := C.P) (kt := kt) k hm w
  simp only [execOp, kn.eval hx, kn.eval hy, Instr.lookup, Sem.run_bind, run_underlying' hu, Result.andThen_ok, getObj, Sem.run, hh, Sem.run_pure, ok.check es.isEmpty 9999 k w, hq]
  cases q with
  | none => simp only [Sem.run_bind, hz w, Result.andThen_ok, Sem.run_pure]; simp [show mget m k = none from hp]
  | some jv => simp [hp.1]
theorem setObj_map {P : Program} {w : World} {r : Nat} {es : Array MapEntry} {n : Nat} {o : Obj} (h : w.heap[r]? = some (.map es n)) : (setObj r o).run P w = .ok () { w with heap := w.heap.setIfInBounds r o } := by
  simp [setObj, Sem.run, h]
theorem Sat.putObj {β : Base} {F : List HP} {w : World} {b : Nat} {o o' : Obj} (s : Sat β (blk b o :: F) w) : Sat β (blk b o' :: F) { w with heap := w.heap.setIfInBounds b o' } := by
  have hlt : b < w.heap.size := (Array.getElem?_eq_some_iff.1 s.heap).1
  refine s.put ?_ (fun k hk => ?_) ⟨rfl, rfl, rfl⟩
  · simp [hlt]
  · simp only [Array.getElem?_setIfInBounds]; rw [if_neg (by omega)]
theorem SIL.lookupS {d : Option Tmp} {t kt et : TypeId} [ok : KeyOk enc C.P kt] {x y : Operand} {r : Nat} {k : K} {z : Value} {m : List (K × Value)} {u : Option Value} (hu : C.P.underlying t = some (.map kt et)) (hz : zeroIs C.P et z) (hx : ev L x = some (.map (some r))) (hy : ev L y = some (enc k)) (hg : mget m k = u) :
    SIL C ⟨d, .lookup t x y false, ty, pos, af, g⟩ L (MapP enc r m) (u.getD z) := hg ▸ SIL.lookup hu hz hx hy
theorem SIL.lookupOkS {d : Option Tmp} {t kt et : TypeId} [ok : KeyOk enc C.P kt] {x y : Operand} {r : Nat} {k : K} {z : Value} {m : List (K × Value)} {u : Option Value} (hu : C.P.underlying t = some (.map kt et)) (hz : zeroIs C.P et z) (hx : ev L x = some (.map (some r))) (hy : ev L y = some (enc k)) (hg : mget m k = u) :
    SIL C ⟨d, .lookup t x y true, ty, pos, af, g⟩ L (MapP enc r m) (.tuple ⟨[u.getD z, .bool u.isSome]⟩) := hg ▸ SIL.lookupOk hu hz hx hy
theorem EX.mapUpdate {t kt et : TypeId} [ok : KeyOk enc C.P kt] {x y z : Operand} {r : Nat} {k : K} {v : Value} {m : List (K × Value)} {H' : List HP} (hsw : Sw H (MapP enc r m) (MapP enc r (mset m k v)) H') (hu : C.P.underlying t = some (.map kt et)) (hx : ev L x = some (.map (some r))) (hy : ev L y = some (enc k)) (hv : ev L z = some v) :
    EX C ⟨none, .mapUpdate t x y z, ty, pos, af, g⟩ L H (Out1 L H') := by
  refine EX.of_skip fun a w kn s => ?_
  obtain ⟨M, rm, q⟩ := hsw.rm
  obtain ⟨es, clock, hm, s'⟩ := mapP_of_sat (s.rm rm)
  have hh := s'.heap
  obtain ⟨f, hf, hp⟩ := run_findKey' (P := C.P) (kt := kt) k hm w
  cases f with
  | none =>
    refine ⟨{ w with heap := w.heap.setIfInBounds r (.map (es.push { key := enc k, val := v, born := clock }) (clock + 1)) }, H', ?_, Sat.unrm (sat_of_mapP ⟨?_, mset_nodup hm.nd k v, ?_, ?_⟩ s'.putObj) q, rfl, rfl⟩
    · simp only [execOp, kn.eval hx, kn.eval hy, kn.eval hv, Instr.mapUpdate, Sem.run_bind, run_underlying' hu, Result.andThen_ok, getObj, Sem.run, hh, Sem.run_pure, ok.check false 9999 k w, hf, setObj_map hh]
    · rw [mset_new v hp]; simp [hm.kv]
    · intro e he; simp at he
      rcases he with he | he
      · have := hm.born e (by simpa using he); omega
      · subst he; simp
    · simp only [Array.toList_push, List.map_append, List.map_cons, List.map_nil]
      refine List.nodup_append.2 ⟨hm.bnd, by simp, fun a ha b hb e => ?_⟩
      simp at hb; subst hb; subst e
      obtain ⟨e', he', hb⟩ := List.mem_map.1 ha
      have := hm.born e' he'
      omega
  | some jv =>
    obtain ⟨j, u⟩ := jv
    obtain ⟨p1, p2, ⟨e', p4, p5, p6⟩, p7, p8⟩ := hp
    refine ⟨{ w with heap := w.heap.setIfInBounds r (.map (es.modify j fun e => { e with key := enc k, val := v }) clock) }, H', ?_, Sat.unrm (sat_of_mapP ⟨p7 v, mset_nodup hm.nd k v, ?_, ?_⟩ s'.putObj) q, rfl, rfl⟩
    · have hk : (((es[j]?).map (·.key)).getD (enc k)) = enc k := by rw [p4]; simp [p5]
      simp only [execOp, kn.eval hx, kn.eval hy, kn.eval hv, Instr.mapUpdate, Sem.run_bind, run_underlying' hu, Result.andThen_ok, getObj, Sem.run, hh, Sem.run_pure, ok.check false 9999 k w, hf, hk, Instr.keyThatStays, ok.bits k, if_true, setObj_map hh]
    · intro e he
      have : e.born ∈ (es.modify j fun e => { e with key := enc k, val := v }).toList.map (·.born) := List.mem_map.2 ⟨e, he, rfl⟩
      have hb := born_modify (es := es) (j := j) (f := fun e => { e with key := enc k, val := v }) (fun _ => rfl)
      rw [hb] at this
      obtain ⟨e2, he2, hb2⟩ := List.mem_map.1 this
      rw [← hb2]; exact hm.born e2 he2
    · have hb := born_modify (es := es) (j := j) (f := fun e => { e with key := enc k, val := v }) (fun _ => rfl)
      rw [hb]; exact hm.bnd
theorem EX.delete {d : Option Tmp} {t kt et : TypeId} {ats : Array TypeId} [ok : KeyOk enc C.P kt] {x y : Operand} {r : Nat} {k : K} {m : List (K × Value)} {H' : List HP} (hsw : Sw H (MapP enc r m) (MapP enc r (mdel m k)) H') (hu : C.P.underlying t = some (.map kt et)) (hats : ats[0]? = some t) (hx : ev L x = some (.map (some r))) (hy : ev L y = some (enc k)) (hd : dOk d C.n = true := by rfl) :
    EX C ⟨d, .call { callee := .builtin .delete, args := #[x, y], argTypes := ats }, ty, pos, af, g⟩ L H (Out1 (pl d (.tuple #[]) L) H') := by
  refine EX.of_valueO hd fun a w kn s => ?_
  obtain ⟨M, rm, q⟩ := hsw.rm
  obtain ⟨es, clock, hm, s'⟩ := mapP_of_sat (s.rm rm)
  have hh := s'.heap
  obtain ⟨f, hf, hp⟩ := run_findKey' (P := C.P) (kt := kt) k hm w
  cases f with
  | none =>
    refine ⟨_, { w with heap := w.heap.setIfInBounds r (.map es clock) }, H', ?_, Sat.unrm (sat_of_mapP ⟨?_, mdel_nodup hm.nd k, hm.born, hm.bnd⟩ s'.putObj) q, rfl, rfl⟩
    · simp only [execOp, resolve, invoke, builtin, List.map_toArray, List.map_cons, List.map_nil, kn.eval hx, kn.eval hy, Builtin.delete_, Sem.run_bind, Sem.run_pure, Result.andThen_ok, hats, show (#[Value.map (some r), enc k] : Array Value)[0]? = some (Value.map (some r)) from rfl, show (#[Value.map (some r), enc k] : Array Value)[1]? = some (enc k) from rfl, run_underlying' hu, getObj, Sem.run, hh, ok.check es.isEmpty 9999 k w, hf, setObj_map hh]
    · rw [mdel_none hp]; exact hm.kv
  | some jv =>
    obtain ⟨j, u⟩ := jv
    obtain ⟨p1, p2, ⟨e', p4, p5, p6⟩, p7, p8⟩ := hp
    refine ⟨_, { w with heap := w.heap.setIfInBounds r (.map (es.eraseIdxIfInBounds j) clock) }, H', ?_, Sat.unrm (sat_of_mapP ⟨p8, mdel_nodup hm.nd k, ?_, ?_⟩ s'.putObj) q, rfl, rfl⟩
    · simp only [execOp, resolve, invoke, builtin, List.map_toArray, List.map_cons, List.map_nil, kn.eval hx, kn.eval hy, Builtin.delete_, Sem.run_bind, Sem.run_pure, Result.andThen_ok, hats, show (#[Value.map (some r), enc k] : Array Value)[0]? = some (Value.map (some r)) from rfl, show (#[Value.map (some r), enc k] : Array Value)[1]? = some (enc k) from rfl, run_underlying' hu, getObj, Sem.run, hh, ok.check es.isEmpty 9999 k w, hf, setObj_map hh]
    · intro e he
      have : es.eraseIdxIfInBounds j = ⟨es.toList.eraseIdx j⟩ := by apply Array.ext'; simp
      rw [this] at he
      exact hm.born e (List.mem_of_mem_eraseIdx he)
    · have : es.eraseIdxIfInBounds j = ⟨es.toList.eraseIdx j⟩ := by apply Array.ext'; simp
      rw [this]
      exact ((List.eraseIdx_sublist _ _).map _).nodup hm.bnd
end
end Go.SL
