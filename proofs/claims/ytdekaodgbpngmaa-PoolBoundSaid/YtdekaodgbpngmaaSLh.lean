/- Own layer: slices that a part of the heap owns: append, literals, reading. -/
import Derived.Test.YtdekaodgbpngmaaSLg
import Derived.Laws.Append
import Derived.Laws.AppendOwn
namespace Go.SL
open Go Go.RowKit

/-- The slice value 'v' of n elements of z cells each owns the block that it lies in, and reads as the cells 'cs'. -/
def SlP (z : Nat) (v : Value) (cs : List Value) (n : Nat) : HP := fun h =>
  (v = .slice none 0 0 ∧ cs = [] ∧ n = 0) ∨
  ∃ b cap pre sp T fr, v = .slice (some ⟨b, pre.length, none⟩) n cap ∧ h b = some (.cells ⟨pre ++ cs ++ sp⟩ T fr) ∧ cs.length = n * z ∧ cap * z = cs.length + sp.length ∧ n ≤ cap ∧ cap ≤ maxLen ∧ (fr.2 ≤ pre.length ∨ pre.length + cs.length + sp.length ≤ fr.1)
theorem SlP.nil {z : Nat} {h : PH} : SlP z (.slice none 0 0) [] 0 h := .inl ⟨rfl, rfl, rfl⟩

/-- The slice value 'x' of m elements reads as the cells 'cs', wherever these lie. -/
def Rd (β : Base) (H : List HP) (x : Value) (m z : Nat) (cs : List Value) : Prop :=
  cs.length = m * z ∧ ((∃ c, x = .slice none m c ∧ m = 0) ∨ ∃ b off c, x = .slice (some ⟨b, off, none⟩) m c ∧ ∀ w, Sat β H w → ∀ j v, cs[j]? = some v → w.cell? ⟨b, off + j, none⟩ = some v)

/-- What append asks of the element's type. -/
structure EI (P : Program) (t e z by_ : Nat) : Prop where
  hu : P.underlying t = some (.slice e)
  hi : ∃ i zv, P.info? e = some i ∧ i.size = z ∧ i.bytes = by_ ∧ i.zero = some zv ∧ zv.cells.size = z
theorem EI.mk' {P : Program} {t e z by_ : Nat} (hu : P.underlying t = some (.slice e)) (h : (P.info? e).map (fun i => (i.size, i.bytes, i.zero.map (·.cells.size))) = some (z, by_, some z)) : EI P t e z by_ := by
  refine ⟨hu, ?_⟩
  cases hi : P.info? e with
  | none => rw [hi] at h; cases h
  | some i =>
    rw [hi] at h
    simp at h
    obtain ⟨h1, h2, zv, h3, h4⟩ := h
    exact ⟨i, zv, rfl, h1, h2, h3, h4⟩

theorem cells_of_rd {P : Program} {size m : Nat} {w : World} {b off c : Nat} {cs : List Value} (hl : cs.length = m * size) (h : ∀ j v, cs[j]? = some v → w.cell? ⟨b, off + j, none⟩ = some v) : (Builtin.firstCells size m (.slice (some ⟨b, off, none⟩) m c)).run P w = .ok ⟨cs⟩ w := by
  have := run_firstCells_some (P := P) w size m ⟨b, off, none⟩ m c cs hl (fun j v hj => by rw [addr_add]; exact h j v hj)
  rw [this]
theorem gt_mid {pre cs sp : List Value} {j : Nat} {v : Value} (h : cs[j]? = some v) : (pre ++ cs ++ sp)[pre.length + j]? = some v := by
  have hj : j < cs.length := (List.getElem?_eq_some_iff.1 h).1
  rw [List.append_assoc, List.getElem?_append_right (by omega), Nat.add_sub_cancel_left, List.getElem?_append_left hj]
  exact h
theorem slP_of_sat {β : Base} {F : List HP} {w : World} {z n : Nat} {v : Value} {cs : List Value} (s : Sat β (SlP z v cs n :: F) w) :
    (v = .slice none 0 0 ∧ cs = [] ∧ n = 0 ∧ Sat β F w) ∨ ∃ b cap pre sp T fr, v = .slice (some ⟨b, pre.length, none⟩) n cap ∧ cs.length = n * z ∧ cap * z = cs.length + sp.length ∧ n ≤ cap ∧ cap ≤ maxLen ∧ (fr.2 ≤ pre.length ∨ pre.length + cs.length + sp.length ≤ fr.1) ∧ Sat β (bl b T (pre ++ cs ++ sp) fr :: F) w := by
  obtain ⟨b0, e, h, d, l, h1, h2, d', l1, l2, hx, y⟩ := s
  rcases hx with ⟨a1, a2, a3⟩ | ⟨b, cap, pre, sp, T, fr, a1, a2, a3, a4, a5, a6, a7⟩
  · exact .inl ⟨a1, a2, a3, b0, e, h, d, l, stars_le y l2⟩
  · exact .inr ⟨b, cap, pre, sp, T, fr, a1, a3, a4, a5, a6, a7, b0, e, h, d, l, h1, h2, d', l1, l2, a2, y⟩
theorem sat_of_bl {β : Base} {F : List HP} {w : World} {z n b cap : Nat} {T : TypeId} {fr : Nat × Nat} {cs pre sp : List Value} (h1 : cs.length = n * z) (h2 : cap * z = cs.length + sp.length) (h3 : n ≤ cap) (h4 : cap ≤ maxLen) (h5 : fr.2 ≤ pre.length ∨ pre.length + cs.length + sp.length ≤ fr.1)
    (s : Sat β (bl b T (pre ++ cs ++ sp) fr :: F) w) : Sat β (SlP z (.slice (some ⟨b, pre.length, none⟩) n cap) cs n :: F) w :=
  s.head fun _ hx => .inr ⟨b, cap, pre, sp, T, fr, rfl, hx, h1, h2, h3, h4, h5⟩

theorem sts_append (pre : List Value) : ∀ (vs mid sp : List Value), mid.length = vs.length → Sts (pre ++ mid ++ sp) pre.length vs (pre ++ vs ++ sp) := by
  intro vs
  induction vs generalizing pre with
  | nil => intro mid sp h; have : mid = [] := by simpa using h
           subst this; exact .n
  | cons v vs ih =>
    intro mid sp h
    cases mid with
    | nil => simp at h
    | cons m mid =>
      have h1 : St (pre ++ (m :: mid) ++ sp) pre.length v (pre ++ (v :: mid) ++ sp) := by
        have := St.mk (l := pre ++ (m :: mid) ++ sp) (k := pre.length) (v := v) (by simp)
        rwa [show (pre ++ (m :: mid) ++ sp).set pre.length v = pre ++ (v :: mid) ++ sp by simp] at this
      refine .c h1 ?_
      have := ih (pre ++ [v]) mid sp (by simpa using h)
      simpa using this

section
variable {C : Cx} {L : Env} {ty : TypeId} {pos : String} {af : Array Edge} {g : Option (Nat × Bool)} {H : List HP}

theorem Rd.of_bl {β : Base} {b off m z c i : Nat} {T : TypeId} {l cs : List Value} {fr : Nat × Nat} (hi : nth H i = some (bl b T l fr)) (hl : cs.length = m * z) (hc : ∀ j v, cs[j]? = some v → l[off + j]? = some v) : Rd β H (.slice (some ⟨b, off, none⟩) m c) m z cs :=
  ⟨hl, .inr ⟨b, off, c, rfl, fun w s j v hj => cell_of_sat (s.mid hi) (by rw [gt_eq]; exact hc j v hj)⟩⟩
theorem Rd.whole {β : Base} {b m z c i : Nat} {T : TypeId} {l : List Value} {fr : Nat × Nat} (hi : nth H i = some (bl b T l fr)) (hl : l.length = m * z) : Rd β H (.slice (some ⟨b, 0, none⟩) m c) m z l :=
  Rd.of_bl hi hl (fun j v h => by simpa using h)
theorem rd_of_slP {β : Base} {z n i : Nat} {v : Value} {cs : List Value} (hi : nth H i = some (SlP z v cs n)) (w0 : World) (s0 : Sat β H w0) : ∀ w, Sat β H w → (v = .slice none 0 0 ∧ cs = [] ∧ n = 0) ∨ ∃ b off c, v = .slice (some ⟨b, off, none⟩) n c ∧ cs.length = n * z ∧ ∀ j u, cs[j]? = some u → w.cell? ⟨b, off + j, none⟩ = some u := by
  intro w s
  have _ := s0
  rcases slP_of_sat (s.mid hi) with ⟨a1, a2, a3, _⟩ | ⟨b, cap, pre, sp, T, fr, a1, a2, a3, a4, a5, a6, s'⟩
  · exact .inl ⟨a1, a2, a3⟩
  · exact .inr ⟨b, pre.length, cap, a1, a2, fun j u hj => cell_of_sat s' (by rw [gt_eq]; exact gt_mid hj)⟩

theorem EX.append {d : Nat} {t e z by_ : Nat} {x y : Operand} {v u : Value} {cs new : List Value} {n m : Nat} {K : List HP} (ei : EI C.P t e z by_) (hrm : Rm H (SlP z v cs n) K) (hx : ev L x = some v) (hy : ev L y = some u) (hr : Rd C.β H u m z new) (ho : ∀ v ∈ new, one v = true) (hb : (n + m) * by_ ≤ 140737488355328) (hn : n + m ≤ 4611686018427387904) (hd : Nat.blt d C.n = true := by rfl) :
    EX C ⟨some d, .call { callee := .builtin .append, args := #[x, y], argTypes := #[t, t] }, ty, pos, af, g⟩ L H (fun L' H' => ∃ (q : Option Addr) (c : Nat), L' = (d, .slice q (n + m) c) :: L ∧ H' = SlP z (.slice q (n + m) c) (cs ++ new) (n + m) :: K) := by
  refine EX.of_value hd fun a w k s => ?_
  obtain ⟨hu, i, zv, hi, hz, hby, hzv, hzs⟩ := ei
  have hml : n + m ≤ maxLen := by unfold maxLen; omega
  have hexec : ∀ r w', (Builtin.append_ #[t, t] ty #[v, u]).run C.P w = .ok r w' → (execOp a.eval ⟨some d, .call { callee := .builtin .append, args := #[x, y], argTypes := #[t, t] }, ty, pos, af, g⟩).run C.P w = .ok (.value r) w' := fun r w' h => by
    simp [execOp, resolve, invoke, builtin, k.eval hx, k.eval hy, h]
  obtain ⟨hrl, hr⟩ := hr
  rcases slP_of_sat (s.rm hrm) with ⟨rfl, rfl, rfl, s'⟩ | ⟨b, cap, pre, sp, T, fr, rfl, hl, hc, hnc, hcm, hfr, s'⟩
  · -- nothing yet
    rcases hr with ⟨c, rfl, rfl⟩ | ⟨b, off, c, rfl, hr⟩
    · refine ⟨.slice none 0 0, w, _, hexec _ _ ?_, Sat.head_unpur trivial s' |>.head fun h _ => ?_, _, _, rfl, rfl⟩
      · simp [Builtin.append_, run_underlying' hu, sizeOf, typeInfo, hi, Builtin.lenOf, Builtin.firstCells]
      · exact .inl ⟨rfl, by simpa using hrl, rfl⟩
    · have hcells := hr w s
      by_cases h0 : m = 0
      · subst h0
        refine ⟨.slice none 0 0, w, _, hexec _ _ ?_, Sat.head_unpur trivial s' |>.head fun h _ => ?_, _, _, rfl, rfl⟩
        · have hf := cells_of_rd (P := C.P) (c := c) hrl hcells
          have hne : new = [] := by simpa using hrl
          subst hne
          simp [Builtin.append_, run_underlying' hu, sizeOf, typeInfo, hi, Builtin.lenOf, Builtin.firstCells, loadCells, loadCellsFrom]
        · exact .inl ⟨rfl, by simpa using hrl, rfl⟩
      · have hrun := run_append_nil (P := C.P) w t ty e i zv hu hi hzv ⟨b, off, none⟩ m c new (by rw [hz]; exact hrl) (fun j v hj => by rw [addr_add]; exact hcells j v hj) (by omega) (by omega) (by rw [hby]; simp at hb; omega)
        refine ⟨.slice (some ⟨w.heap.size, 0, none⟩) (0 + m) (grownCap w m 0 e), _, _, hexec _ _ (by rw [Nat.zero_add]; exact hrun), ?_, _, _, rfl, rfl⟩
        have hg := grownCap_ge w m 0 e
        have hgm := grownCap_le_maxLen w m 0 e (by simpa using hml)
        have s2 : Sat C.β K w.drew := s'.same rfl ⟨rfl, rfl, rfl⟩
        have s3 := s2.alloc (w' := w.drew.alloc (.cells (new.toArray ++ Builtin.zeroCells zv.cells (grownCap w m 0 e - m)) e)) (o := .cells (new.toArray ++ Builtin.zeroCells zv.cells (grownCap w m 0 e - m)) e) rfl ⟨rfl, rfl, rfl⟩
        have he : (new.toArray ++ Builtin.zeroCells zv.cells (grownCap w m 0 e - m)) = ⟨[] ++ new ++ (Builtin.zeroCells zv.cells (grownCap w m 0 e - m)).toList⟩ := by apply Array.ext'; simp
        rw [he] at s3 ⊢
        have := sat_of_bl (z := z) (n := m) (cap := grownCap w m 0 e) (cs := new) (pre := []) (sp := (Builtin.zeroCells zv.cells (grownCap w m 0 e - m)).toList) hrl (by
          simp [size_zeroCells, hzs, hrl, ← Nat.add_mul]; congr 1; omega) hg hgm (.inl (Nat.zero_le _)) s3
        simpa using this
  · rcases hr with ⟨c, rfl, rfl⟩ | ⟨b', off, c, rfl, hr⟩
    · refine ⟨.slice (some ⟨b, pre.length, none⟩) n cap, w, _, hexec _ _ ?_, ?_, _, _, rfl, rfl⟩
      · simp [Builtin.append_, run_underlying' hu, sizeOf, typeInfo, hi, Builtin.lenOf, Builtin.firstCells, hnc, storeCells]
      · have hne : new = [] := by simpa using hrl
        subst hne
        simpa using sat_of_bl hl hc hnc hcm hfr s'
    · have hcells := hr w s
      by_cases hroom : n + m ≤ cap
      · -- there is room
        have hsp : new.length ≤ sp.length := by
          rw [hrl]
          have h1 : (n + m) * z ≤ cap * z := Nat.mul_le_mul_right z hroom
          rw [Nat.add_mul, hc, hl] at h1; omega
        have hsplit : pre ++ cs ++ sp = (pre ++ cs) ++ sp.take new.length ++ sp.drop new.length := by simp
        obtain ⟨w', hst, s2⟩ := run_storeCells (P := C.P) (b := b) (T := T) (fr := fr) new (pre ++ cs ++ sp) (pre ++ cs ++ new ++ sp.drop new.length) (pre.length + n * z) 0 w s' (by
            have := sts_append (pre ++ cs) new (sp.take new.length) (sp.drop new.length) (by simp; omega)
            rw [hsplit, Nat.add_zero, ← hl, ← List.length_append]; exact this) ho (fun j h1 h2 => by
            rcases hfr with h | h
            · left; omega
            · right; rw [← hl] at h2; omega)
        refine ⟨.slice (some ⟨b, pre.length, none⟩) (n + m) cap, w', _, hexec _ _ ?_, ?_, _, _, rfl, rfl⟩
        · have hf := cells_of_rd (P := C.P) (c := c) hrl hcells
          simp [Builtin.append_, run_underlying' hu, sizeOf, typeInfo, hi, hz, Builtin.lenOf, hroom, hf, addr_add, hst]
        · have := sat_of_bl (z := z) (n := n + m) (cap := cap) (cs := cs ++ new) (pre := pre) (sp := sp.drop new.length) (by simp [hl, hrl, Nat.add_mul]) (by simp; omega) hroom hcm (by rcases hfr with h | h; exact .inl h; right; simp; omega) (by simpa using s2)
          exact this
      · have hfits : Builtin.nextslicecap (n + m) cap * i.bytes ≤ 281474976710656 := growslice_fits (by omega) (by rw [hby]; exact hb)
        have hrun := run_append_grow (P := C.P) w t ty e i zv hu hi hzv ⟨b, pre.length, none⟩ n cap cs (by rw [hz]; exact hl) (fun j v hj => by rw [addr_add]; exact cell_of_sat s' (by rw [gt_eq]; exact gt_mid hj)) ⟨b', off, none⟩ m c new (by rw [hz]; exact hrl) (fun j v hj => by rw [addr_add]; exact hcells j v hj) (by omega) (by omega) hfits
        refine ⟨_, _, _, hexec _ _ hrun, ?_, _, _, rfl, rfl⟩
        have hg := grownCap_ge w (n + m) cap e
        have hgm := grownCap_le_maxLen w (n + m) cap e hml
        have s2 : Sat C.β K w.drew := (s'.drop).same rfl ⟨rfl, rfl, rfl⟩
        have s3 := s2.alloc (w' := w.drew.alloc (.cells (cs.toArray ++ new.toArray ++ Builtin.zeroCells zv.cells (grownCap w (n + m) cap e - (n + m))) e)) (o := .cells (cs.toArray ++ new.toArray ++ Builtin.zeroCells zv.cells (grownCap w (n + m) cap e - (n + m))) e) rfl ⟨rfl, rfl, rfl⟩
        have he : (cs.toArray ++ new.toArray ++ Builtin.zeroCells zv.cells (grownCap w (n + m) cap e - (n + m))) = ⟨[] ++ (cs ++ new) ++ (Builtin.zeroCells zv.cells (grownCap w (n + m) cap e - (n + m))).toList⟩ := by apply Array.ext'; simp
        rw [he] at s3 ⊢
        have := sat_of_bl (z := z) (n := n + m) (cap := grownCap w (n + m) cap e) (cs := cs ++ new) (pre := []) (sp := (Builtin.zeroCells zv.cells (grownCap w (n + m) cap e - (n + m))).toList) (by simp [hl, hrl, Nat.add_mul]) (by
          simp only [Array.length_toList, size_zeroCells, hzs, List.length_append, hl, hrl, ← Nat.add_mul]; congr 1; omega) hg hgm (.inl (Nat.zero_le _)) s3
        simpa using this

/-! #### literals -/
def rep : Nat → List Value → List Value
  | 0, _ => []
  | n + 1, z => z ++ rep n z
theorem rep_len : ∀ (n : Nat) (z : List Value), (rep n z).length = n * z.length
  | 0, z => by simp [rep]
  | n + 1, z => by simp [rep, rep_len n z, Nat.add_mul]; omega
theorem rep_get : ∀ (n : Nat) (z : List Value) (j : Nat), j < n * z.length → (rep n z)[j]? = z[j % z.length]?
  | 0, z, j, h => by simp at h
  | n + 1, z, j, h => by
    by_cases hj : j < z.length
    · rw [rep, List.getElem?_append_left hj, Nat.mod_eq_of_lt hj]
    · have h' : j - z.length < n * z.length := by rw [Nat.add_mul] at h; omega
      have h2 : j % z.length = (j - z.length) % z.length := Nat.mod_eq_sub_mod (by omega)
      rw [rep, List.getElem?_append_right (by omega), rep_get n z (j - z.length) h', h2]
theorem rep_range (n : Nat) (z : Array Value) : (Array.range (n * z.size)).map (fun i => z[i % z.size]!) = ⟨rep n z.toList⟩ := by
  apply Array.ext'
  apply List.ext_getElem?
  intro j
  by_cases hj : j < n * z.size
  · have hz : 0 < z.size := by
      rcases Nat.eq_zero_or_pos z.size with h | h
      · rw [h] at hj; simp at hj
      · exact h
    have hm := Nat.mod_lt j hz
    rw [rep_get n z.toList j (by simpa using hj)]
    simp [hj, hm]
  · have h1 : (rep n z.toList)[j]? = none := List.getElem?_eq_none (by rw [rep_len]; simpa using hj)
    rw [h1]; simp; omega
theorem fill_place {place : Nat → Option (Nat × Nat)} {z r : List Value} {ps : List (Nat × Value)} {pl : List (Nat × Nat)} (hp : ∀ i x, pl[i]? = some x → place i = some x) (h : Fill pl z ps r) : Instr.fill place ⟨z⟩ ps = some ⟨r⟩ := by
  induction h with
  | n => rfl
  | @c z z' r vs i off size v ps h1 h2 h3 he h4 _ ih =>
    have hpl := hp i _ h1
    have hc : v.cells = ⟨vs⟩ := by rw [← h2, ← cl_eq]
    have hl := h4.len.2 (by intro e; subst e; cases he)
    simp only [Instr.fill, hpl, hc]
    rw [if_neg (by simp [h3]; omega)]
    have := foldl_sts vs z z' off 0 (by simpa using h4)
    rw [show (⟨vs⟩ : Array Value).zipIdx = ⟨vs.zipIdx 0⟩ by apply Array.ext'; simp]
    rw [List.foldl_toArray']
    · rw [this]; exact ih
    · simp
def places : Nat → Nat → Nat → List (Nat × Nat)
  | 0, _, _ => []
  | n + 1, k, z => (k * z, z) :: places n (k + 1) z
theorem places_get : ∀ (n k z i : Nat) (x : Nat × Nat), (places n k z)[i]? = some x → x = ((k + i) * z, z)
  | 0, _, _, _, _, h => by simp [places] at h
  | n + 1, k, z, 0, x, h => by simp [places] at h; simp [h]
  | n + 1, k, z, i + 1, x, h => by
    have := places_get n (k + 1) z i x (by simpa [places] using h)
    rw [this]; congr 2; omega
theorem zip_eval (a : Act) : ∀ (ps : List (Nat × Operand)), (⟨ps⟩ : Array (Nat × Operand)).map (fun (i, x) => (i, a.eval x)) = ((ps.map (·.1)).zip ((ps.map (·.2)).map a.eval)).toArray
  | [] => by simp
  | x :: l => by
    have := congrArg Array.toList (zip_eval a l)
    apply Array.ext'
    simpa using this
/-- A struct type's places. -/
inductive PL (P : Program) : List Field → List (Nat × Nat) → Prop
  | n : PL P [] []
  | c {f : Field} {fs : List Field} {z : Nat} {pl : List (Nat × Nat)} : sizeIs P f.type z → PL P fs pl → PL P (f :: fs) ((f.offset, z) :: pl)
theorem PL.run {P : Program} {fs : List Field} {pl : List (Nat × Nat)} (h : PL P fs pl) (w : World) : (fs.mapM fun (f : Field) => (do pure (f.offset, ← sizeOf f.type) : Sem (Nat × Nat))).run P w = .ok pl w := by
  induction h with
  | n => simp
  | c h1 _ ih =>
    simp only [List.mapM_cons, Sem.run_bind, h1 w, Result.andThen_ok, Sem.run_pure]
    rw [ih]
    simp
/-- A struct type as 'build' knows it. -/
structure BT (P : Program) (t : TypeId) (pl : List (Nat × Nat)) (z : List Value) : Prop where
  hz : zeroIs P t (.agg ⟨z⟩)
  hu : ∃ fs, P.underlying t = some (.struct ⟨fs⟩) ∧ PL P fs pl
theorem SIL.bld {d : Option Tmp} {c : HP} {t : TypeId} {ps : List (Nat × Operand)} {pl : List (Nat × Nat)} {z vs r : List Value} (bt : BT C.P t pl z) (hv : Evs L (ps.map (·.2)) vs) (hf : Fill pl z ((ps.map (·.1)).zip vs) r) : SIL C ⟨d, .build t ⟨ps⟩, ty, pos, af, g⟩ L c (.agg ⟨r⟩) := fun a w k _ => by
  obtain ⟨hz, fs, hu, hpl⟩ := bt
  have h2 : (⟨ps⟩ : Array (Nat × Operand)).map (fun (i, x) => (i, a.eval x)) = ((ps.map (·.1)).zip vs).toArray := by
    have h1 := map_eval k _ _ hv.map
    rw [← h1]
    exact zip_eval a ps
  have h3 := fill_of hf
  have h4 := hpl.run w
  simp only [execOp, h2, Instr.build, Sem.run_bind, hz w, Result.andThen_ok, run_underlying' hu]
  rw [Array.mapM_eq_mapM_toList]
  simp only [Sem.run_map, h4, Result.andThen_ok, Value.cells, h3]
  simp
theorem EX.buildSlice {d t e z len : Nat} {ps : List (Nat × Operand)} {vs l zs : List Value} (hu : C.P.underlying t = some (.slice e)) (hsz : sizeIs C.P e z) (hz : zeroIs C.P e (.agg ⟨zs⟩) ∨ ∃ u, zeroIs C.P e u ∧ cl u = zs) (hzl : zs.length = z) (hlen : Nat.ble (len * z) 16777216 = true) (hpos : Nat.blt 0 (len * z) = true) (hv : Evs L (ps.map (·.2)) vs) (hf : Fill (places len 0 z) (rep len zs) ((ps.map (·.1)).zip vs) l) (hd : Nat.blt d C.n = true := by rfl) :
    EX C ⟨some d, .buildSlice t len ⟨ps⟩, ty, pos, af, g⟩ L H (fun L' H' => ∃ b, L' = (d, .slice (some ⟨b, 0, none⟩) len len) :: L ∧ H' = bl b e l :: H) := by
  refine EX.of_value hd fun a w k s => ?_
  obtain ⟨u, hzu, hcu⟩ : ∃ u, zeroIs C.P e u ∧ cl u = zs := by
    rcases hz with h | h
    · exact ⟨_, h, by simp [cl]⟩
    · exact h
  have hc : u.cells = ⟨zs⟩ := by rw [← hcu, ← cl_eq]
  have hlen' : len * z ≤ 16777216 := by simpa using hlen
  have hpos' : 0 < len * z := by simpa [Nat.blt_eq] using hpos
  have h2 : (⟨ps⟩ : Array (Nat × Operand)).map (fun (i, x) => (i, a.eval x)) = ((ps.map (·.1)).zip vs).toArray := by
    have h1 := map_eval k _ _ hv.map
    rw [← h1]
    exact zip_eval a ps
  have hfill := fill_place (place := fun i => some (i * z, z)) (fun i x h => by have := places_get len 0 z i x h; simp [this]) hf
  have hrr := rep_range len ⟨zs⟩
  simp only [List.size_toArray] at hrr
  refine ⟨_, { w with heap := w.heap.push (.cells ⟨l⟩ e) }, _, ?_, s.alloc rfl ⟨rfl, rfl, rfl⟩, w.heap.size, rfl, rfl⟩
  have hne : ¬ len * z = 0 := by omega
  have hrr' : (Array.range (len * z)).map (fun i => (⟨zs⟩ : Array Value)[i % (⟨zs⟩ : Array Value).size]!) = ⟨rep len zs⟩ := by
    rw [← hzl]; exact hrr
  simp only [execOp, h2, Instr.buildSlice, Sem.run_bind, run_underlying' hu, Result.andThen_ok, hsz w, Sem.run_ite, hne, if_false, hzu w, Sem.run_pure, hc, hrr', hfill, newRow, run_newObj]
  have : ¬ len * z > 2 ^ 24 := by omega
  simp [this]
end
end Go.SL
