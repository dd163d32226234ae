/- Functions of package slices over []int. -/
import Derived.Test.YtdekaodgbpngmaaFa
namespace Go.Proofs.Ytdekaodgbpngmaa
open Go Go.RowKit Go.SL

def idxOf {α : Type} (p : α → Bool) : List α → Nat → Int
  | [], _ => -1
  | x :: xs, k => if p x then (k : Int) else idxOf p xs (k + 1)
theorem idxOf_drop {α : Type} (p : α → Bool) (xs : List α) (k : Nat) (x : α) (h : xs[k]? = some x) : idxOf p (xs.drop k) k = if p x then (k : Int) else idxOf p (xs.drop (k + 1)) (k + 1) := by
  have hk : k < xs.length := (List.getElem?_eq_some_iff.1 h).1
  rw [List.drop_eq_getElem_cons hk, idxOf]
  have : xs[k] = x := by rw [List.getElem?_eq_getElem hk] at h; simpa using h
  rw [this]

theorem spec_30 {β : Base} {q : Option Addr} {n c : Nat} (xs : List Int) {f : FuncId} {fn : Func} (cf : Callable Try.prog f fn) (cap : List Value) (R : List HP) (p : Int → Bool) (hf : ∀ x, FSpec Try.prog β f ⟨.int .i64 x :: cap⟩ R (Ret (.bool (p x)) R)) :
    FSpec Try.prog β 30 #[.slice q n c, .func (.func f) #[] ⟨cap⟩] (SlP 1 (.slice q n c) (xs.map ik) n :: R) (Ret (.int .i64 (idxOf p xs 0)) (SlP 1 (.slice q n c) (xs.map ik) n :: R)) := by
  refine FSpec.body (args := [_, _]) Try.func30 rfl rfl fun F => ?_
  show T _ _ _ (SlP 1 (.slice q n c) (xs.map ik) n :: (R ++ F)) _
  refine T.have (fun w s => SlP.bound s) (fun hb => ?_)
  obtain ⟨hlen, hb1, hb2⟩ := hb
  simp only [List.length_map, Nat.mul_one] at hlen
  refine T.seq ?_
  refine T.region ?_  -- region 0
  refine TL.s0 (SIL.assign rfl) ?_
  refine TL.nil ?_
  refine G.next ?_
  refine T.seq ?_
  refine T.seq ?_
  refine T.region ?_  -- region 1
  refine TL.s0 (SIL.move rfl) ?_
  refine TL.s0 (SIL.lenSlice Try.underlying54 rfl) ?_
  refine TL.s0 (SIL.move rfl) ?_
  refine TL.nil ?_
  refine G.next ?_
  refine T.block ?_
  refine T.loop (X := Nat) (fun k => [(0, .slice q n c), (1, .func (.func f) #[] ⟨cap⟩), (7, .int .i64 n), (8, .int .i64 k)]) (fun _ => SlP 1 (.slice q n c) (xs.map ik) n :: (R ++ F)) (fun k => k ≤ n ∧ idxOf p (xs.drop k) k = idxOf p xs 0) (fun k => n - k) 0 ⟨Nat.zero_le _, rfl⟩ (.c rfl (.c rfl (.c rfl (.c rfl .n)))) (fun _ s => s) (fun k hk => ?_)
  obtain ⟨hk1, hk2⟩ := hk
  refine T.seq ?_
  refine T.region ?_  -- region 2
  refine TL.s0 (SIL.lss rfl rfl) ?_
  refine TL.nil ?_
  refine G.next ?_
  refine T.seq ?_
  refine T.cond rfl (fun h => ?_) (fun h => ?_)  -- cond 1
  · simp only [decide_eq_true_eq] at h
    have hlt : k < xs.length := by omega
    obtain ⟨x, hx⟩ : ∃ x, xs[k]? = some x := ⟨xs[k], List.getElem?_eq_getElem hlt⟩
    rw [idxOf_drop p xs k x hx] at hk2
    refine T.slP (fun _ _ _ h0 => by omega) (fun b pre sp T' fr h1 h2 h3 h4 h5 h6 => ?_)
    subst h1
    refine T.skip ?_
    refine G.next ?_
    refine T.seq ?_
    refine T.block ?_
    refine T.seq ?_
    refine T.region ?_  -- region 3
    refine TL.s0 (SIL.move rfl) ?_
    refine TL.s0 (SIL.assign rfl) ?_
    refine TL.nil ?_
    refine G.next ?_
    refine T.seq ?_
    refine T.region ?_  -- region 4
    refine TL.s0 (SIL.move rfl) ?_
    refine TL.s0 (SIL.move rfl) ?_
    refine TL.s0 (SIL.move rfl) ?_
    refine TL.s0 (SIL.indexAddr Try.underlying54 sz_3 rfl rfl rfl (by omega)) ?_
    refine TL.s1 0 rfl (SIL.load (v := ik x) Try.underlying3 rfl (gt_sl (j := k) (by simp [hx]) (by simp))) ?_
    refine TL.e1 (EX.fv1 cf rfl (.c rfl .n) (hf x) (Pk.t (Pk.pre R F))) ?_
    refine TL.nil ?_
    refine G.next ?_
    have hback : ∀ w, Sat β (R ++ bl b T' (pre ++ xs.map ik ++ sp) fr :: F) w → Sat β (SlP 1 (.slice (some ⟨b, pre.length, none⟩) n c) (xs.map ik) n :: (R ++ F)) w := fun w s => sat_of_bl h2 h3 h4 h5 h6 (s.rm (Rm.app R))
    refine T.cond rfl (fun h => ?_) (fun h => ?_)  -- cond 2
    · rw [if_pos h] at hk2
      refine T.conv hback ?_
      refine T.seq ?_
      refine T.region ?_  -- region 5
      refine TL.s0 (SIL.move rfl) ?_
      refine TL.s0 (SIL.assign rfl) ?_
      refine TL.nil ?_
      refine G.next ?_
      refine T.ret ?_
      refine G.retBlock ?_
      refine G.retThen ?_
      refine G.retThen ?_
      refine G.retBlock ?_
      refine G.retThen ?_
      exact G.ret rfl (.c (resV.tmp rfl) .n) ⟨by rw [← hk2]; rfl, rfl⟩ (.c .h (Pk.pre R F)) .z
    · rw [if_neg (by simp [h])] at hk2
      refine T.skip ?_
      refine G.inBlock ?_
      refine G.next ?_
      refine T.region ?_  -- region 6
      refine TL.s0 (SIL.add rfl rfl (by unfold I64; omega)) ?_
      refine TL.s0 (SIL.move rfl) ?_
      refine TL.nil ?_
      exact G.then (G.again (k + 1) ⟨by omega, hk2⟩ (by omega) (.c rfl (.c rfl (.c rfl (.c rfl .n)))) hback)
  · simp only [decide_eq_false_iff_not] at h
    have hkn : k = n := by omega
    refine T.exit ?_
    refine G.exitThen ?_
    refine G.exitThen ?_
    refine G.exitHere ?_
    refine G.next ?_
    refine T.seq ?_
    refine T.region ?_  -- region 7
    refine TL.s0 (SIL.assign rfl) ?_
    refine TL.nil ?_
    refine G.next ?_
    refine T.ret ?_
    refine G.ret rfl (.c (resV.tmp rfl) .n) ⟨?_, rfl⟩ (.c .h (Pk.pre R F)) .z
    rw [← hk2, hkn, ← hlen, List.drop_length]; rfl

theorem idxOf_spec {α : Type} (p : α → Bool) : ∀ (xs : List α) (k : Nat), (idxOf p xs k = -1 ∧ xs.filter (fun x => !p x) = xs) ∨ ∃ i x, idxOf p xs k = ((k + i : Nat) : Int) ∧ xs[i]? = some x ∧ p x = true ∧ (xs.take i).filter (fun x => !p x) = xs.take i
  | [], k => .inl ⟨rfl, rfl⟩
  | x :: xs, k => by
    simp only [idxOf]
    by_cases h : p x = true
    · right; exact ⟨0, x, by simp [h], by simp, h, by simp⟩
    · rw [if_neg h]
      simp only [Bool.not_eq_true] at h
      rcases idxOf_spec p xs (k + 1) with ⟨h1, h2⟩ | ⟨i, y, h1, h2, h3, h4⟩
      · left; refine ⟨h1, ?_⟩; rw [List.filter_cons, if_pos (by simp [h]), h2]
      · right
        refine ⟨i + 1, y, by rw [h1]; congr 1; omega, by simpa using h2, h3, ?_⟩
        rw [List.take_succ_cons, List.filter_cons, if_pos (by simp [h]), h4]
def kept {α : Type} (p : α → Bool) (xs : List α) (j : Nat) : List α := (xs.take j).filter fun x => !p x
theorem kept_succ {α : Type} (p : α → Bool) {xs : List α} {j : Nat} {x : α} (h : xs[j]? = some x) : kept p xs (j + 1) = if p x then kept p xs j else kept p xs j ++ [x] := by
  unfold kept
  rw [List.take_add_one, h]
  simp only [Option.toList_some, List.filter_append]
  cases hp : p x <;> simp [hp]

theorem spec_27 {β : Base} {q : Option Addr} {n c : Nat} (xs : List Int) {f : FuncId} {fn : Func} (cf : Callable Try.prog f fn) (cap : List Value) (R : List HP) (p : Int → Bool) (hf : ∀ x, FSpec Try.prog β f ⟨.int .i64 x :: cap⟩ R (Ret (.bool (p x)) R)) :
    FSpec Try.prog β 27 #[.slice q n c, .func (.func f) #[] ⟨cap⟩] (SlP 1 (.slice q n c) (xs.map ik) n :: R) (Ret (.slice q (xs.filter fun x => !p x).length c) (SlP 1 (.slice q (xs.filter fun x => !p x).length c) ((xs.filter fun x => !p x).map ik) (xs.filter fun x => !p x).length :: R)) := by
  refine FSpec.body (args := [_, _]) Try.func27 rfl rfl fun F => ?_
  show T _ _ _ (SlP 1 (.slice q n c) (xs.map ik) n :: (R ++ F)) _
  refine T.have (fun w s => SlP.bound s) (fun hb => ?_)
  obtain ⟨hlen, hb1, hb2⟩ := hb
  simp only [List.length_map, Nat.mul_one] at hlen
  subst hlen
  refine T.seq ?_
  refine T.region ?_  -- region 0
  refine TL.s0 (SIL.assign rfl) ?_
  refine TL.nil ?_
  refine G.next ?_
  refine T.seq ?_
  refine T.region ?_  -- region 1
  refine TL.s0 (SIL.move rfl) ?_
  refine TL.s0 (SIL.move rfl) ?_
  refine TL.e1 (EX.fn1 cf_30 (.c rfl (.c rfl .n)) (spec_30 xs cf cap R p hf) (.c .h (Pk.pre R F))) ?_
  refine TL.s0 (SIL.assign rfl) ?_
  refine TL.nil ?_
  refine G.next ?_
  refine T.seq ?_
  refine T.seq ?_
  refine T.region ?_  -- region 2
  refine TL.s0 (SIL.move rfl) ?_
  refine TL.s0 (SIL.eql rfl rfl) ?_
  refine TL.nil ?_
  refine G.next ?_
  have hspec := idxOf_spec p xs 0
  refine T.cond rfl (fun h => ?_) (fun h => ?_)  -- cond 1
  · simp only [decide_eq_true_eq] at h
    have hfil : (xs.filter fun x => !p x) = xs := by
      rcases hspec with ⟨_, h2⟩ | ⟨i, x, h1, _⟩
      · exact h2
      · rw [h1] at h; omega
    rw [hfil]
    refine T.seq ?_
    refine T.region ?_  -- region 3
    refine TL.s0 (SIL.move rfl) ?_
    refine TL.s0 (SIL.assign rfl) ?_
    refine TL.nil ?_
    refine G.next ?_
    refine T.ret ?_
    refine G.retThen ?_
    exact G.ret rfl (.c (resV.tmp rfl) .n) ⟨rfl, rfl⟩ (.c .h (Pk.pre R F)) .z
  · simp only [decide_eq_false_iff_not] at h
    obtain ⟨i0, x0, h1, hx0, hp0, hk0⟩ := hspec.resolve_left (fun hh => h hh.1)
    have hi0 : i0 < xs.length := (List.getElem?_eq_some_iff.1 hx0).1
    rw [h1]
    simp only [Nat.zero_add]
    have hkept0 : kept p xs (i0 + 1) = xs.take i0 := by rw [kept_succ p hx0, if_pos hp0]; exact hk0
    have hl0 : (kept p xs (i0 + 1)).length = i0 := by rw [hkept0, List.length_take]; omega
    show T _ _ _ (SlP 1 (.slice q xs.length c) (xs.map ik) xs.length :: (R ++ F)) _
    refine T.slP (fun _ _ _ h0 => by omega) (fun b pre sp T' fr h1 h2 h3 h4 h5 h6 => ?_)
    subst h1
    simp only [List.length_map, Nat.mul_one] at h3 h6
    refine T.skip ?_
    refine G.next ?_
    refine T.seq ?_
    refine T.seq ?_
    refine T.region ?_  -- region 4
    refine TL.s0 (SIL.move rfl) ?_
    refine TL.s0 (SIL.add rfl rfl (by unfold I64; omega)) ?_
    refine TL.s0 (SIL.assign rfl) ?_
    refine TL.nil ?_
    refine G.next ?_
    refine T.block ?_
    -- LIVE 0:s 1:del 5*:i 6*:j
    refine T.loop (X := Nat × List Value) (fun x => [(0, .slice (some ⟨b, pre.length, none⟩) xs.length c), (1, .func (.func f) #[] ⟨cap⟩), (5, .int .i64 ((kept p xs x.1).length : Nat)), (6, .int .i64 (x.1 : Nat))]) (fun x => bl b T' (pre ++ ((kept p xs x.1).map ik ++ x.2 ++ (xs.drop x.1).map ik) ++ sp) fr :: (R ++ F)) (fun x => x.1 ≤ xs.length ∧ (kept p xs x.1).length + x.2.length = x.1 ∧ 0 < x.2.length) (fun x => xs.length - x.1) (i0 + 1, [ik x0]) ⟨by simp; omega, by simp [hl0], by simp⟩ (.c rfl (.c rfl (.c (by rw [hl0]; rfl) (.c rfl .n)))) (fun w s => ?_) (fun x hx => ?_)
    · have : pre ++ xs.map ik ++ sp = pre ++ ((kept p xs (i0 + 1)).map ik ++ [ik x0] ++ (xs.drop (i0 + 1)).map ik) ++ sp := by
        rw [hkept0]
        have e1 : xs.map ik = (xs.take i0).map ik ++ (xs.drop i0).map ik := by rw [← List.map_append, List.take_append_drop]
        have e2 : xs.drop i0 = x0 :: xs.drop (i0 + 1) := by
          rw [List.drop_eq_getElem_cons hi0]
          congr 1
          rw [List.getElem?_eq_getElem hi0] at hx0; simpa using hx0
        rw [e1, e2]; simp
      rw [this] at s; exact s
    obtain ⟨j, mid⟩ := x
    obtain ⟨hj, hmid, hpos⟩ := hx
    dsimp only at hj hmid hpos ⊢
    refine T.seq ?_
    refine T.seq ?_
    refine T.region ?_  -- region 5
    refine TL.s0 (SIL.move rfl) ?_
    refine TL.s0 (SIL.move rfl) ?_
    refine TL.s0 (SIL.lenSlice Try.underlying54 rfl) ?_
    refine TL.s0 (SIL.lss rfl rfl) ?_
    refine TL.nil ?_
    refine G.next ?_
    refine T.cond rfl (fun h => ?_) (fun h => ?_)  -- cond 2
    · simp only [decide_eq_true_eq] at h
      have hjl : j < xs.length := by omega
      obtain ⟨x, hx⟩ : ∃ x, xs[j]? = some x := ⟨xs[j], List.getElem?_eq_getElem hjl⟩
      have hdrop : xs.drop j = x :: xs.drop (j + 1) := by
        rw [List.drop_eq_getElem_cons hjl]
        congr 1
        rw [List.getElem?_eq_getElem hjl] at hx; simpa using hx
      have hks := kept_succ p hx
      have hcell : (pre ++ ((kept p xs j).map ik ++ mid ++ (xs.drop j).map ik) ++ sp)[pre.length + j]? = some (ik x) := by
        refine gt_mid ?_
        rw [hdrop, List.getElem?_append_right (by simp; omega)]
        simp [hmid]
      refine T.skip ?_
      refine G.next ?_
      refine T.seq ?_
      refine T.block ?_
      refine T.seq ?_
      refine T.region ?_  -- region 7
      refine TL.s0 (SIL.move rfl) ?_
      refine TL.s0 (SIL.move rfl) ?_
      refine TL.s0 (SIL.indexAddr Try.underlying54 sz_3 rfl rfl rfl (by omega)) ?_
      refine TL.s1 0 rfl (SIL.load (v := ik x) Try.underlying3 rfl (gt_of (by rw [Nat.mul_one]; exact hcell))) ?_
      refine TL.s0 (SIL.assign rfl) ?_
      refine TL.nil ?_
      refine G.next ?_
      refine T.seq ?_
      refine T.region ?_  -- region 8
      refine TL.s0 (SIL.move rfl) ?_
      refine TL.s0 (SIL.move rfl) ?_
      refine TL.e1 (EX.fv1 cf rfl (.c rfl .n) (hf x) (Pk.t (Pk.pre R F))) ?_
      refine TL.s0 (SIL.not rfl) ?_
      refine TL.nil ?_
      refine G.next ?_
      refine T.sb (K := bl b T' (pre ++ ((kept p xs j).map ik ++ mid ++ (xs.drop j).map ik) ++ sp) fr :: (R ++ F)) (.c (Rm.app R) (.z .z)) ?_
      refine T.cond rfl (fun h => ?_) (fun h => ?_)  -- cond 3
      · simp only [Bool.not_eq_true'] at h
        rw [h] at hks
        simp only [Bool.false_eq_true, if_false] at hks
        obtain ⟨m0, ms, rfl⟩ : ∃ m0 ms, mid = m0 :: ms := by cases mid with
          | nil => simp at hpos
          | cons a b => exact ⟨a, b, rfl⟩
        have hst : St (pre ++ ((kept p xs j).map ik ++ (m0 :: ms) ++ (xs.drop j).map ik) ++ sp) (pre.length + (kept p xs j).length * 1) (ik x) (pre ++ ((kept p xs (j + 1)).map ik ++ (ms ++ [ik x]) ++ (xs.drop (j + 1)).map ik) ++ sp) := by
          have := St.mk (l := pre ++ ((kept p xs j).map ik ++ (m0 :: ms) ++ (xs.drop j).map ik) ++ sp) (k := pre.length + (kept p xs j).length * 1) (v := ik x) (by simp)
          have e : (pre ++ ((kept p xs j).map ik ++ (m0 :: ms) ++ (xs.drop j).map ik) ++ sp).set (pre.length + (kept p xs j).length * 1) (ik x) = pre ++ ((kept p xs (j + 1)).map ik ++ (ms ++ [ik x]) ++ (xs.drop (j + 1)).map ik) ++ sp := by
            rw [hks, hdrop, Nat.mul_one]
            have : pre ++ ((kept p xs j).map ik ++ (m0 :: ms) ++ (x :: xs.drop (j + 1)).map ik) ++ sp = (pre ++ (kept p xs j).map ik) ++ m0 :: (ms ++ ik x :: (xs.drop (j + 1)).map ik ++ sp) := by simp
            rw [this, List.set_append_right _ _ (by simp), show pre.length + (kept p xs j).length - (pre ++ (kept p xs j).map ik).length = 0 by simp, List.set_cons_zero]
            simp
          rw [e] at this; exact this
        have hkl : (kept p xs j).length ≤ j := by omega
        refine T.seq ?_
        refine T.region ?_  -- region 9
        refine TL.s0 (SIL.move rfl) ?_
        refine TL.s0 (SIL.move rfl) ?_
        refine TL.s0 (SIL.move rfl) ?_
        refine TL.s0 (SIL.indexAddr Try.underlying54 sz_3 rfl rfl rfl (by omega)) ?_
        refine TL.e1 (EX.storeF .h rfl rfl sz_3 hst (by simp at hmid ⊢; rcases h6 with h6 | h6 <;> omega)) ?_
        refine TL.nil ?_
        refine G.next ?_
        refine T.region ?_  -- region 10
        refine TL.s0 (SIL.move rfl) ?_
        refine TL.s0 (SIL.add rfl rfl (by unfold I64; omega)) ?_
        refine TL.s0 (SIL.assign rfl) ?_
        refine TL.nil ?_
        refine G.inBlock ?_
        refine G.next ?_
        refine T.region ?_  -- region 6
        refine TL.s0 (SIL.move rfl) ?_
        refine TL.s0 (SIL.add rfl rfl (by unfold I64; omega)) ?_
        refine TL.s0 (SIL.assign rfl) ?_
        refine TL.nil ?_
        exact G.then (G.again (j + 1, ms ++ [ik x]) ⟨by simp; omega, by simp [hks] at hmid ⊢; omega, by simp⟩ (by simp; omega) (.c rfl (.c rfl (.c (by rw [hks, List.length_append]; rfl) (.c rfl .n)))) (fun _ s => s))
      · simp only [Bool.not_eq_false'] at h
        rw [h] at hks
        simp only [if_true] at hks
        refine T.skip ?_
        refine G.inBlock ?_
        refine G.next ?_
        refine T.region ?_  -- region 6
        refine TL.s0 (SIL.move rfl) ?_
        refine TL.s0 (SIL.add rfl rfl (by unfold I64; omega)) ?_
        refine TL.s0 (SIL.assign rfl) ?_
        refine TL.nil ?_
        refine G.then (G.again (j + 1, mid ++ [ik x]) ⟨by simp; omega, by simp [hks]; omega, by simp⟩ (by simp; omega) (.c rfl (.c rfl (.c (by rw [hks]; rfl) (.c rfl .n)))) (fun _ s => ?_))
        have : pre ++ ((kept p xs j).map ik ++ mid ++ (xs.drop j).map ik) ++ sp = pre ++ ((kept p xs (j + 1)).map ik ++ (mid ++ [ik x]) ++ (xs.drop (j + 1)).map ik) ++ sp := by rw [hks, hdrop]; simp
        rw [this] at s; exact s
    · simp only [decide_eq_false_iff_not] at h
      have hjn : j = xs.length := by omega
      subst hjn
      have hkf : kept p xs xs.length = xs.filter fun x => !p x := by unfold kept; rw [List.take_length]
      rw [hkf] at hmid ⊢
      have hne : ¬ c = (xs.filter fun x => !p x).length := by omega
      refine T.exit ?_
      refine G.exitThen ?_
      refine G.exitThen ?_
      refine G.exitHere ?_
      refine G.next ?_
      refine T.seq ?_
      refine T.region ?_  -- region 11
      refine TL.s0 (SIL.move rfl) ?_
      refine TL.s0 (SIL.move rfl) ?_
      refine TL.s0 (SIL.sliceL Try.underlying54 sz_3 rfl rfl rfl (by omega)) ?_
      rw [if_neg hne]
      simp only [Option.map_some, addr_add]
      have hsts : Sts (pre ++ ((xs.filter fun x => !p x).map ik ++ mid ++ (xs.drop xs.length).map ik) ++ sp) (pre.length + (xs.filter fun x => !p x).length * 1) (rep (xs.length - (xs.filter fun x => !p x).length) [ik 0]) (pre ++ (xs.filter fun x => !p x).map ik ++ (rep (xs.length - (xs.filter fun x => !p x).length) [ik 0] ++ sp)) := by
        have := sts_append (pre ++ (xs.filter fun x => !p x).map ik) (rep (xs.length - (xs.filter fun x => !p x).length) [ik 0]) mid sp (by rw [rep_len]; simp; omega)
        rw [Nat.mul_one]
        simpa using this
      refine TL.e1 (EX.clear (z := 1) (zs := [ik 0]) Try.underlying54 (.inr ⟨_, zr_3, rfl⟩) rfl .h rfl rfl hsts (by rcases h6 with h6 | h6 <;> omega)) ?_
      refine TL.nil ?_
      refine G.next ?_
      refine T.seq ?_
      refine T.region ?_  -- region 12
      refine TL.s0 (SIL.move rfl) ?_
      refine TL.s0 (SIL.move rfl) ?_
      refine TL.s0 (SIL.sliceH Try.underlying54 sz_3 rfl rfl rfl (by omega)) ?_
      refine TL.s0 (SIL.assign rfl) ?_
      refine TL.nil ?_
      refine G.next ?_
      refine T.ret ?_
      refine G.conv (fun w s => sat_of_bl (z := 1) (n := (xs.filter fun x => !p x).length) (cap := c) (by simp) (by rw [List.length_append, rep_len, List.length_map, Nat.mul_one]; simp; omega) (by omega) h5 (by rw [List.length_append, rep_len, List.length_map]; simp; rcases h6 with h6 | h6 <;> omega) s) ?_
      exact G.ret rfl (.c (resV.tmp rfl) .n) ⟨rfl, rfl⟩ (.c .h (Pk.pre R F)) .z

theorem spec_24 {β : Base} {q : Option Addr} {n c : Nat} (xs : List Int) (i j : Nat) (hij : i ≤ j) (hj : j ≤ xs.length) (hn : n = xs.length) :
    FSpec Try.prog β 24 #[.slice q n c, .int .i64 i, .int .i64 j] [SlP 1 (.slice q n c) (xs.map ik) n] (Ret (.slice q (n - (j - i)) c) [SlP 1 (.slice q (n - (j - i)) c) ((xs.take i ++ xs.drop j).map ik) (n - (j - i))]) := by
  subst hn
  refine FSpec.body (args := [_, _, _]) Try.func24 rfl rfl fun F => ?_
  show T _ _ _ (SlP 1 (.slice q xs.length c) (xs.map ik) xs.length :: F) _
  refine T.have (fun w s => SlP.bound s) (fun hb => ?_)
  obtain ⟨_, hb1, hb2⟩ := hb
  refine T.seq ?_
  refine T.region ?_  -- region 0
  refine TL.s0 (SIL.assign rfl) ?_
  refine TL.nil ?_
  refine G.next ?_
  refine T.seq ?_
  refine T.region ?_  -- region 1
  refine TL.s0 (SIL.move rfl) ?_
  refine TL.s0 (SIL.move rfl) ?_
  refine TL.s0 (SIL.move rfl) ?_
  refine TL.s0 (SIL.move rfl) ?_
  refine TL.s0 (SIL.lenSlice Try.underlying54 rfl) ?_
  refine TL.s0 (SIL.sliceLHM (lo := i) (hi := j) (mx := xs.length) Try.underlying54 sz_3 rfl rfl rfl rfl rfl rfl rfl (by omega) (by omega) (by omega)) ?_
  refine TL.nil ?_
  refine G.next ?_
  refine T.seq ?_
  refine T.seq ?_
  refine T.region ?_  -- region 2
  refine TL.s0 (SIL.move rfl) ?_
  refine TL.s0 (SIL.move rfl) ?_
  refine TL.s0 (SIL.eql rfl rfl) ?_
  refine TL.nil ?_
  refine G.next ?_
  refine T.cond rfl (fun h => ?_) (fun h => ?_)  -- cond 1
  · simp only [decide_eq_true_eq] at h
    have hij : i = j := by omega
    subst hij
    rw [List.take_append_drop, show xs.length - (i - i) = xs.length by omega]
    refine T.seq ?_
    refine T.region ?_  -- region 3
    refine TL.s0 (SIL.move rfl) ?_
    refine TL.s0 (SIL.assign rfl) ?_
    refine TL.nil ?_
    refine G.next ?_
    refine T.ret ?_
    refine G.retThen ?_
    exact G.ret rfl (.c (resV.tmp rfl) .n) ⟨rfl, rfl⟩ (.c .h .n) .z
  · simp only [decide_eq_false_iff_not] at h
    refine T.slP (fun _ _ _ h0 => by omega) (fun b pre sp T' fr h1 h2 h3 h4 h5 h6 => ?_)
    subst h1
    simp only [List.length_map, Nat.mul_one] at h3 h6
    have hk : i + (xs.length - j) = xs.length - (j - i) := by omega
    refine T.skip ?_
    refine G.next ?_
    refine T.seq ?_
    refine T.region ?_  -- region 4
    refine TL.s0 (SIL.move rfl) ?_
    refine TL.s0 (SIL.lenSlice Try.underlying54 rfl) ?_
    refine TL.s0 (SIL.assign rfl) ?_
    refine TL.nil ?_
    refine G.next ?_
    refine T.seq ?_
    refine T.draw [(0, true), (1, true), (2, true), (3, true), (4, true), (5, true), (6, false), (7, true)] (by kernel_rfl) (by kernel_rfl) ?_  -- region 5 DRAWS
    refine DL.s0 rfl (SIL.move rfl) ?_
    refine DL.s0 rfl (SIL.move rfl) ?_
    refine DL.s0 rfl (SIL.sliceH (hi := i) Try.underlying54 sz_3 rfl rfl rfl (by omega)) ?_
    refine DL.s0 rfl (SIL.move rfl) ?_
    refine DL.s0 rfl (SIL.move rfl) ?_
    refine DL.s0 rfl (SIL.sliceL (lo := j) Try.underlying54 sz_3 rfl rfl rfl (by omega)) ?_
    have hrd : Rd β (bl b T' (pre ++ xs.map ik ++ sp) fr :: F) (.slice (if c = j then some ⟨b, pre.length, none⟩ else (some (⟨b, pre.length, none⟩ : Addr)).map (·.add (j * 1))) (xs.length - j) (c - j)) (xs.length - j) 1 ((xs.drop j).map ik) := by
      by_cases hcj : c = j
      · rw [if_pos hcj]
        exact Rd.of_bl (i := 0) rfl (by simp) (fun m v hm => by rw [List.drop_of_length_le (by omega)] at hm; simp at hm)
      · rw [if_neg hcj]
        simp only [Option.map_some, addr_add]
        refine Rd.of_bl (i := 0) rfl (by simp) (fun m v hm => ?_)
        have h1 : (xs.map ik)[j + m]? = some v := by
          rw [← hm]; simp [List.getElem?_drop]
        have := gt_mid (pre := pre) (sp := sp) h1
        rw [← this]; congr 1; omega
    have hst1 : Sts (pre ++ xs.map ik ++ sp) (pre.length + i * 1) ((xs.drop j).map ik) (pre ++ ((xs.take i ++ xs.drop j).map ik ++ (xs.map ik).drop (xs.length - (j - i))) ++ sp) := by
      have := sts_append (pre ++ (xs.take i).map ik) ((xs.drop j).map ik) (((xs.map ik).drop i).take (xs.length - j)) ((xs.map ik).drop (xs.length - (j - i)) ++ sp) (by simp; omega)
      rw [show (pre ++ (xs.take i).map ik).length = pre.length + i * 1 by simp; omega] at this
      rw [← show pre ++ xs.map ik ++ sp = pre ++ (xs.take i).map ik ++ ((xs.map ik).drop i).take (xs.length - j) ++ ((xs.map ik).drop (xs.length - (j - i)) ++ sp) by
        have e : (xs.map ik).drop (xs.length - (j - i)) = ((xs.map ik).drop i).drop (xs.length - j) := by rw [List.drop_drop, hk]
        rw [e, List.append_assoc (pre ++ _), ← List.append_assoc (List.take _ _), List.take_append_drop, ← List.map_drop]
        have e2 : (xs.take i).map ik ++ (xs.drop i).map ik = xs.map ik := by rw [← List.map_append, List.take_append_drop]
        rw [← e2]; simp only [List.append_assoc]] at this
      simpa using this
    refine DL.e1 rfl (EX.appendIn ei_54 .h rfl rfl hrd (fun v hv => by obtain ⟨x, _, rfl⟩ := List.mem_map.1 hv; rfl) (by omega) hst1 (by simp; rcases h6 with h6 | h6 <;> omega)) .n ?_
    rw [hk]
    refine DL.s0 rfl (SIL.assign rfl) ?_
    refine DL.nil ?_
    refine G.next ?_
    refine T.seq ?_
    refine T.region ?_  -- region 6
    refine TL.s0 (SIL.move rfl) ?_
    refine TL.s0 (SIL.move rfl) ?_
    refine TL.s0 (SIL.lenSlice Try.underlying54 rfl) ?_
    refine TL.s0 (SIL.move rfl) ?_
    refine TL.s0 (SIL.sliceLH (lo := xs.length - (j - i)) (hi := xs.length) Try.underlying54 sz_3 rfl rfl rfl rfl rfl (by omega) (by omega)) ?_
    rw [if_neg (show ¬ c = xs.length - (j - i) by omega), show xs.length - (xs.length - (j - i)) = j - i by omega]
    simp only [Option.map_some, addr_add]
    have hst2 : Sts (pre ++ ((xs.take i ++ xs.drop j).map ik ++ (xs.map ik).drop (xs.length - (j - i))) ++ sp) (pre.length + (xs.length - (j - i)) * 1) (rep (j - i) [ik 0]) (pre ++ (xs.take i ++ xs.drop j).map ik ++ (rep (j - i) [ik 0] ++ sp)) := by
      have := sts_append (pre ++ (xs.take i ++ xs.drop j).map ik) (rep (j - i) [ik 0]) ((xs.map ik).drop (xs.length - (j - i))) sp (by rw [rep_len]; simp; omega)
      rw [show (pre ++ (xs.take i ++ xs.drop j).map ik).length = pre.length + (xs.length - (j - i)) * 1 by simp; omega] at this
      simpa using this
    refine TL.e1 (EX.clear (z := 1) (zs := [ik 0]) Try.underlying54 (.inr ⟨_, zr_3, rfl⟩) rfl .h rfl rfl hst2 (by rcases h6 with h6 | h6 <;> omega)) ?_
    refine TL.nil ?_
    refine G.next ?_
    refine T.seq ?_
    refine T.region ?_  -- region 7
    refine TL.s0 (SIL.move rfl) ?_
    refine TL.s0 (SIL.assign rfl) ?_
    refine TL.nil ?_
    refine G.next ?_
    refine T.ret ?_
    refine G.conv (fun w s => sat_of_bl (z := 1) (n := xs.length - (j - i)) (cap := c) (pre := pre) (cs := (xs.take i ++ xs.drop j).map ik) (sp := rep (j - i) [ik 0] ++ sp) (by simp; omega) (by rw [List.length_append, rep_len]; simp; omega) (by omega) h5 (by rw [List.length_append, rep_len]; simp; rcases h6 with h6 | h6 <;> omega) s) ?_
    exact G.ret rfl (.c (resV.tmp rfl) .n) ⟨rfl, rfl⟩ (.c .h .n) .z
end Go.Proofs.Ytdekaodgbpngmaa
