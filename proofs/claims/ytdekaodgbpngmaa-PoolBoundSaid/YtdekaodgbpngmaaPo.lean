/- The pool's functions. -/
import Derived.Test.YtdekaodgbpngmaaSi
import Derived.Test.YtdekaodgbpngmaaSLm
namespace Go.Proofs.Ytdekaodgbpngmaa
open Go Go.RowKit Go.SL
abbrev Hn := Int × Nat × ByteArray × Int
def HsP : List Hn → HP
  | [] => pur True
  | x :: r => star (bl x.2.1 65 [.string x.2.2.1, .int .i64 x.2.2.2]) (HsP r)
def keysOf (hs : List Hn) : List (Int × Value) := hs.map fun x => (x.1, .pointer (some ⟨x.2.1, 0, none⟩))
structure PM where
  most : Int
  last : Int
  all : List (Int × ByteArray × Int)
  idles : List Int
def PoolIn (p : Nat) (m : PM) (mb : Nat) (hs : List Hn) (q : Option Addr) (c : Nat) : List HP := [bl p 56 [.int .i64 m.most, .int .i64 m.last, .map (some mb), .slice q m.idles.length c], MapP ik mb (keysOf hs), HsP hs, SlP 1 (.slice q m.idles.length c) (m.idles.map ik) m.idles.length]
def forget (x : Hn) : Int × ByteArray × Int := (x.1, x.2.2.1, x.2.2.2)
def PoolP (p : Nat) (m : PM) : HP := fun h => ∃ mb hs q c, hs.map forget = m.all ∧ stars (PoolIn p m mb hs q c) h
theorem PoolP.open {β : Base} {p : Nat} {m : PM} {H : List HP} {w : World} (s : Sat β (PoolP p m :: H) w) : ∃ x : Nat × List Hn × Option Addr × Nat, x.2.1.map forget = m.all ∧ Sat β (PoolIn p m x.1 x.2.1 x.2.2.1 x.2.2.2 ++ H) w := by
  obtain ⟨b, e, h, d, l, h1, h2, d', l1, l2, ⟨mb, hs, q, c, hx, hy⟩, y⟩ := s
  exact ⟨(mb, hs, q, c), hx, b, e, h, d, l, stars_append' ⟨h1, h2, d', l1, l2, hy, y⟩⟩
theorem PoolP.shut {β : Base} {p : Nat} {m : PM} {H : List HP} {w : World} {mb : Nat} {hs : List Hn} {q : Option Addr} {c : Nat} (hx : hs.map forget = m.all) (s : Sat β (PoolIn p m mb hs q c ++ H) w) : Sat β (PoolP p m :: H) w :=
  s.conv fun _ x => star_mono (stars_append x) (fun _ y => ⟨mb, hs, q, c, hx, y⟩) (fun _ y => y)

theorem HsP_mid (x : Hn) : ∀ (l1 l2 : List Hn) (h : PH), HsP (l1 ++ x :: l2) h → star (bl x.2.1 65 [.string x.2.2.1, .int .i64 x.2.2.2]) (HsP (l1 ++ l2)) h
  | [], _, _, hs => hs
  | _ :: l1, l2, _, hs => star_swap (star_mono hs (fun _ y => y) (fun _ y => HsP_mid x l1 l2 _ y))
theorem HsP_unmid (x : Hn) : ∀ (l1 l2 : List Hn) (h : PH), star (bl x.2.1 65 [.string x.2.2.1, .int .i64 x.2.2.2]) (HsP (l1 ++ l2)) h → HsP (l1 ++ x :: l2) h
  | [], _, _, hs => hs
  | _ :: l1, l2, _, hs => star_mono (star_swap hs) (fun _ y => y) (fun _ y => HsP_unmid x l1 l2 _ y)
theorem hs_get (k : Int) : ∀ hs : List Hn, (mget (keysOf hs) k = none ∧ mget (hs.map forget) k = none) ∨ ∃ l1 l2 b aim st, hs = l1 ++ (k, b, aim, st) :: l2 ∧ mget (keysOf hs) k = some (.pointer (some ⟨b, 0, none⟩)) ∧ mget (hs.map forget) k = some (aim, st) ∧ (∀ u, (l1 ++ (k, b, u) :: l2).map forget = mset (hs.map forget) k u) ∧ keysOf (l1 ++ l2) = mdel (keysOf hs) k ∧ (l1 ++ l2).map forget = mdel (hs.map forget) k
  | [] => .inl ⟨rfl, rfl⟩
  | x :: hs => by
    by_cases e : x.1 = k
    · subst e
      exact .inr ⟨[], hs, x.2.1, x.2.2.1, x.2.2.2, rfl, by simp [keysOf, mget], by simp [forget, mget], fun u => by simp [forget, mset], by simp [keysOf, mdel], by simp [forget, mdel]⟩
    · rcases hs_get k hs with ⟨h1, h2⟩ | ⟨l1, l2, b, aim, st, h1, h2, h3, h4, h5, h6⟩
      · left
        constructor
        · simp only [keysOf, List.map_cons, mget, e, if_false]; exact h1
        · simp only [forget, List.map_cons, mget, e, if_false]; exact h2
      · right
        refine ⟨x :: l1, l2, b, aim, st, by rw [h1]; rfl, ?_, ?_, fun u => ?_, ?_, ?_⟩
        · simp only [keysOf, List.map_cons, mget, e, if_false]; exact h2
        · simp only [forget, List.map_cons, mget, e, if_false]; exact h3
        · have := h4 u
          simp only [List.cons_append, List.map_cons, mset, show (forget x).1 = x.1 from rfl]
          rw [this]
          simp only [forget, e, if_false]
        · simp only [keysOf, List.cons_append, List.map_cons, mdel, e, if_false]
          rw [← show keysOf hs = hs.map (fun x => (x.1, .pointer (some ⟨x.2.1, 0, none⟩))) from rfl, ← h5]; rfl
        · simp only [List.cons_append, List.map_cons]
          rw [h6]
          simp only [forget, mdel, e, if_false]
def stateOf (m : PM) (k : Int) : Int := match mget m.all k with | some (_, s) => s | none => 0
def aimOf (m : PM) (k : Int) : ByteArray := match mget m.all k with | some (a, _) => a | none => ByteArray.empty
theorem spec_5 {β : Base} (most : Int) : FSpec Try.prog β 5 #[.int .i64 most] [] (fun v Hs => ∃ p, v = .pointer (some ⟨p, 0, none⟩) ∧ Hs = [PoolP p ⟨min (max most 0) 64, 0, [], []⟩]) := by
  refine FSpec.body (args := [_]) Try.func5 rfl rfl fun F => ?_
  show T _ _ _ F _
  refine T.seq ?_
  refine T.region ?_  -- region 0
  refine TL.s0 (SIL.assign rfl) ?_
  refine TL.nil ?_
  refine G.next ?_
  refine T.seq ?_
  refine T.region ?_  -- region 1
  refine TL.s0 (SIL.move rfl) ?_
  refine TL.s0 (SIL.max2 rfl rfl) ?_
  refine TL.s0 (SIL.min2 rfl rfl) ?_
  refine TL.ex (EX.makeMap ik) ?_
  rintro _ _ ⟨b6, rfl, rfl⟩
  refine TL.s0 (SIL.bld bt_56 (.c rfl (.c rfl .n)) (.c rfl rfl rfl rfl (.c .h .n) (.c rfl rfl rfl rfl (.c (.t (.t .h)) .n) .n))) ?_
  refine TL.ex (EX.box rfl .agg) ?_
  rintro _ _ ⟨b8, rfl, rfl⟩
  refine TL.s0 (SIL.assign rfl) ?_
  refine TL.nil ?_
  refine G.next ?_
  refine T.ret ?_
  refine G.conv (fun w s => PoolP.shut (p := b8) (m := ⟨min (max most 0) 64, 0, [], []⟩) (mb := b6) (hs := []) (q := none) (c := 0) rfl (s.conv fun h x => ?_)) (G.ret rfl (.c (resV.tmp rfl) .n) ⟨_, rfl, rfl⟩ (.c .h .n) .z)
  exact star_mono x (fun _ y => y) (fun _ y => star_mono y (fun _ z => z) (fun _ z => ⟨PH.emp, _, PH.emp_dj _, PH.emp_le _, PH.le_refl _, trivial, PH.emp, _, PH.emp_dj _, PH.emp_le _, PH.le_refl _, SlP.nil, z⟩))
theorem spec_17 {β : Base} (p : Nat) (k : Int) (m : PM) : FSpec Try.prog β 17 #[.pointer (some ⟨p, 0, none⟩), .int .i64 k] [PoolP p m] (Ret (.int .i64 (stateOf m k)) [PoolP p m]) := by
  refine FSpec.body (args := [_, _]) Try.func17 rfl rfl fun F => ?_
  show T _ _ _ (PoolP p m :: F) _
  refine T.convx (fun w s => PoolP.open s) (fun x hx => ?_)
  obtain ⟨mb, hs, q, c⟩ := x
  change hs.map forget = m.all at hx
  show T _ _ _ (PoolIn p m mb hs q c ++ F) _
  rcases hs_get k hs with ⟨hg, hg'⟩ | ⟨l1, l2, b, aim, st, rfl, hg, hg', hset, hdk, hdf⟩
  ·
    refine T.seq ?_
    refine T.region ?_  -- region 0
    refine TL.s0 (SIL.assign rfl) ?_
    refine TL.nil ?_
    refine G.next ?_
    refine T.seq ?_
    refine T.seq ?_
    refine T.region ?_  -- region 1
    refine TL.s0 (SIL.move rfl) ?_
    first | refine TL.s0 (SIL.nilCheck rfl) ?_ | refine TL.s0 (SIL.nilCheckF rfl) ?_
    refine TL.s0 (SIL.fieldAddr fo_56_2 rfl) ?_
    refine TL.s1 0 rfl (SIL.load Try.underlying53 rfl rfl) ?_
    refine TL.s0 (SIL.move rfl) ?_
    refine TL.s1 1 rfl (SIL.lookupOkS Try.underlying53 zr_66 rfl rfl (by first | assumption | rfl)) ?_
    refine TL.s0 (SIL.move rfl) ?_
    refine TL.s0 (SIL.extract rfl rfl) ?_
    refine TL.s0 (SIL.extract rfl rfl) ?_
    refine TL.s0 (SIL.assign rfl) ?_
    refine TL.s0 (SIL.assign rfl) ?_
    refine TL.nil ?_
    refine G.next ?_
    refine T.seq ?_
    refine T.region ?_  -- region 2
    refine TL.s0 (SIL.move rfl) ?_
    refine TL.nil ?_
    refine G.next ?_
    refine T.cond_false rfl ?_
    refine T.skip ?_
    refine G.next ?_
    refine T.seq ?_
    refine T.region ?_  -- region 4
    refine TL.s0 (SIL.assign rfl) ?_
    refine TL.nil ?_
    refine G.next ?_
    refine T.ret ?_
    refine G.conv (fun w s => PoolP.shut (mb := mb) (q := q) (c := c) hx s) (G.ret rfl (.c (resV.tmp rfl) .n) ⟨?_, rfl⟩ (.c .h .n) .z)
    simp only [retV, stateOf, ← hx, hg']
  ·
    refine T.conv (fun w s => ((s.rm (.t (.t .h))).head fun h x => HsP_mid (k, b, aim, st) l1 l2 h x).head_star) ?_
    refine T.seq ?_
    refine T.region ?_  -- region 0
    refine TL.s0 (SIL.assign rfl) ?_
    refine TL.nil ?_
    refine G.next ?_
    refine T.seq ?_
    refine T.seq ?_
    refine T.region ?_  -- region 1
    refine TL.s0 (SIL.move rfl) ?_
    first | refine TL.s0 (SIL.nilCheck rfl) ?_ | refine TL.s0 (SIL.nilCheckF rfl) ?_
    refine TL.s0 (SIL.fieldAddr fo_56_2 rfl) ?_
    refine TL.s1 2 rfl (SIL.load Try.underlying53 rfl rfl) ?_
    refine TL.s0 (SIL.move rfl) ?_
    refine TL.s1 3 rfl (SIL.lookupOkS Try.underlying53 zr_66 rfl rfl (by first | assumption | rfl)) ?_
    refine TL.s0 (SIL.move rfl) ?_
    refine TL.s0 (SIL.extract rfl rfl) ?_
    refine TL.s0 (SIL.extract rfl rfl) ?_
    refine TL.s0 (SIL.assign rfl) ?_
    refine TL.s0 (SIL.assign rfl) ?_
    refine TL.nil ?_
    refine G.next ?_
    refine T.seq ?_
    refine T.region ?_  -- region 2
    refine TL.s0 (SIL.move rfl) ?_
    refine TL.nil ?_
    refine G.next ?_
    refine T.cond_true rfl ?_
    refine T.seq ?_
    refine T.region ?_  -- region 3
    refine TL.s0 (SIL.move rfl) ?_
    first | refine TL.s0 (SIL.nilCheck rfl) ?_ | refine TL.s0 (SIL.nilCheckF rfl) ?_
    refine TL.s0 (SIL.fieldAddr fo_65_1 rfl) ?_
    refine TL.s1 0 rfl (SIL.load Try.underlying3 rfl rfl) ?_
    refine TL.s0 (SIL.assign rfl) ?_
    refine TL.nil ?_
    refine G.next ?_
    refine T.ret ?_
    refine G.retThen ?_
    refine G.conv (fun w s => PoolP.shut (mb := mb) (q := q) (c := c) hx (s.conv fun h x => ?_)) (G.ret rfl (.c (resV.tmp rfl) .n) ⟨?_, rfl⟩ (.c .h .n) .z)
    · exact Rm.of (.t (.t .h)) (star_mono (star_assoc' x) (fun _ y => HsP_unmid (k, b, aim, st) _ _ _ y) (fun _ y => y))
    · simp only [retV, stateOf, ← hx, hg']
theorem HsP_le : ∀ {hs : List Hn} {h k : PH}, HsP hs h → h.le k → HsP hs k
  | [], _, _, _, _ => trivial
  | _ :: _, _, _, hs, hk => star_le hs hk
theorem spec_16 {β : Base} (p : Nat) (m : PM) : FSpec Try.prog β 16 #[.pointer (some ⟨p, 0, none⟩)] [PoolP p m] (Ret (.int .i64 m.all.length) [PoolP p m]) := by
  refine FSpec.body (args := [_]) Try.func16 rfl rfl fun F => ?_
  show T _ _ _ (PoolP p m :: F) _
  refine T.convx (fun w s => PoolP.open s) (fun x hx => ?_)
  obtain ⟨mb, hs, q, c⟩ := x
  change hs.map forget = m.all at hx
  show T _ _ _ (PoolIn p m mb hs q c ++ F) _
  refine T.seq ?_
  refine T.region ?_  -- region 0
  refine TL.s0 (SIL.assign rfl) ?_
  refine TL.nil ?_
  refine G.next ?_
  refine T.seq ?_
  refine T.region ?_  -- region 1
  refine TL.s0 (SIL.move rfl) ?_
  first | refine TL.s0 (SIL.nilCheck rfl) ?_ | refine TL.s0 (SIL.nilCheckF rfl) ?_
  refine TL.s0 (SIL.fieldAddr fo_56_2 rfl) ?_
  refine TL.s1 0 rfl (SIL.load Try.underlying53 rfl rfl) ?_
  refine TL.s1 1 rfl (SIL.lenMapP Try.underlying53 rfl) ?_
  refine TL.s0 (SIL.assign rfl) ?_
  refine TL.nil ?_
  refine G.next ?_
  refine T.ret ?_
  refine G.conv (fun w s => PoolP.shut (mb := mb) (q := q) (c := c) hx s) (G.ret rfl (.c (resV.tmp rfl) .n) ⟨?_, rfl⟩ (.c .h .n) .z)
  rw [← hx]; simp [retV, keysOf]
theorem spec_19 {β : Base} (p : Nat) (k : Int) (m : PM) : FSpec Try.prog β 19 #[.pointer (some ⟨p, 0, none⟩), .int .i64 k] [PoolP p m] (Ret (.string (aimOf m k)) [PoolP p m]) := by
  refine FSpec.body (args := [_, _]) Try.func19 rfl rfl fun F => ?_
  show T _ _ _ (PoolP p m :: F) _
  refine T.convx (fun w s => PoolP.open s) (fun x hx => ?_)
  obtain ⟨mb, hs, q, c⟩ := x
  change hs.map forget = m.all at hx
  show T _ _ _ (PoolIn p m mb hs q c ++ F) _
  rcases hs_get k hs with ⟨hg, hg'⟩ | ⟨l1, l2, b, aim, st, rfl, hg, hg', hset, hdk, hdf⟩
  ·
    refine T.seq ?_
    refine T.region ?_  -- region 0
    refine TL.s0 (SIL.assign rfl) ?_
    refine TL.nil ?_
    refine G.next ?_
    refine T.seq ?_
    refine T.seq ?_
    refine T.region ?_  -- region 1
    refine TL.s0 (SIL.move rfl) ?_
    first | refine TL.s0 (SIL.nilCheck rfl) ?_ | refine TL.s0 (SIL.nilCheckF rfl) ?_
    refine TL.s0 (SIL.fieldAddr fo_56_2 rfl) ?_
    refine TL.s1 0 rfl (SIL.load Try.underlying53 rfl rfl) ?_
    refine TL.s0 (SIL.move rfl) ?_
    refine TL.s1 1 rfl (SIL.lookupOkS Try.underlying53 zr_66 rfl rfl (by first | assumption | rfl)) ?_
    refine TL.s0 (SIL.move rfl) ?_
    refine TL.s0 (SIL.extract rfl rfl) ?_
    refine TL.s0 (SIL.extract rfl rfl) ?_
    refine TL.s0 (SIL.assign rfl) ?_
    refine TL.s0 (SIL.assign rfl) ?_
    refine TL.nil ?_
    refine G.next ?_
    refine T.seq ?_
    refine T.region ?_  -- region 2
    refine TL.s0 (SIL.move rfl) ?_
    refine TL.nil ?_
    refine G.next ?_
    refine T.cond_false rfl ?_
    refine T.skip ?_
    refine G.next ?_
    refine T.seq ?_
    refine T.region ?_  -- region 4
    refine TL.s0 (SIL.assign rfl) ?_
    refine TL.nil ?_
    refine G.next ?_
    refine T.ret ?_
    refine G.conv (fun w s => PoolP.shut (mb := mb) (q := q) (c := c) hx s) (G.ret rfl (.c (resV.tmp rfl) .n) ⟨?_, rfl⟩ (.c .h .n) .z)
    simp only [retV, aimOf, ← hx, hg']
    rfl
  ·
    refine T.conv (fun w s => ((s.rm (.t (.t .h))).head fun h x => HsP_mid (k, b, aim, st) l1 l2 h x).head_star) ?_
    refine T.seq ?_
    refine T.region ?_  -- region 0
    refine TL.s0 (SIL.assign rfl) ?_
    refine TL.nil ?_
    refine G.next ?_
    refine T.seq ?_
    refine T.seq ?_
    refine T.region ?_  -- region 1
    refine TL.s0 (SIL.move rfl) ?_
    first | refine TL.s0 (SIL.nilCheck rfl) ?_ | refine TL.s0 (SIL.nilCheckF rfl) ?_
    refine TL.s0 (SIL.fieldAddr fo_56_2 rfl) ?_
    refine TL.s1 2 rfl (SIL.load Try.underlying53 rfl rfl) ?_
    refine TL.s0 (SIL.move rfl) ?_
    refine TL.s1 3 rfl (SIL.lookupOkS Try.underlying53 zr_66 rfl rfl (by first | assumption | rfl)) ?_
    refine TL.s0 (SIL.move rfl) ?_
    refine TL.s0 (SIL.extract rfl rfl) ?_
    refine TL.s0 (SIL.extract rfl rfl) ?_
    refine TL.s0 (SIL.assign rfl) ?_
    refine TL.s0 (SIL.assign rfl) ?_
    refine TL.nil ?_
    refine G.next ?_
    refine T.seq ?_
    refine T.region ?_  -- region 2
    refine TL.s0 (SIL.move rfl) ?_
    refine TL.nil ?_
    refine G.next ?_
    refine T.cond_true rfl ?_
    refine T.seq ?_
    refine T.region ?_  -- region 3
    refine TL.s0 (SIL.move rfl) ?_
    first | refine TL.s0 (SIL.nilCheck rfl) ?_ | refine TL.s0 (SIL.nilCheckF rfl) ?_
    refine TL.s0 (SIL.fieldAddr fo_65_0 rfl) ?_
    refine TL.s1 0 rfl (SIL.load Try.underlying9 rfl rfl) ?_
    refine TL.s0 (SIL.assign rfl) ?_
    refine TL.nil ?_
    refine G.next ?_
    refine T.ret ?_
    refine G.retThen ?_
    refine G.conv (fun w s => PoolP.shut (mb := mb) (q := q) (c := c) hx (s.conv fun h x => ?_)) (G.ret rfl (.c (resV.tmp rfl) .n) ⟨?_, rfl⟩ (.c .h .n) .z)
    · exact Rm.of (.t (.t .h)) (star_mono (star_assoc' x) (fun _ y => HsP_unmid (k, b, aim, st) _ _ _ y) (fun _ y => y))
    · simp only [retV, aimOf, ← hx, hg']
theorem spec_28 {β : Base} (b : Nat) (h x : Int) : FSpec Try.prog β 28 #[.int .i64 x, .pointer (some ⟨b, 0, none⟩)] [bl b 3 [.int .i64 h]] (Ret (.bool (decide (x = h))) [bl b 3 [.int .i64 h]]) := by
  refine FSpec.body (args := [_, _]) Try.func28 rfl rfl fun F => ?_
  show T _ _ _ (bl b 3 [.int .i64 h] :: F) _
  refine T.seq ?_
  refine T.region ?_  -- region 0
  refine TL.s0 (SIL.assign rfl) ?_
  refine TL.nil ?_
  refine G.next ?_
  refine T.seq ?_
  refine T.region ?_  -- region 1
  refine TL.s0 (SIL.move rfl) ?_
  refine TL.s1 0 rfl (SIL.load Try.underlying3 rfl rfl) ?_
  refine TL.s0 (SIL.eql rfl rfl) ?_
  refine TL.s0 (SIL.assign rfl) ?_
  refine TL.nil ?_
  refine G.next ?_
  refine T.ret ?_
  exact G.ret rfl (.c (resV.tmp rfl) .n) ⟨rfl, rfl⟩ (.c .h .n) .z
theorem spec_15 {β : Base} (p : Nat) (k : Int) (m : PM) : FSpec Try.prog β 15 #[.pointer (some ⟨p, 0, none⟩), .int .i64 k] [PoolP p m] (Ret (.bool (mget m.all k).isSome) [PoolP p { m with all := mdel m.all k, idles := m.idles.filter fun x => !decide (x = k) }]) := by
  refine FSpec.body (args := [_, _]) Try.func15 rfl rfl fun F => ?_
  show T _ _ _ (PoolP p m :: F) _
  refine T.convx (fun w s => PoolP.open s) (fun x hx => ?_)
  obtain ⟨mb, hs, q, c⟩ := x
  change hs.map forget = m.all at hx
  show T _ _ _ (PoolIn p m mb hs q c ++ F) _
  rcases hs_get k hs with ⟨hg, hg'⟩ | ⟨l1, l2, b, aim, st, rfl, hg, hg', hset, hdk, hdf⟩
  ·
    refine T.seq ?_
    refine T.region ?_  -- region 0
    refine TL.ex (EX.box rfl (.one rfl)) ?_
    rintro _ _ ⟨b3, rfl, rfl⟩
    refine TL.s0 (SIL.assign rfl) ?_
    refine TL.nil ?_
    refine G.next ?_
    refine T.seq ?_
    refine T.draw [(0, true), (1, true), (2, true), (3, true), (4, true), (5, true), (6, true), (7, true), (8, true), (9, true), (10, true)] (by kernel_rfl) (by kernel_rfl) ?_  -- region 1 DRAWS
    refine DL.s0 rfl (SIL.move rfl) ?_
    first | refine DL.s0 rfl (SIL.nilCheck rfl) ?_ | refine DL.s0 rfl (SIL.nilCheckF rfl) ?_
    refine DL.s0 rfl (SIL.fieldAddr fo_56_2 rfl) ?_
    refine DL.s1 1 rfl rfl (SIL.load Try.underlying53 rfl rfl) ?_
    refine DL.s1 0 rfl rfl (SIL.load Try.underlying3 rfl rfl) ?_
    refine DL.s1 2 rfl rfl (SIL.lookupOkS Try.underlying53 zr_66 rfl rfl (by first | assumption | rfl)) ?_
    refine DL.s0 rfl (SIL.move rfl) ?_
    refine DL.s0 rfl (SIL.extract rfl rfl) ?_
    refine DL.s0 rfl (SIL.extract rfl rfl) ?_
    refine DL.s0 rfl (SIL.assign rfl) ?_
    refine DL.s0 rfl (SIL.assign rfl) ?_
    refine DL.nil ?_
    refine G.next ?_
    refine T.seq ?_
    refine T.draw [(0, true), (1, true), (2, true), (3, true), (4, true), (5, false)] (by kernel_rfl) (by kernel_rfl) ?_  -- region 2 DRAWS
    refine DL.s0 rfl (SIL.move rfl) ?_
    first | refine DL.s0 rfl (SIL.nilCheck rfl) ?_ | refine DL.s0 rfl (SIL.nilCheckF rfl) ?_
    refine DL.s0 rfl (SIL.fieldAddr fo_56_2 rfl) ?_
    refine DL.s1 1 rfl rfl (SIL.load Try.underlying53 rfl rfl) ?_
    refine DL.s1 0 rfl rfl (SIL.load Try.underlying3 rfl rfl) ?_
    refine DL.e1 rfl (EX.delete (.t (.t .h)) Try.underlying53 rfl rfl rfl) (.d (by kernel_rfl) (.d (by kernel_rfl) .n)) ?_
    refine DL.nil ?_
    refine G.next ?_
    refine T.seq ?_
    refine T.region ?_  -- region 3
    refine TL.s0 (SIL.move rfl) ?_
    refine TL.s0 (SIL.move rfl) ?_
    first | refine TL.s0 (SIL.nilCheck rfl) ?_ | refine TL.s0 (SIL.nilCheckF rfl) ?_
    refine TL.s0 (SIL.fieldAddr fo_56_3 rfl) ?_
    refine TL.s1 1 rfl (SIL.load Try.underlying54 rfl rfl) ?_
    refine TL.s0 (SIL.makeFunc' .n (.c rfl .n)) ?_
    refine TL.e1 (EX.fn1 cf_27 (.c rfl (.c rfl .n)) (spec_27 m.idles cf_28 [.pointer (some ⟨b3, 0, none⟩)] [bl b3 3 [.int .i64 k]] (fun x => decide (x = k)) (fun x => spec_28 b3 k x)) (.c (.t (.t (.t (.t .h)))) (.c .h .n))) ?_
    first | refine TL.s0 (SIL.nilCheck rfl) ?_ | refine TL.s0 (SIL.nilCheckF rfl) ?_
    refine TL.s0 (SIL.fieldAddr fo_56_3 rfl) ?_
    refine TL.e1 (EX.store1 (.t (.t .h)) rfl rfl sz_54 (.t (.t (.t .h)))) ?_
    refine TL.nil ?_
    refine G.next ?_
    refine T.seq ?_
    refine T.region ?_  -- region 4
    refine TL.s0 (SIL.move rfl) ?_
    refine TL.s0 (SIL.assign rfl) ?_
    refine TL.nil ?_
    refine G.next ?_
    refine T.ret ?_
    refine G.conv (fun w s => PoolP.shut (p := p) (m := { m with all := mdel m.all k, idles := m.idles.filter fun x => !decide (x = k) }) (mb := mb) (hs := hs) (q := q) (c := c) (by rw [hx, mdel_none (hx ▸ hg')]) (s.conv fun h x => ?_)) (G.ret rfl (.c (resV.tmp rfl) .n) ⟨?_, rfl⟩ (.c .h .n) .z)
    · rw [mdel_none hg] at x
      exact Sb.to (.c (.t (.t .h)) (.c (.t (.t .h)) (.c (.t (.t .h)) (.c .h (.z (.s .z)))))) x
    · rw [← hx, hg']; rfl
  ·
    refine T.seq ?_
    refine T.region ?_  -- region 0
    refine TL.ex (EX.box rfl (.one rfl)) ?_
    rintro _ _ ⟨b3, rfl, rfl⟩
    refine TL.s0 (SIL.assign rfl) ?_
    refine TL.nil ?_
    refine G.next ?_
    refine T.seq ?_
    refine T.draw [(0, true), (1, true), (2, true), (3, true), (4, true), (5, true), (6, true), (7, true), (8, true), (9, true), (10, true)] (by kernel_rfl) (by kernel_rfl) ?_  -- region 1 DRAWS
    refine DL.s0 rfl (SIL.move rfl) ?_
    first | refine DL.s0 rfl (SIL.nilCheck rfl) ?_ | refine DL.s0 rfl (SIL.nilCheckF rfl) ?_
    refine DL.s0 rfl (SIL.fieldAddr fo_56_2 rfl) ?_
    refine DL.s1 1 rfl rfl (SIL.load Try.underlying53 rfl rfl) ?_
    refine DL.s1 0 rfl rfl (SIL.load Try.underlying3 rfl rfl) ?_
    refine DL.s1 2 rfl rfl (SIL.lookupOkS Try.underlying53 zr_66 rfl rfl (by first | assumption | rfl)) ?_
    refine DL.s0 rfl (SIL.move rfl) ?_
    refine DL.s0 rfl (SIL.extract rfl rfl) ?_
    refine DL.s0 rfl (SIL.extract rfl rfl) ?_
    refine DL.s0 rfl (SIL.assign rfl) ?_
    refine DL.s0 rfl (SIL.assign rfl) ?_
    refine DL.nil ?_
    refine G.next ?_
    refine T.seq ?_
    refine T.draw [(0, true), (1, true), (2, true), (3, true), (4, true), (5, false)] (by kernel_rfl) (by kernel_rfl) ?_  -- region 2 DRAWS
    refine DL.s0 rfl (SIL.move rfl) ?_
    first | refine DL.s0 rfl (SIL.nilCheck rfl) ?_ | refine DL.s0 rfl (SIL.nilCheckF rfl) ?_
    refine DL.s0 rfl (SIL.fieldAddr fo_56_2 rfl) ?_
    refine DL.s1 1 rfl rfl (SIL.load Try.underlying53 rfl rfl) ?_
    refine DL.s1 0 rfl rfl (SIL.load Try.underlying3 rfl rfl) ?_
    refine DL.e1 rfl (EX.delete (.t (.t .h)) Try.underlying53 rfl rfl rfl) (.d (by kernel_rfl) (.d (by kernel_rfl) .n)) ?_
    refine DL.nil ?_
    refine G.next ?_
    refine T.seq ?_
    refine T.region ?_  -- region 3
    refine TL.s0 (SIL.move rfl) ?_
    refine TL.s0 (SIL.move rfl) ?_
    first | refine TL.s0 (SIL.nilCheck rfl) ?_ | refine TL.s0 (SIL.nilCheckF rfl) ?_
    refine TL.s0 (SIL.fieldAddr fo_56_3 rfl) ?_
    refine TL.s1 1 rfl (SIL.load Try.underlying54 rfl rfl) ?_
    refine TL.s0 (SIL.makeFunc' .n (.c rfl .n)) ?_
    refine TL.e1 (EX.fn1 cf_27 (.c rfl (.c rfl .n)) (spec_27 m.idles cf_28 [.pointer (some ⟨b3, 0, none⟩)] [bl b3 3 [.int .i64 k]] (fun x => decide (x = k)) (fun x => spec_28 b3 k x)) (.c (.t (.t (.t (.t .h)))) (.c .h .n))) ?_
    first | refine TL.s0 (SIL.nilCheck rfl) ?_ | refine TL.s0 (SIL.nilCheckF rfl) ?_
    refine TL.s0 (SIL.fieldAddr fo_56_3 rfl) ?_
    refine TL.e1 (EX.store1 (.t (.t .h)) rfl rfl sz_54 (.t (.t (.t .h)))) ?_
    refine TL.nil ?_
    refine G.next ?_
    refine T.seq ?_
    refine T.region ?_  -- region 4
    refine TL.s0 (SIL.move rfl) ?_
    refine TL.s0 (SIL.assign rfl) ?_
    refine TL.nil ?_
    refine G.next ?_
    refine T.ret ?_
    refine G.conv (fun w s => PoolP.shut (p := p) (m := { m with all := mdel m.all k, idles := m.idles.filter fun x => !decide (x = k) }) (mb := mb) (hs := l1 ++ l2) (q := q) (c := c) (by rw [hdf, hx]) (s.conv fun h x => ?_)) (G.ret rfl (.c (resV.tmp rfl) .n) ⟨?_, rfl⟩ (.c .h .n) .z)
    · rw [← hdk] at x
      refine Sb.to (.c (.t (.t (.t .h))) (.c (.t (.t (.t .h))) (.c .h (.c .h (.z (.s .z)))))) (show stars (HsP (l1 ++ l2) :: _) h from star_mono (Rm.to (.t (.t (.t (.t .h)))) x) (fun y hy => ?_) (fun _ y => y))
      obtain ⟨_, h2, _, _, l, _, z⟩ := HsP_mid (k, b, aim, st) l1 l2 y hy
      exact HsP_le z l
    · rw [← hx, hg']; rfl
theorem spec_26 {β : Base} (p : Nat) (k fr to : Int) (hf : fr ≠ 0) (m : PM) : FSpec Try.prog β 26 #[.pointer (some ⟨p, 0, none⟩), .int .i64 k, .int .i64 fr, .int .i64 to] [PoolP p m] (Ret (.bool (decide (stateOf m k = fr))) [PoolP p (if stateOf m k = fr then { m with all := mset m.all k (aimOf m k, to) } else m)]) := by
  refine FSpec.body (args := [_, _, _, _]) Try.func26 rfl rfl fun F => ?_
  show T _ _ _ (PoolP p m :: F) _
  refine T.seq ?_
  refine T.region ?_  -- region 0
  refine TL.s0 (SIL.assign rfl) ?_
  refine TL.nil ?_
  refine G.next ?_
  refine T.seq ?_
  refine T.seq ?_
  refine T.region ?_  -- region 1
  refine TL.s0 (SIL.move rfl) ?_
  refine TL.s0 (SIL.move rfl) ?_
  refine TL.e1 (EX.fn1 cf_17 (.c rfl (.c rfl .n)) (spec_17 p k m) (.c .h .n)) ?_
  refine TL.s0 (SIL.move rfl) ?_
  refine TL.s0 (SIL.neq rfl rfl) ?_
  refine TL.nil ?_
  refine G.next ?_
  refine T.cond rfl (fun h => ?_) (fun h => ?_)  -- cond 1
  · simp only [Bool.not_eq_true', decide_eq_false_iff_not] at h
    rw [if_neg h]
    refine T.seq ?_
    refine T.region ?_  -- region 2
    refine TL.s0 (SIL.assign rfl) ?_
    refine TL.nil ?_
    refine G.next ?_
    refine T.ret ?_
    refine G.retThen ?_
    exact G.ret rfl (.c (resV.tmp rfl) .n) ⟨by rw [show decide (stateOf m k = fr) = false by simpa using h]; rfl, rfl⟩ (.c .h .n) .z
  · simp only [Bool.not_eq_false', decide_eq_true_eq] at h
    rw [if_pos h]
    refine T.sb (K := PoolP p m :: F) (.c .h (.z .z)) ?_
    refine T.convx (fun w s => PoolP.open s) (fun x hx => ?_)
    obtain ⟨mb, hs, q, c⟩ := x
    change hs.map forget = m.all at hx
    show T _ _ _ (PoolIn p m mb hs q c ++ F) _
    rcases hs_get k hs with ⟨hg, hg'⟩ | ⟨l1, l2, b, aim, st, rfl, hg, hg', hset, hdk, hdf⟩
    · simp only [stateOf, ← hx, hg'] at h; exact absurd h.symm hf
    refine T.conv (fun w s => ((s.rm (.t (.t .h))).head fun h x => HsP_mid (k, b, aim, st) l1 l2 h x).head_star) ?_
    refine T.skip ?_
    refine G.next ?_
    refine T.seq ?_
    refine T.region ?_  -- region 3
    refine TL.s0 (SIL.move rfl) ?_
    first | refine TL.s0 (SIL.nilCheck rfl) ?_ | refine TL.s0 (SIL.nilCheckF rfl) ?_
    refine TL.s0 (SIL.fieldAddr fo_56_2 rfl) ?_
    refine TL.s1 2 rfl (SIL.load Try.underlying53 rfl rfl) ?_
    refine TL.s0 (SIL.move rfl) ?_
    refine TL.s1 3 rfl (SIL.lookupS Try.underlying53 zr_66 rfl rfl (by first | assumption | rfl)) ?_
    refine TL.s0 (SIL.move rfl) ?_
    first | refine TL.s0 (SIL.nilCheck rfl) ?_ | refine TL.s0 (SIL.nilCheckF rfl) ?_
    refine TL.s0 (SIL.fieldAddr fo_65_1 rfl) ?_
    refine TL.e1 (EX.store1 .h rfl rfl sz_3 (.t .h)) ?_
    refine TL.nil ?_
    refine G.next ?_
    refine T.seq ?_
    refine T.region ?_  -- region 4
    refine TL.s0 (SIL.assign rfl) ?_
    refine TL.nil ?_
    refine G.next ?_
    refine T.ret ?_
    refine G.conv (fun w s => PoolP.shut (p := p) (m := { m with all := mset m.all k (aimOf m k, to) }) (mb := mb) (hs := l1 ++ (k, b, aim, to) :: l2) (q := q) (c := c) (by rw [hset (aim, to), hx]; simp only [aimOf, ← hx, hg']) (s.conv fun h x => ?_)) (G.ret rfl (.c (resV.tmp rfl) .n) ⟨by rw [show decide (stateOf m k = fr) = true by simpa using h]; rfl, rfl⟩ (.c .h .n) .z)
    have hk : keysOf (l1 ++ (k, b, aim, to) :: l2) = keysOf (l1 ++ (k, b, aim, st) :: l2) := by simp [keysOf]
    show stars (_ :: MapP ik mb (keysOf (l1 ++ (k, b, aim, to) :: l2)) :: _) h
    rw [hk]
    exact Rm.of (.t (.t .h)) (star_mono (star_assoc' x) (fun _ y => HsP_unmid (k, b, aim, to) _ _ _ y) (fun _ y => y))
def turnM (m : PM) (k fr to : Int) : PM := if stateOf m k = fr then { m with all := mset m.all k (aimOf m k, to) } else m
theorem spec_11 {β : Base} (p : Nat) (k : Int) (m : PM) : FSpec Try.prog β 11 #[.pointer (some ⟨p, 0, none⟩), .int .i64 k] [PoolP p m] (Ret (.bool (decide (stateOf m k = 1))) [PoolP p (turnM m k 1 2)]) := by
  refine FSpec.body (args := [_, _]) Try.func11 rfl rfl fun F => ?_
  show T _ _ _ (PoolP p m :: F) _
  refine T.seq ?_
  refine T.region ?_  -- region 0
  refine TL.s0 (SIL.assign rfl) ?_
  refine TL.nil ?_
  refine G.next ?_
  refine T.seq ?_
  refine T.region ?_  -- region 1
  refine TL.s0 (SIL.move rfl) ?_
  refine TL.s0 (SIL.move rfl) ?_
  refine TL.e1 (EX.fn1 cf_26 (.c rfl (.c rfl (.c rfl (.c rfl .n)))) (spec_26 p k 1 2 (by decide) m) (.c .h .n)) ?_
  refine TL.s0 (SIL.assign rfl) ?_
  refine TL.nil ?_
  refine G.next ?_
  refine T.ret ?_
  exact G.ret rfl (.c (resV.tmp rfl) .n) ⟨rfl, rfl⟩ (.c .h .n) .z
def restM (m : PM) (k : Int) : PM := if stateOf m k = 2 then { turnM m k 2 3 with idles := (turnM m k 2 3).idles ++ [k] } else turnM m k 2 3
theorem spec_13 {β : Base} (p : Nat) (k : Int) (m : PM) (hb : m.idles.length ≤ 1000000) : FSpec Try.prog β 13 #[.pointer (some ⟨p, 0, none⟩), .int .i64 k] [PoolP p m] (Ret (.bool (decide (stateOf m k = 2))) [PoolP p (restM m k)]) := by
  refine FSpec.body (args := [_, _]) Try.func13 rfl rfl fun F => ?_
  show T _ _ _ (PoolP p m :: F) _
  refine T.seq ?_
  refine T.region ?_  -- region 0
  refine TL.s0 (SIL.assign rfl) ?_
  refine TL.nil ?_
  refine G.next ?_
  refine T.seq ?_
  refine T.region ?_  -- region 1
  refine TL.s0 (SIL.move rfl) ?_
  refine TL.s0 (SIL.move rfl) ?_
  refine TL.e1 (EX.fn1 cf_26 (.c rfl (.c rfl (.c rfl (.c rfl .n)))) (spec_26 p k 2 3 (by decide) m) (.c .h .n)) ?_
  refine TL.s0 (SIL.assign rfl) ?_
  refine TL.nil ?_
  refine G.next ?_
  refine T.seq ?_
  refine T.seq ?_
  refine T.region ?_  -- region 2
  refine TL.s0 (SIL.move rfl) ?_
  refine TL.nil ?_
  refine G.next ?_
  refine T.cond rfl (fun h => ?_) (fun h => ?_)  -- cond 1
  · simp only [decide_eq_true_eq] at h
    have hidl : (turnM m k 2 3).idles = m.idles := by unfold turnM; split <;> rfl
    refine T.sb (K := PoolP p (turnM m k 2 3) :: F) (.c .h (.z .z)) ?_
    refine T.convx (fun w s => PoolP.open s) (fun x hx => ?_)
    obtain ⟨mb, hs, q, c⟩ := x
    change hs.map forget = (turnM m k 2 3).all at hx
    show T _ _ _ (PoolIn p (turnM m k 2 3) mb hs q c ++ F) _
    rw [← hidl] at hb
    refine T.region ?_  -- region 3
    refine TL.s0 (SIL.move rfl) ?_
    refine TL.s0 (SIL.move rfl) ?_
    first | refine TL.s0 (SIL.nilCheck rfl) ?_ | refine TL.s0 (SIL.nilCheckF rfl) ?_
    refine TL.s0 (SIL.fieldAddr fo_56_3 rfl) ?_
    refine TL.s1 0 rfl (SIL.load Try.underlying54 rfl rfl) ?_
    refine TL.s0 (SIL.move rfl) ?_
    refine TL.ex (EX.buildSlice (l := [_]) Try.underlying54 sz_3 (.inr ⟨_, zr_3, rfl⟩) rfl rfl rfl (.c rfl .n) (.c rfl rfl rfl rfl (.c .h .n) .n)) ?_
    rintro _ _ ⟨b16, rfl, rfl⟩
    refine TL.ex (EX.append ei_54 (.t (.t (.t (.t .h)))) rfl rfl (Rd.whole (i := 0) rfl rfl) (by simp [one]) (by omega) (by omega)) ?_
    rintro _ _ ⟨q17, c17, rfl, rfl⟩
    first | refine TL.s0 (SIL.nilCheck rfl) ?_ | refine TL.s0 (SIL.nilCheckF rfl) ?_
    refine TL.s0 (SIL.fieldAddr fo_56_3 rfl) ?_
    refine TL.e1 (EX.store1 (.t (.t .h)) rfl rfl sz_54 (.t (.t (.t .h)))) ?_
    refine TL.nil ?_
    refine G.next ?_
    refine T.seq ?_
    refine T.region ?_  -- region 4
    refine TL.s0 (SIL.move rfl) ?_
    refine TL.s0 (SIL.assign rfl) ?_
    refine TL.nil ?_
    refine G.next ?_
    refine T.ret ?_
    refine G.conv (fun w s => PoolP.shut (p := p) (m := restM m k) (mb := mb) (hs := hs) (q := q17) (c := c17) (by rw [hx]; unfold restM; rw [if_pos h]) (s.conv fun h' x => ?_)) (G.ret rfl (.c (resV.tmp rfl) .n) ⟨by rw [show decide (stateOf m k = 2) = true by simpa using h]; rfl, rfl⟩ (.c .h .n) .z)
    have e : restM m k = { turnM m k 2 3 with idles := (turnM m k 2 3).idles ++ [k] } := by unfold restM; rw [if_pos h]
    rw [e]
    show stars (PoolIn p { turnM m k 2 3 with idles := (turnM m k 2 3).idles ++ [k] } mb hs q17 c17 ++ F) h'
    simp only [PoolIn, List.length_append, List.length_singleton, List.map_append, List.map_cons, List.map_nil]
    exact Sb.to (.c (.t (.t .h)) (.c (.t (.t .h)) (.c (.t (.t .h)) (.c .h (.z (.s .z)))))) x
  · simp only [decide_eq_false_iff_not] at h
    refine T.skip ?_
    refine G.next ?_
    refine T.seq ?_
    refine T.region ?_  -- region 4
    refine TL.s0 (SIL.move rfl) ?_
    refine TL.s0 (SIL.assign rfl) ?_
    refine TL.nil ?_
    refine G.next ?_
    refine T.ret ?_
    exact G.ret rfl (.c (resV.tmp rfl) .n) ⟨by rw [show decide (stateOf m k = 2) = false by simpa using h]; rfl, by simp [restM, turnM, h]⟩ (.c .h .n) .z
theorem spec_23 {β : Base} {q : Option Addr} {n c : Nat} : FSpec Try.prog β 23 #[.slice q n c] [] (fun v Hs => ∃ b, v = .func (.func 29) #[] #[.pointer (some ⟨b, 0, none⟩)] ∧ Hs = [bl b 54 [.slice q n c]]) := by
  refine FSpec.body (args := [_]) Try.func23 rfl rfl fun F => ?_
  show T _ _ _ F _
  refine T.seq ?_
  refine T.region ?_  -- region 0
  refine TL.ex (EX.box rfl (.one rfl)) ?_
  rintro _ _ ⟨b1, rfl, rfl⟩
  refine TL.s0 (SIL.assign rfl) ?_
  refine TL.nil ?_
  refine G.next ?_
  refine T.seq ?_
  refine T.region ?_  -- region 1
  refine TL.s0 (SIL.makeFunc' .n (.c rfl .n)) ?_
  refine TL.s0 (SIL.assign rfl) ?_
  refine TL.nil ?_
  refine G.next ?_
  refine T.ret ?_
  exact G.ret rfl (.c (resV.tmp rfl) .n) ⟨b1, rfl, rfl⟩ (.c .h .n) .z
theorem spec_29 {β : Base} {q : Option Addr} {c l bs : Nat} (xs : List Int) (R : HP) (J : List HP) (φ : Nat → Prop) (X : List HP → Prop) (hY : ∀ (k : Nat) (x : Int), k < xs.length → (∀ i, i < k → φ i) → xs[xs.length - 1 - k]? = some x → YFn Try.prog β l [.int .i64 ((xs.length : Int) - 1 - k), ik x] (R :: SlP 1 (.slice q xs.length c) (xs.map ik) xs.length :: J) (fun v Hs => (v = .bool true ∧ Hs = R :: SlP 1 (.slice q xs.length c) (xs.map ik) xs.length :: J ∧ φ k) ∨ (v = .bool false ∧ X Hs))) :
    FSpec Try.prog β 29 #[.func (.yield l) #[] #[], .pointer (some ⟨bs, 0, none⟩)] (bl bs 54 [.slice q xs.length c] :: R :: SlP 1 (.slice q xs.length c) (xs.map ik) xs.length :: J) (fun _ Hs => (Hs = bl bs 54 [.slice q xs.length c] :: R :: SlP 1 (.slice q xs.length c) (xs.map ik) xs.length :: J ∧ ∀ k, k < xs.length → φ k) ∨ (∃ Hx, X Hx ∧ Hs = bl bs 54 [.slice q xs.length c] :: Hx)) := by
  refine FSpec.body (args := [_, _]) Try.func29 rfl rfl fun F => ?_
  show T _ _ _ (bl bs 54 [.slice q xs.length c] :: R :: SlP 1 (.slice q xs.length c) (xs.map ik) xs.length :: (J ++ F)) _
  refine T.have (fun w s => SlP.bound (s.rm (.t (.t .h)))) (fun hb => ?_)
  obtain ⟨_, hb1, hb2⟩ := hb
  refine T.seq ?_
  refine T.region ?_  -- region 0
  refine TL.s1 0 rfl (SIL.load Try.underlying54 rfl rfl) ?_
  refine TL.s0 (SIL.lenSlice Try.underlying54 rfl) ?_
  refine TL.s0 (SIL.sub rfl rfl (by unfold I64; omega)) ?_
  refine TL.s0 (SIL.assign rfl) ?_
  refine TL.nil ?_
  refine G.next ?_
  refine T.block ?_
  -- LIVE 0:yield 1 3*:i
  refine T.loop (X := Nat) (fun k => [(0, .func (.yield l) #[] #[]), (1, .pointer (some ⟨bs, 0, none⟩)), (3, .int .i64 ((xs.length : Int) - 1 - k))]) (fun _ => bl bs 54 [.slice q xs.length c] :: R :: SlP 1 (.slice q xs.length c) (xs.map ik) xs.length :: (J ++ F)) (fun k => k ≤ xs.length ∧ ∀ i, i < k → φ i) (fun k => xs.length - k) 0 ⟨Nat.zero_le _, fun i h => by omega⟩ (.c rfl (.c rfl (.c (by simp [lk]) .n))) (fun _ s => s) (fun k hk => ?_)
  obtain ⟨hk, hφ⟩ := hk
  refine T.seq ?_
  refine T.seq ?_
  refine T.region ?_  -- region 1
  refine TL.s0 (SIL.move rfl) ?_
  refine TL.s0 (SIL.geq rfl rfl) ?_
  refine TL.nil ?_
  refine G.next ?_
  refine T.cond rfl (fun h => ?_) (fun h => ?_)  -- cond 1
  · simp only [decide_eq_true_eq] at h
    have hlt : xs.length - 1 - k < xs.length := by omega
    obtain ⟨x, hx⟩ : ∃ x, xs[xs.length - 1 - k]? = some x := ⟨xs[xs.length - 1 - k], List.getElem?_eq_getElem hlt⟩
    refine T.skip ?_
    refine G.next ?_
    refine T.seq ?_
    refine T.block ?_
    refine T.seq ?_
    refine T.region ?_  -- region 3
    refine TL.s0 (SIL.move rfl) ?_
    refine TL.s0 (SIL.move rfl) ?_
    refine TL.s1 0 rfl (SIL.load Try.underlying54 rfl rfl) ?_
    refine TL.s0 (SIL.move rfl) ?_
    refine TL.sb (K := SlP 1 (.slice q xs.length c) (xs.map ik) xs.length :: bl bs 54 [.slice q xs.length c] :: R :: (J ++ F)) (.c (.t (.t .h)) (.c .h (.c .h (.z .z)))) ?_
    refine TL.slP (fun _ _ _ h0 => by omega) (fun b pre sp T' fr h1 h2 h3 h4 h5 h6 => ?_)
    subst h1
    refine TL.s0 (SIL.indexAddr (j := xs.length - 1 - k) Try.underlying54 sz_3 rfl rfl (by omega) (by omega)) ?_
    refine TL.s1 0 rfl (SIL.load (v := ik x) Try.underlying3 rfl (gt_sl (j := xs.length - 1 - k) (by simp [hx]) (by simp))) ?_
    refine TL.conv (fun w s => sat_of_bl h2 h3 h4 h5 h6 s) ?_
    refine TL.ex (EX.yield rfl (.c rfl (.c rfl .n)) (hY k x (by omega) hφ hx) (.c (.t (.t .h)) (.c .h (Pk.t (Pk.pre J F))))) ?_
    rintro _ _ ⟨v17, Hs, hp17, rfl, rfl⟩
    rcases hp17 with ⟨rfl, rfl, hφk⟩ | ⟨rfl, hX⟩
    · show TL _ _ _ ((17, .bool true) :: _) _ _
      refine TL.s0 (SIL.not rfl) ?_
      refine TL.nil ?_
      refine G.next ?_
      refine T.cond_false rfl ?_
      refine T.skip ?_
      refine G.inBlock ?_
      refine G.next ?_
      refine T.region ?_  -- region 2
      refine TL.s0 (SIL.move rfl) ?_
      refine TL.s0 (SIL.sub rfl rfl (by unfold I64; omega)) ?_
      refine TL.s0 (SIL.assign rfl) ?_
      refine TL.nil ?_
      exact G.then (G.again (k + 1) ⟨by omega, fun i hi => by rcases Nat.lt_succ_iff_lt_or_eq.1 hi with h | h; exact hφ i h; exact h ▸ hφk⟩ (by omega) (.c rfl (.c rfl (.c (by show some _ = _; congr 2; omega) .n))) (fun _ s => s.conv fun _ x => Sb.to (.c (Rm.app (R :: SlP 1 _ _ _ :: J)) (.c .h (.c .h (.z .z)))) x))
    · show TL _ _ _ ((17, .bool false) :: _) _ _
      refine TL.s0 (SIL.not rfl) ?_
      refine TL.nil ?_
      refine G.next ?_
      refine T.cond_true rfl ?_
      refine T.ret ?_
      refine G.retBlock ?_
      refine G.retThen ?_
      refine G.retThen ?_
      refine G.retBlock ?_
      exact G.ret rfl .n (.inr ⟨Hs, hX, rfl⟩) (.c (Rm.app Hs) (Pk.pre Hs F)) .z
  · simp only [decide_eq_false_iff_not] at h
    have hkn : k = xs.length := by omega
    subst hkn
    refine T.exit ?_
    refine G.exitThen ?_
    refine G.exitThen ?_
    refine G.exitHere ?_
    exact G.end rfl .n (.inl ⟨rfl, hφ⟩) (.c .h (.c .h (.c .h (Pk.pre J F)))) .z
end Go.Proofs.Ytdekaodgbpngmaa
