/- The pool lends a handle. -/
import Derived.Test.YtdekaodgbpngmaaPo
namespace Go.Proofs.Ytdekaodgbpngmaa
open Go Go.RowKit Go.SL
/-- From the k-th idle handle from behind on: the place of the first one that leads to the aim. -/
def backFrom (m : PM) (aim : ByteArray) : Nat → Nat → Option Nat
  | 0, _ => none
  | d + 1, k => if aimOf m (m.idles.getD (m.idles.length - 1 - k) 0) = aim then some (m.idles.length - 1 - k) else backFrom m aim d (k + 1)
def dialM (m : PM) (aim : ByteArray) : PM := { m with last := m.last + 1, all := mset m.all (m.last + 1) (aim, 1) }
def shutM (m : PM) (k : Int) : PM := { m with all := mdel m.all k, idles := m.idles.filter fun x => !decide (x = k) }
structure LeaseM where
  h : Int
  shut : Int
  fresh : Bool
def takeM (m : PM) (aim : ByteArray) : PM × LeaseM × Int :=
  match backFrom m aim m.idles.length 0 with
  | some i => ({ m with idles := m.idles.take i ++ m.idles.drop (i + 1), all := mset m.all (m.idles.getD i 0) (aimOf m (m.idles.getD i 0), 2) }, ⟨m.idles.getD i 0, 0, false⟩, 0)
  | none =>
    if m.most ≤ m.all.length then
      match m.idles with
      | [] => (m, ⟨0, 0, false⟩, 6)
      | s :: _ => (dialM (shutM m s) aim, ⟨m.last + 1, s, true⟩, 0)
    else (dialM m aim, ⟨m.last + 1, 0, true⟩, 0)
structure PM.ok (m : PM) : Prop where
  idle : ∀ h ∈ m.idles, mget m.all h ≠ none
  keys : ∀ x ∈ m.all, x.1 ≤ m.last
  last : 0 ≤ m.last ∧ m.last ≤ 1000000
  few : m.all.length ≤ 1000000
def takeV (r : PM × LeaseM × Int) : Value := .tuple ⟨[.agg ⟨[.int .i64 r.2.1.h, .int .i64 r.2.1.shut, .bool r.2.1.fresh]⟩, .int .i64 r.2.2]⟩
theorem G.sb {C : Cx} {L : Env} {H K : List HP} {Q : Act → World → Prop} (p : Sb H K) (h : G C L K Q) : G C L H Q := G.conv (fun _ s => s.conv fun _ => p.to) h
theorem PoolP.shut1 {β : Base} {p : Nat} {m : PM} {H : List HP} {w : World} {mb : Nat} {q : Option Addr} {c : Nat} {ks : List (Int × Value)} (x : Hn) (l1 l2 : List Hn) (hx : (l1 ++ x :: l2).map forget = m.all) (hk : ks = keysOf (l1 ++ x :: l2))
    (s : Sat β (bl x.2.1 65 [.string x.2.2.1, .int .i64 x.2.2.2] :: HsP (l1 ++ l2) :: bl p 56 [.int .i64 m.most, .int .i64 m.last, .map (some mb), .slice q m.idles.length c] :: MapP ik mb ks :: SlP 1 (.slice q m.idles.length c) (m.idles.map ik) m.idles.length :: H) w) : Sat β (PoolP p m :: H) w := by
  subst hk
  exact PoolP.shut (q := q) (c := c) hx (s.conv fun h y => Rm.of (.t (.t .h)) (star_mono (star_assoc' y) (fun _ z => HsP_unmid x _ _ _ z) (fun _ z => z)))
theorem HsP_back {β : Base} {H : List HP} {w : World} (x : Hn) (l1 l2 : List Hn) (s : Sat β (bl x.2.1 65 [.string x.2.2.1, .int .i64 x.2.2.2] :: HsP (l1 ++ l2) :: H) w) : Sat β (HsP (l1 ++ x :: l2) :: H) w :=
  s.conv fun _ y => star_mono (star_assoc' y) (fun _ z => HsP_unmid x _ _ _ z) (fun _ z => z)
theorem mdel_mem {V : Type} : ∀ {l : List (Int × V)} {k : Int} {x : Int × V}, x ∈ mdel l k → x ∈ l
  | [], _, _, h => by simp [mdel] at h
  | y :: l, k, x, h => by
    simp only [mdel] at h
    split at h
    · exact List.mem_cons_of_mem _ h
    · rcases List.mem_cons.1 h with h | h
      · exact h ▸ List.mem_cons_self
      · exact List.mem_cons_of_mem _ (mdel_mem h)
theorem mset_fresh {V : Type} : ∀ (l : List (Int × V)) (k : Int) (v : V), (∀ x ∈ l, x.1 < k) → mset l k v = l ++ [(k, v)]
  | [], _, _, _ => rfl
  | x :: l, k, v, h => by
    have h1 := h x (by simp)
    have h2 : x.1 ≠ k := by omega
    simp only [mset, h2, if_false, List.cons_append]
    rw [mset_fresh l k v fun y hy => h y (by simp [hy])]
theorem PoolP.shutNew {β : Base} {p : Nat} {m : PM} {H : List HP} {w : World} {mb b : Nat} {q : Option Addr} {c : Nat} {aim : ByteArray} {hs : List Hn} (hx : hs.map forget = m.all) (hf : ∀ x ∈ m.all, x.1 ≤ m.last)
    (s : Sat β (bl b 65 [.string aim, .int .i64 1] :: HsP hs :: bl p 56 [.int .i64 m.most, .int .i64 (m.last + 1), .map (some mb), .slice q m.idles.length c] :: MapP ik mb (mset (keysOf hs) (m.last + 1) (.pointer (some ⟨b, 0, none⟩))) :: SlP 1 (.slice q m.idles.length c) (m.idles.map ik) m.idles.length :: H) w) : Sat β (PoolP p (dialM m aim) :: H) w := by
  have hf' : ∀ x ∈ hs, x.1 < m.last + 1 := fun x hm => by
    have := hf (forget x) (hx ▸ List.mem_map_of_mem hm)
    have e : (forget x).1 = x.1 := rfl
    omega
  refine PoolP.shut1 (m := dialM m aim) (q := q) (c := c) (mb := mb) (ks := mset (keysOf hs) (m.last + 1) (.pointer (some ⟨b, 0, none⟩))) (m.last + 1, b, aim, 1) hs [] ?_ ?_ (by rw [List.append_nil]; exact s)
  · show _ = mset m.all (m.last + 1) (aim, 1)
    rw [mset_fresh _ _ _ fun x h => by have := hf x h; omega, List.map_append, hx]; rfl
  · rw [mset_fresh _ _ _ fun x h => by
      obtain ⟨y, hy, rfl⟩ := List.mem_map.1 h
      exact hf' y hy]
    simp [keysOf]
theorem spec_24' {β : Base} {q : Option Addr} {c : Nat} (xs : List Int) (i j : Nat) (hij : i ≤ j) (hj : j ≤ xs.length) :
    FSpec Try.prog β 24 #[.slice q xs.length c, .int .i64 i, .int .i64 j] [SlP 1 (.slice q xs.length c) (xs.map ik) xs.length] (Ret (.slice q (xs.take i ++ xs.drop j).length c) [SlP 1 (.slice q (xs.take i ++ xs.drop j).length c) ((xs.take i ++ xs.drop j).map ik) (xs.take i ++ xs.drop j).length]) := by
  have h := spec_24 (β := β) (q := q) (c := c) xs i j hij hj rfl
  have e : (xs.take i ++ xs.drop j).length = xs.length - (j - i) := by simp; omega
  rwa [← e] at h
theorem back_none (m : PM) (aim : ByteArray) : ∀ d k, k + d = m.idles.length → (∀ j, k ≤ j → j < m.idles.length → aimOf m (m.idles.getD (m.idles.length - 1 - j) 0) ≠ aim) → backFrom m aim d k = none
  | 0, _, _, _ => rfl
  | d + 1, k, h, hn => by
    rw [backFrom, if_neg (hn k (Nat.le_refl _) (by omega))]
    exact back_none m aim d (k + 1) (by omega) (fun j h1 h2 => hn j (by omega) h2)
theorem back_hit (m : PM) (aim : ByteArray) (j : Nat) (hj : j < m.idles.length) (hh : aimOf m (m.idles.getD (m.idles.length - 1 - j) 0) = aim) : ∀ d k, k + d = m.idles.length → k ≤ j → (∀ i, k ≤ i → i < j → aimOf m (m.idles.getD (m.idles.length - 1 - i) 0) ≠ aim) → backFrom m aim d k = some (m.idles.length - 1 - j)
  | 0, k, h, h1, _ => by omega
  | d + 1, k, h, h1, hn => by
    rcases Nat.lt_or_eq_of_le h1 with h2 | h2
    · rw [backFrom, if_neg (hn k (Nat.le_refl _) h2)]
      exact back_hit m aim j hj hh d (k + 1) (by omega) h2 (fun i h3 h4 => hn i (by omega) h4)
    · subst h2
      rw [backFrom, if_pos hh]
theorem FSpec.pk {P : Program} {β : Base} {f : FuncId} {args : Array Value} {A B : List HP} {Post : Value → List HP → Prop} (p : Pk A B []) (h : FSpec P β f args B Post) : FSpec P β f args A Post := fun F w s =>
  h F w (s.conv fun _ x => stars_append' (star_mono (stars_append x) (fun _ y => by have := p.to y; simpa using this) (fun _ y => y)))
theorem spec_9 {β : Base} (p : Nat) (aim : ByteArray) (m : PM) (ok : m.ok) : FSpec Try.prog β 9 #[.pointer (some ⟨p, 0, none⟩), .string aim] [PoolP p m] (Ret (takeV (takeM m aim)) [PoolP p (takeM m aim).1]) := by
  refine FSpec.bodyM (args := [_, _]) Try.func9 rfl rfl fun F => ?_
  show T _ _ _ (PoolP p m :: F) _
  refine T.convx (fun w s => PoolP.open s) (fun x hx => ?_)
  obtain ⟨mb, hs, q, c⟩ := x
  change hs.map forget = m.all at hx
  show T _ _ _ (PoolIn p m mb hs q c ++ F) _
  refine T.have (fun w s => SlP.bound (s.rm (.t (.t (.t .h))))) (fun hb => ?_)
  obtain ⟨_, hb1, hb2⟩ := hb
  obtain ⟨hl0, hl1⟩ := ok.last
  refine T.seq ?_
  refine T.region ?_  -- region 0
  refine TL.ex (EX.box rfl (.one rfl)) ?_
  rintro _ _ ⟨b2, rfl, rfl⟩
  refine TL.ex (EX.box rfl (.one rfl)) ?_
  rintro _ _ ⟨b3, rfl, rfl⟩
  refine TL.ex (EX.alloc zr_39 .agg) ?_
  rintro _ _ ⟨b4, rfl, rfl⟩
  refine TL.ex (EX.alloc zr_40 (.one rfl)) ?_
  rintro _ _ ⟨b5, rfl, rfl⟩
  refine TL.nil ?_
  refine G.next ?_
  refine T.seq ?_
  refine T.seq ?_
  refine T.region ?_  -- region 1
  refine TL.s1 3 rfl (SIL.load Try.underlying23 rfl rfl) ?_
  first | refine TL.s0 (SIL.nilCheck rfl) ?_ | refine TL.s0 (SIL.nilCheckF rfl) ?_
  refine TL.s0 (SIL.fieldAddr fo_56_3 rfl) ?_
  refine TL.s1 4 rfl (SIL.load Try.underlying54 rfl rfl) ?_
  refine TL.ex (EX.fn cf_23 (.c rfl .n) spec_23 .n) ?_
  rintro _ _ ⟨v13, Hs, ⟨bs, rfl, rfl⟩, rfl, rfl⟩
  refine TL.sb (K := bl bs 54 [.slice q m.idles.length c] :: bl p 56 [.int .i64 m.most, .int .i64 m.last, .map (some mb), .slice q m.idles.length c] :: MapP ik mb (keysOf hs) :: HsP hs :: SlP 1 (.slice q m.idles.length c) (m.idles.map ik) m.idles.length :: bl b2 23 [.pointer (some ⟨p, 0, none⟩)] :: bl b3 9 [.string aim] :: bl b4 39 [.int .i64 0, .int .i64 0, .bool false] :: bl b5 40 [.int .i64 0] :: F) (.c .h (.c (.t (.t (.t (.t .h)))) (.c (.t (.t (.t (.t .h)))) (.c (.t (.t (.t (.t .h)))) (.c (.t (.t (.t (.t .h)))) (.c (.t (.t (.t .h))) (.c (.t (.t .h)) (.c (.t .h) (.c .h (.z .z)))))))))) ?_
  refine TL.nil ?_
  refine G.next ?_
  refine T.block ?_
  refine T.range' (gf := 29) (us := []) (ws := [.pointer (some ⟨bs, 0, none⟩)]) (Pre := [bl bs 54 [.slice q m.idles.length c], bl p 56 [.int .i64 m.most, .int .i64 m.last, .map (some mb), .slice q m.idles.length c], MapP ik mb (keysOf hs), HsP hs, SlP 1 (.slice q m.idles.length c) (m.idles.map ik) m.idles.length, bl b2 23 [.pointer (some ⟨p, 0, none⟩)], bl b3 9 [.string aim], bl b4 39 [.int .i64 0, .int .i64 0, .bool false], bl b5 40 [.int .i64 0]]) (F := F)
    (PostIt := fun rec D Hs => (Hs = bl bs 54 [.slice q m.idles.length c] :: rec .ready none :: SlP 1 (.slice q m.idles.length c) (m.idles.map ik) m.idles.length :: [blk D (.deferred (some [])), bl p 56 [.int .i64 m.most, .int .i64 m.last, .map (some mb), .slice q m.idles.length c], MapP ik mb (keysOf hs), HsP hs, bl b2 23 [.pointer (some ⟨p, 0, none⟩)], bl b3 9 [.string aim], bl b4 39 [.int .i64 0, .int .i64 0, .bool false], bl b5 40 [.int .i64 0]] ∧ ∀ k, k < m.idles.length → aimOf m (m.idles.getD (m.idles.length - 1 - k) 0) ≠ aim) ∨
      (∃ Hx, Hx = [rec .done (some .ret), blk D (.deferred (some [])), PoolP p (takeM m aim).1, bl b2 23 [.pointer (some ⟨p, 0, none⟩)], bl b3 9 [.string aim], bl b4 39 [.int .i64 (takeM m aim).2.1.h, .int .i64 (takeM m aim).2.1.shut, .bool (takeM m aim).2.1.fresh], bl b5 40 [.int .i64 (takeM m aim).2.2]] ∧ Hs = bl bs 54 [.slice q m.idles.length c] :: Hx)) rfl cf_29 (by (try dsimp only [List.cons_append, List.nil_append]); repeat (first | with_reducible exact Pk.n | (apply Pk.c; focus ((repeat (first | with_reducible exact Rm.h | apply Rm.t)); done)))) (fun A l D fn k => ?_) (fun rec D Hs hP => ?_)
  · refine FSpec.pk ?PK (spec_29 m.idles _ _ (fun k => aimOf m (m.idles.getD (m.idles.length - 1 - k) 0) ≠ aim) (fun Hx => Hx = [_, blk D (.deferred (some [])), PoolP p (takeM m aim).1, bl b2 23 [.pointer (some ⟨p, 0, none⟩)], bl b3 9 [.string aim], bl b4 39 [.int .i64 (takeM m aim).2.1.h, .int .i64 (takeM m aim).2.1.shut, .bool (takeM m aim).2.1.fresh], bl b5 40 [.int .i64 (takeM m aim).2.2]]) (fun k0 x hk hφ hxk => ?_))
    case PK => (try dsimp only [List.cons_append, List.nil_append]); repeat (first | with_reducible exact Pk.n | (apply Pk.c; focus ((repeat (first | with_reducible exact Rm.h | apply Rm.t)); done)))
    obtain ⟨i, hi⟩ : ∃ i, i = m.idles.length - 1 - k0 := ⟨_, rfl⟩
    rw [← hi] at hxk
    have hil : i < m.idles.length := by omega
    have hxi : m.idles.getD i 0 = x := by rw [List.getD_eq_getElem?_getD, hxk]; rfl
    rw [show (m.idles.length : Int) - 1 - k0 = (i : Nat) by omega]
    rcases hs_get x hs with ⟨hg, hg'⟩ | ⟨l1, l2, b, aim0, st, rfl, hg, hg', hset, hdk, hdf⟩
    · exact absurd (hx ▸ hg') (ok.idle x (List.mem_of_getElem? hxk))
    have hax : aimOf m x = aim0 := by simp only [aimOf, ← hx, hg']
    refine YFn.mk rfl rfl k (fun F' => ?_)
    refine T.sb (K := lrec l fn A #[14, 15] _ _ D .ready none :: bl p 56 [.int .i64 m.most, .int .i64 m.last, .map (some mb), .slice q m.idles.length c] :: MapP ik mb (keysOf (l1 ++ (x, b, aim0, st) :: l2)) :: HsP (l1 ++ (x, b, aim0, st) :: l2) :: SlP 1 (.slice q m.idles.length c) (m.idles.map ik) m.idles.length :: blk D (.deferred (some [])) :: bl b2 23 [.pointer (some ⟨p, 0, none⟩)] :: bl b3 9 [.string aim] :: bl b4 39 [.int .i64 0, .int .i64 0, .bool false] :: bl b5 40 [.int .i64 0] :: F') (by (try dsimp only [List.cons_append, List.nil_append]); repeat (first | with_reducible exact Sb.z Tl.z | (apply Sb.c; focus ((repeat (first | with_reducible exact Rm.h | apply Rm.t)); done)) | exact Sb.z (by (repeat (first | exact Tl.z | apply Tl.s))))) ?_
    refine T.conv (fun w s => ((s.rm (.t (.t (.t .h)))).head fun h x1 => HsP_mid (x, b, aim0, st) l1 l2 h x1).head_star) ?_
    refine T.seq ?_
    refine T.region ?_  -- region 2
    refine TL.s0 (SIL.assign rfl) ?_
    refine TL.nil ?_
    refine G.next ?_
    refine T.region ?_  -- region 3
    refine TL.s0 (SIL.assign rfl) ?_
    refine TL.nil ?_
    refine G.beginRound (by repeat (first | with_reducible exact Sw.h | apply Sw.t)) ?_
    refine T.block ?_
    refine T.seq ?_
    refine T.draw [(0, true), (1, true), (2, true), (3, true), (4, true), (5, true), (6, true), (7, true), (8, true), (9, true), (10, true)] (by kernel_rfl) (by kernel_rfl) ?_  -- region 4 DRAWS
    refine DL.s1 7 rfl rfl (SIL.load Try.underlying23 rfl rfl) ?_
    first | refine DL.s0 rfl (SIL.nilCheck rfl) ?_ | refine DL.s0 rfl (SIL.nilCheckF rfl) ?_
    refine DL.s0 rfl (SIL.fieldAddr fo_56_2 rfl) ?_
    refine DL.s1 3 rfl rfl (SIL.load Try.underlying53 rfl rfl) ?_
    refine DL.s0 rfl (SIL.move rfl) ?_
    refine DL.s1 4 rfl rfl (SIL.lookupS Try.underlying53 zr_66 rfl rfl (by first | assumption | rfl)) ?_
    first | refine DL.s0 rfl (SIL.nilCheck rfl) ?_ | refine DL.s0 rfl (SIL.nilCheckF rfl) ?_
    refine DL.s0 rfl (SIL.fieldAddr fo_65_0 rfl) ?_
    refine DL.s1 0 rfl rfl (SIL.load Try.underlying9 rfl rfl) ?_
    refine DL.s1 8 rfl rfl (SIL.load Try.underlying9 rfl rfl) ?_
    refine DL.s0 rfl (SIL.seql rfl rfl) ?_
    refine DL.nil ?_
    refine G.next ?_
    refine T.cond rfl (fun h => ?_) (fun h => ?_)  -- cond 1
    · simp only [decide_eq_true_eq, Bool.not_eq_true', decide_eq_false_iff_not] at h
      refine T.seq ?_
      refine T.draw [(0, true), (1, true), (2, true), (3, true), (4, true), (5, true), (6, true), (7, true), (8, false), (9, true), (10, true), (11, false)] (by kernel_rfl) (by kernel_rfl) ?_  -- region 5 DRAWS
      refine DL.s1 7 rfl rfl (SIL.load Try.underlying23 rfl rfl) ?_
      refine DL.s1 7 rfl rfl (SIL.load Try.underlying23 rfl rfl) ?_
      first | refine DL.s0 rfl (SIL.nilCheck rfl) ?_ | refine DL.s0 rfl (SIL.nilCheckF rfl) ?_
      refine DL.s0 rfl (SIL.fieldAddr fo_56_3 rfl) ?_
      refine DL.s1 3 rfl rfl (SIL.load Try.underlying54 rfl rfl) ?_
      refine DL.s0 rfl (SIL.move rfl) ?_
      refine DL.s0 rfl (SIL.move rfl) ?_
      refine DL.s0 rfl (SIL.add rfl rfl (by unfold I64; omega)) ?_
      apply DL.ex rfl (EX.fn cf_24 (.c rfl (.c rfl (.c rfl .n))) (spec_24' (q := q) (c := c) m.idles i (i + 1) (by omega) (by omega)) (by (try dsimp only [List.cons_append, List.nil_append]); repeat (first | with_reducible exact Pk.n | (apply Pk.c; focus ((repeat (first | with_reducible exact Rm.h | apply Rm.t)); done))))) (hg := rfl)
      rintro _ _ ⟨v35, Hs, ⟨rfl, rfl⟩, rfl, rfl⟩
      refine ⟨(.d (by kernel_rfl) (.d (by kernel_rfl) (.k (by repeat (first | exact .h | refine .t ?_)) (by kernel_rfl) .n))), ?_⟩
      first | refine DL.s0 rfl (SIL.nilCheck rfl) ?_ | refine DL.s0 rfl (SIL.nilCheckF rfl) ?_
      refine DL.s0 rfl (SIL.fieldAddr fo_56_3 rfl) ?_
      refine DL.e1 rfl (EX.store1 (.t (.t (.t (.t .h)))) rfl rfl sz_54 (.t (.t (.t .h)))) (.d (by kernel_rfl) .n) ?_
      refine DL.nil ?_
      refine G.next ?_
      refine T.seq ?_
      refine T.region ?_  -- region 6
      refine TL.s1 7 rfl (SIL.load Try.underlying23 rfl rfl) ?_
      first | refine TL.s0 (SIL.nilCheck rfl) ?_ | refine TL.s0 (SIL.nilCheckF rfl) ?_
      refine TL.s0 (SIL.fieldAddr fo_56_2 rfl) ?_
      refine TL.s1 4 rfl (SIL.load Try.underlying53 rfl rfl) ?_
      refine TL.s0 (SIL.move rfl) ?_
      refine TL.s1 5 rfl (SIL.lookupS Try.underlying53 zr_66 rfl rfl (by first | assumption | rfl)) ?_
      first | refine TL.s0 (SIL.nilCheck rfl) ?_ | refine TL.s0 (SIL.nilCheckF rfl) ?_
      refine TL.s0 (SIL.fieldAddr fo_65_1 rfl) ?_
      refine TL.e1 (EX.store1 (.t .h) rfl rfl sz_3 (.t .h)) ?_
      refine TL.nil ?_
      refine G.next ?_
      refine T.seq ?_
      refine T.region ?_  -- region 7
      refine TL.s0 (SIL.move rfl) ?_
      refine TL.s0 (SIL.bld bt_39 (.c rfl .n) (.c rfl rfl rfl rfl (.c .h .n) .n)) ?_
      refine TL.e1 (EX.store (.t (.t (.t (.t (.t (.t (.t (.t (.t .h))))))))) rfl rfl rfl sz_39 rfl (.c .h (.c (.t .h) (.c (.t (.t .h)) .n))) rfl (.inl (Nat.zero_le _))) ?_
      refine TL.e1 (EX.store1 (.t (.t (.t (.t (.t (.t (.t (.t (.t (.t .h)))))))))) rfl rfl sz_40 .h) ?_
      refine TL.nil ?_
      refine G.next ?_
      refine T.ret ?_
      refine G.retBlock ?_
      have ht : takeM m aim = ({ m with idles := m.idles.take i ++ m.idles.drop (i + 1), all := mset m.all x (aim0, 2) }, ⟨x, 0, false⟩, 0) := by
        have h1 := back_hit m aim k0 hk (by rw [← hi, hxi, hax]; exact h) m.idles.length 0 (by omega) (Nat.zero_le _) (fun j _ hj => hφ j hj)
        rw [← hi] at h1
        simp only [takeM, h1, hxi, hax]
      rw [ht]
      refine G.sb (K := bl b 65 [.string aim0, .int .i64 2] :: HsP (l1 ++ l2) :: bl p 56 [.int .i64 m.most, .int .i64 m.last, .map (some mb), .slice q (m.idles.take i ++ m.idles.drop (i + 1)).length c] :: MapP ik mb (keysOf (l1 ++ (x, b, aim0, st) :: l2)) :: SlP 1 (.slice q (m.idles.take i ++ m.idles.drop (i + 1)).length c) ((m.idles.take i ++ m.idles.drop (i + 1)).map ik) (m.idles.take i ++ m.idles.drop (i + 1)).length :: lrec l fn A #[14, 15] _ _ D .busy none :: blk D (.deferred (some [])) :: bl b2 23 [.pointer (some ⟨p, 0, none⟩)] :: bl b3 9 [.string aim] :: bl b4 39 [ik x, .int .i64 0, .bool false] :: bl b5 40 [.int .i64 0] :: F') (by (try dsimp only [List.cons_append, List.nil_append]); repeat (first | with_reducible exact Sb.z Tl.z | (apply Sb.c; focus ((repeat (first | with_reducible exact Rm.h | apply Rm.t)); done)) | exact Sb.z (by (repeat (first | exact Tl.z | apply Tl.s))))) ?_
      refine G.conv (fun w s => PoolP.shut1 (m := { m with idles := m.idles.take i ++ m.idles.drop (i + 1), all := mset m.all x (aim0, 2) }) (x, b, aim0, 2) l1 l2 ((hset (aim0, 2)).trans (by rw [hx])) (by simp [keysOf]) s) ?_
      exact G.roundRet (Hs := [_, _, _, _, _, _]) (by (repeat (first | with_reducible exact Rm.h | apply Rm.t))) (.inr ⟨rfl, rfl⟩) (by (try dsimp only [List.cons_append, List.nil_append]); repeat (first | with_reducible exact Pk.n | (apply Pk.c; focus ((repeat (first | with_reducible exact Rm.h | apply Rm.t)); done)))) (by (repeat (first | exact Tl.z | apply Tl.s)))
    · simp only [decide_eq_false_iff_not, Bool.not_eq_false', decide_eq_true_eq] at h
      refine T.skip ?_
      refine G.inBlock ?_
      refine G.conv (fun w s => HsP_back (x, b, aim0, st) l1 l2 s) ?_
      exact G.roundOn (Hs := [_, _, _, _, _, _, _, _, _]) (by (repeat (first | with_reducible exact Rm.h | apply Rm.t))) (.inl ⟨rfl, rfl, by rw [← hi, hxi, hax]; exact h⟩) (by (try dsimp only [List.cons_append, List.nil_append]); repeat (first | with_reducible exact Pk.n | (apply Pk.c; focus ((repeat (first | with_reducible exact Rm.h | apply Rm.t)); done)))) (by (repeat (first | exact Tl.z | apply Tl.s)))
  · rcases hP with ⟨rfl, hall⟩ | ⟨_, rfl, rfl⟩
    · refine ⟨.ready, none, _, by simp, .t .h, ?_⟩
      have hbn : backFrom m aim m.idles.length 0 = none := back_none m aim _ 0 (by omega) fun j _ hj => hall j hj
      have hkl : (keysOf hs).length = m.all.length := by rw [← hx]; simp [keysOf]
      refine G.inBlock ?_
      refine G.next ?_
      refine T.seq ?_
      refine T.region ?_  -- region 8
      refine TL.ex (EX.alloc zr_39 .agg) ?_
      rintro _ _ ⟨b8, rfl, rfl⟩
      refine TL.nil ?_
      refine G.next ?_
      refine T.seq ?_
      refine T.seq ?_
      refine T.draw [(0, true), (1, true), (2, true), (3, true), (4, true), (5, true), (6, true), (7, true), (8, true), (9, true)] (by kernel_rfl) (by kernel_rfl) ?_  -- region 9 DRAWS
      refine DL.s1 7 rfl rfl (SIL.load Try.underlying23 rfl rfl) ?_
      first | refine DL.s0 rfl (SIL.nilCheck rfl) ?_ | refine DL.s0 rfl (SIL.nilCheckF rfl) ?_
      refine DL.s0 rfl (SIL.fieldAddr fo_56_2 rfl) ?_
      refine DL.s1 4 rfl rfl (SIL.load Try.underlying53 rfl rfl) ?_
      refine DL.s1 5 rfl rfl (SIL.lenMapP Try.underlying53 rfl) ?_
      refine DL.s1 7 rfl rfl (SIL.load Try.underlying23 rfl rfl) ?_
      first | refine DL.s0 rfl (SIL.nilCheck rfl) ?_ | refine DL.s0 rfl (SIL.nilCheckF rfl) ?_
      refine DL.s0 rfl (SIL.fieldAddr fo_56_0 rfl) ?_
      refine DL.s1 4 rfl rfl (SIL.load Try.underlying3 rfl rfl) ?_
      refine DL.s0 rfl (SIL.geq rfl rfl) ?_
      refine DL.nil ?_
      refine G.next ?_
      refine T.cond rfl (fun h => ?_) (fun h => ?_)  -- cond 2
      · simp only [decide_eq_true_eq, Bool.not_eq_true', decide_eq_false_iff_not] at h
        rw [hkl] at h
        refine T.seq ?_
        refine T.seq ?_
        refine T.region ?_  -- region 10
        refine TL.s1 7 rfl (SIL.load Try.underlying23 rfl rfl) ?_
        first | refine TL.s0 (SIL.nilCheck rfl) ?_ | refine TL.s0 (SIL.nilCheckF rfl) ?_
        refine TL.s0 (SIL.fieldAddr fo_56_3 rfl) ?_
        refine TL.s1 4 rfl (SIL.load Try.underlying54 rfl rfl) ?_
        refine TL.s0 (SIL.lenSlice Try.underlying54 rfl) ?_
        refine TL.s0 (SIL.eql rfl rfl) ?_
        refine TL.nil ?_
        refine G.next ?_
        refine T.cond rfl (fun h => ?_) (fun h => ?_)  -- cond 3
        · simp only [decide_eq_true_eq, Bool.not_eq_true', decide_eq_false_iff_not] at h
          have hnil : m.idles = [] := List.length_eq_zero_iff.1 (by omega)
          have ht : takeM m aim = (m, ⟨0, 0, false⟩, 6) := by
            simp only [takeM, hbn]
            rw [if_pos (by omega)]
            simp [hnil]
          rw [ht]
          refine T.seq ?_
          refine T.region ?_  -- region 11
          refine TL.s0 (SIL.bld bt_39 .n .n) ?_
          refine TL.e1 (EX.store (.t (.t (.t (.t (.t (.t (.t (.t (.t .h))))))))) rfl rfl rfl sz_39 rfl (.c .h (.c (.t .h) (.c (.t (.t .h)) .n))) rfl (.inl (Nat.zero_le _))) ?_
          refine TL.e1 (EX.store1 (.t (.t (.t (.t (.t (.t (.t (.t (.t (.t .h)))))))))) rfl rfl sz_40 .h) ?_
          refine TL.nil ?_
          refine G.next ?_
          refine T.ret ?_
          refine G.retThen ?_
          refine G.retThen ?_
          refine G.sb (K := bl p 56 [.int .i64 m.most, .int .i64 m.last, .map (some mb), .slice q m.idles.length c] :: MapP ik mb (keysOf hs) :: HsP hs :: SlP 1 (.slice q m.idles.length c) (m.idles.map ik) m.idles.length :: bl b4 39 [.int .i64 0, .int .i64 0, .bool false] :: bl b5 40 [.int .i64 6] :: blk D (.deferred (some [])) :: F) (by (try dsimp only [List.cons_append, List.nil_append]); repeat (first | with_reducible exact Sb.z Tl.z | (apply Sb.c; focus ((repeat (first | with_reducible exact Rm.h | apply Rm.t)); done)) | exact Sb.z (by (repeat (first | exact Tl.z | apply Tl.s))))) ?_
          refine G.conv (fun w s => PoolP.shut (m := m) hx s) ?_
          exact G.retM1 (by (repeat (first | with_reducible exact Rm.h | apply Rm.t))) rfl (.c (resV.cellA 1 rfl rfl Try.underlying39 sz_39 rfl) (.c (resV.cell 2 rfl rfl Try.underlying40 rfl) .n)) ⟨rfl, rfl⟩ (.c .h .n) (by (repeat (first | exact Tl.z | apply Tl.s)))
        · simp only [decide_eq_false_iff_not, Bool.not_eq_false', decide_eq_true_eq] at h
          obtain ⟨s0, rest, hm⟩ : ∃ s0 rest, m.idles = s0 :: rest := by
            cases e : m.idles with
            | nil => rw [e] at h; exact absurd rfl h
            | cons a r => exact ⟨a, r, rfl⟩
          have ht : takeM m aim = (dialM (shutM m s0) aim, ⟨m.last + 1, s0, true⟩, 0) := by
            simp only [takeM, hbn]
            rw [if_pos (by omega)]
            simp [hm, shutM]
          rw [ht]
          have hl' : (shutM m s0).last = m.last := rfl
          have hkeys : ∀ x ∈ (shutM m s0).all, x.1 ≤ (shutM m s0).last := fun x hx0 => ok.keys x (mdel_mem hx0)
          refine T.skip ?_
          refine G.next ?_
          refine T.seq ?_
          refine T.region ?_  -- region 12
          refine TL.s1 7 rfl (SIL.load Try.underlying23 rfl rfl) ?_
          first | refine TL.s0 (SIL.nilCheck rfl) ?_ | refine TL.s0 (SIL.nilCheckF rfl) ?_
          refine TL.s0 (SIL.fieldAddr fo_56_3 rfl) ?_
          refine TL.s1 4 rfl (SIL.load Try.underlying54 rfl rfl) ?_
          refine TL.sb (K := SlP 1 (.slice q m.idles.length c) (m.idles.map ik) m.idles.length :: bl p 56 [.int .i64 m.most, .int .i64 m.last, .map (some mb), .slice q m.idles.length c] :: MapP ik mb (keysOf hs) :: HsP hs :: bl b8 39 [.int .i64 0, .int .i64 0, .bool false] :: bl bs 54 [.slice q m.idles.length c] :: blk D (.deferred (some [])) :: bl b2 23 [.pointer (some ⟨p, 0, none⟩)] :: bl b3 9 [.string aim] :: bl b4 39 [.int .i64 0, .int .i64 0, .bool false] :: bl b5 40 [.int .i64 0] :: F) (by (try dsimp only [List.cons_append, List.nil_append]); repeat (first | with_reducible exact Sb.z Tl.z | (apply Sb.c; focus ((repeat (first | with_reducible exact Rm.h | apply Rm.t)); done)) | exact Sb.z (by (repeat (first | exact Tl.z | apply Tl.s))))) ?_
          refine TL.slP (fun _ _ _ h0 => by simp [hm] at h0) (fun b pre sp T' fr h1 h2 h3 h4 h5 h6 => ?_)
          refine TL.s0 (SIL.indexAddr (j := 0) (b := b) (off := pre.length) (n := m.idles.length) (m := c) Try.underlying54 sz_3 (by rw [← h1]; rfl) rfl (by rfl) (by omega)) ?_
          refine TL.s1 0 rfl (SIL.load (v := ik s0) Try.underlying3 rfl (gt_sl (j := 0) (by simp [hm]) (by simp))) ?_
          refine TL.conv (K := SlP 1 (.slice q m.idles.length c) (m.idles.map ik) m.idles.length :: bl p 56 [.int .i64 m.most, .int .i64 m.last, .map (some mb), .slice q m.idles.length c] :: MapP ik mb (keysOf hs) :: HsP hs :: bl b8 39 [.int .i64 0, .int .i64 0, .bool false] :: bl bs 54 [.slice q m.idles.length c] :: blk D (.deferred (some [])) :: bl b2 23 [.pointer (some ⟨p, 0, none⟩)] :: bl b3 9 [.string aim] :: bl b4 39 [.int .i64 0, .int .i64 0, .bool false] :: bl b5 40 [.int .i64 0] :: F) (fun w s => by
            have h9 := sat_of_bl h2 h3 h4 h5 h6 s
            rw [← h1] at h9
            exact h9) ?_
          refine TL.s0 (SIL.fieldAddr fo_39_1 rfl) ?_
          refine TL.e1 (EX.store1 (.t (.t (.t (.t .h)))) rfl rfl sz_3 (.t .h)) ?_
          refine TL.nil ?_
          refine G.next ?_
          refine T.sb (K := bl p 56 [.int .i64 m.most, .int .i64 m.last, .map (some mb), .slice q m.idles.length c] :: MapP ik mb (keysOf hs) :: HsP hs :: SlP 1 (.slice q m.idles.length c) (m.idles.map ik) m.idles.length :: bl b8 39 [.int .i64 0, ik s0, .bool false] :: bl bs 54 [.slice q m.idles.length c] :: blk D (.deferred (some [])) :: bl b2 23 [.pointer (some ⟨p, 0, none⟩)] :: bl b3 9 [.string aim] :: bl b4 39 [.int .i64 0, .int .i64 0, .bool false] :: bl b5 40 [.int .i64 0] :: F) (by (try dsimp only [List.cons_append, List.nil_append]); repeat (first | with_reducible exact Sb.z Tl.z | (apply Sb.c; focus ((repeat (first | with_reducible exact Rm.h | apply Rm.t)); done)) | exact Sb.z (by (repeat (first | exact Tl.z | apply Tl.s))))) ?_
          refine T.conv (fun w s => PoolP.shut (m := m) hx s) ?_
          
          refine T.region ?_  -- region 13
          refine TL.s1 4 rfl (SIL.load Try.underlying23 rfl rfl) ?_
          refine TL.s0 (SIL.fieldAddr fo_39_1 rfl) ?_
          refine TL.s1 1 rfl (SIL.load Try.underlying3 rfl rfl) ?_
          refine TL.ex (EX.fn cf_15 (.c rfl (.c rfl .n)) (spec_15 p s0 m) (.c .h .n)) ?_
          rintro _ _ ⟨v75, Hs, ⟨rfl, rfl⟩, rfl, rfl⟩
          refine TL.nil ?_
          refine G.next ?_
          refine T.convx (fun w s => PoolP.open (m := shutM m s0) s) (fun x hx' => ?_)
          obtain ⟨mb', hs', q', c'⟩ := x
          change hs'.map forget = (shutM m s0).all at hx'
          show T _ _ _ (PoolIn p (shutM m s0) mb' hs' q' c' ++ (bl b8 39 [.int .i64 0, ik s0, .bool false] :: bl bs 54 [.slice q m.idles.length c] :: blk D (.deferred (some [])) :: bl b2 23 [.pointer (some ⟨p, 0, none⟩)] :: bl b3 9 [.string aim] :: bl b4 39 [.int .i64 0, .int .i64 0, .bool false] :: bl b5 40 [.int .i64 0] :: F)) _
          refine T.seq ?_
          refine T.region ?_  -- region 14
          refine TL.s1 7 rfl (SIL.load Try.underlying23 rfl rfl) ?_
          first | refine TL.s0 (SIL.nilCheck rfl) ?_ | refine TL.s0 (SIL.nilCheckF rfl) ?_
          refine TL.s0 (SIL.fieldAddr fo_56_1 rfl) ?_
          refine TL.s1 0 rfl (SIL.load Try.underlying3 rfl rfl) ?_
          refine TL.s0 (SIL.add rfl rfl (by unfold I64; omega)) ?_
          first | refine TL.s0 (SIL.nilCheck rfl) ?_ | refine TL.s0 (SIL.nilCheckF rfl) ?_
          refine TL.s0 (SIL.fieldAddr fo_56_1 rfl) ?_
          refine TL.e1 (EX.store1 .h rfl rfl sz_3 (.t .h)) ?_
          refine TL.nil ?_
          refine G.next ?_
          refine T.seq ?_
          refine T.draw [(0, true), (1, true), (2, true), (3, true), (4, true), (5, true), (6, true), (7, true), (8, true), (9, true), (10, false), (11, false)] (by kernel_rfl) (by kernel_rfl) ?_  -- region 15 DRAWS
          refine DL.s1 7 rfl rfl (SIL.load Try.underlying23 rfl rfl) ?_
          first | refine DL.s0 rfl (SIL.nilCheck rfl) ?_ | refine DL.s0 rfl (SIL.nilCheckF rfl) ?_
          refine DL.s0 rfl (SIL.fieldAddr fo_56_2 rfl) ?_
          refine DL.s1 0 rfl rfl (SIL.load Try.underlying53 rfl rfl) ?_
          refine DL.s1 7 rfl rfl (SIL.load Try.underlying23 rfl rfl) ?_
          first | refine DL.s0 rfl (SIL.nilCheck rfl) ?_ | refine DL.s0 rfl (SIL.nilCheckF rfl) ?_
          refine DL.s0 rfl (SIL.fieldAddr fo_56_1 rfl) ?_
          refine DL.s1 0 rfl rfl (SIL.load Try.underlying3 rfl rfl) ?_
          refine DL.s1 8 rfl rfl (SIL.load Try.underlying9 rfl rfl) ?_
          refine DL.s0 rfl (SIL.bld bt_65 (.c rfl (.c rfl .n)) (.c rfl rfl rfl rfl (.c .h .n) (.c rfl rfl rfl rfl (.c (.t .h) .n) .n))) ?_
          apply DL.ex rfl (EX.box rfl .agg) (hg := rfl)
          rintro _ _ ⟨b93, rfl, rfl⟩
          refine ⟨(.d (by kernel_rfl) (.k (by repeat (first | exact .h | refine .t ?_)) (by kernel_rfl) (.k (by repeat (first | exact .h | refine .t ?_)) (by kernel_rfl) (.k (by repeat (first | exact .h | refine .t ?_)) (by kernel_rfl) (.k (by repeat (first | exact .h | refine .t ?_)) (by kernel_rfl) .n))))), ?_⟩
          refine DL.e1 rfl (EX.mapUpdate (.t (.t .h)) Try.underlying53 rfl rfl rfl) (.d (by kernel_rfl) (.d (by kernel_rfl) (.d (by kernel_rfl) (.d (by kernel_rfl) .n)))) ?_
          refine DL.nil ?_
          refine G.next ?_
          refine T.seq ?_
          refine T.region ?_  -- region 16
          refine TL.s1 8 rfl (SIL.load Try.underlying23 rfl rfl) ?_
          first | refine TL.s0 (SIL.nilCheck rfl) ?_ | refine TL.s0 (SIL.nilCheckF rfl) ?_
          refine TL.s0 (SIL.fieldAddr fo_56_1 rfl) ?_
          refine TL.s1 1 rfl (SIL.load Try.underlying3 rfl rfl) ?_
          refine TL.s0 (SIL.fieldAddr fo_39_0 rfl) ?_
          refine TL.e1 (EX.store1 (.t (.t (.t (.t (.t .h))))) rfl rfl sz_3 .h) ?_
          refine TL.s0 (SIL.fieldAddr fo_39_2 rfl) ?_
          refine TL.e1 (EX.store1 (.t (.t (.t (.t (.t .h))))) rfl rfl sz_4 (.t (.t .h))) ?_
          refine TL.nil ?_
          refine G.next ?_
          refine T.seq ?_
          refine T.region ?_  -- region 17
          refine TL.s1 5 rfl (SIL.loadA Try.underlying39 sz_39 rfl rfl) ?_
          refine TL.e1 (EX.store (.t (.t (.t (.t (.t (.t (.t (.t (.t (.t .h)))))))))) rfl rfl rfl sz_39 rfl (.c .h (.c (.t .h) (.c (.t (.t .h)) .n))) rfl (.inl (Nat.zero_le _))) ?_
          refine TL.e1 (EX.store1 (.t (.t (.t (.t (.t (.t (.t (.t (.t (.t (.t .h))))))))))) rfl rfl sz_40 .h) ?_
          refine TL.nil ?_
          refine G.next ?_
          refine T.ret ?_
          refine G.sb (K := bl b93 65 [.string aim, .int .i64 1] :: HsP hs' :: bl p 56 [.int .i64 (shutM m s0).most, .int .i64 ((shutM m s0).last + 1), .map (some mb'), .slice q' (shutM m s0).idles.length c'] :: MapP ik mb' (mset (keysOf hs') ((shutM m s0).last + 1) (.pointer (some ⟨b93, 0, none⟩))) :: SlP 1 (.slice q' (shutM m s0).idles.length c') ((shutM m s0).idles.map ik) (shutM m s0).idles.length :: bl b4 39 [.int .i64 ((shutM m s0).last + 1), .int .i64 s0, .bool true] :: bl b5 40 [.int .i64 0] :: blk D (.deferred (some [])) :: F) (by (try dsimp only [List.cons_append, List.nil_append]); repeat (first | with_reducible exact Sb.z Tl.z | (apply Sb.c; focus ((repeat (first | with_reducible exact Rm.h | apply Rm.t)); done)) | exact Sb.z (by (repeat (first | exact Tl.z | apply Tl.s))))) ?_
          refine G.conv (fun w s => PoolP.shutNew (m := (shutM m s0)) hx' hkeys s) ?_
          exact G.retM1 (by (repeat (first | with_reducible exact Rm.h | apply Rm.t))) rfl (.c (resV.cellA 1 rfl rfl Try.underlying39 sz_39 rfl) (.c (resV.cell 2 rfl rfl Try.underlying40 rfl) .n)) ⟨rfl, rfl⟩ (.c .h .n) (by (repeat (first | exact Tl.z | apply Tl.s)))
      · simp only [decide_eq_false_iff_not, Bool.not_eq_false', decide_eq_true_eq] at h
        rw [hkl] at h
        have ht : takeM m aim = (dialM m aim, ⟨m.last + 1, 0, true⟩, 0) := by
          simp only [takeM, hbn]
          rw [if_neg (by omega)]
        rw [ht]
        refine T.skip ?_
        refine G.next ?_
        refine T.seq ?_
        refine T.region ?_  -- region 14
        refine TL.s1 7 rfl (SIL.load Try.underlying23 rfl rfl) ?_
        first | refine TL.s0 (SIL.nilCheck rfl) ?_ | refine TL.s0 (SIL.nilCheckF rfl) ?_
        refine TL.s0 (SIL.fieldAddr fo_56_1 rfl) ?_
        refine TL.s1 4 rfl (SIL.load Try.underlying3 rfl rfl) ?_
        refine TL.s0 (SIL.add rfl rfl (by unfold I64; omega)) ?_
        first | refine TL.s0 (SIL.nilCheck rfl) ?_ | refine TL.s0 (SIL.nilCheckF rfl) ?_
        refine TL.s0 (SIL.fieldAddr fo_56_1 rfl) ?_
        refine TL.e1 (EX.store1 (.t (.t (.t (.t .h)))) rfl rfl sz_3 (.t .h)) ?_
        refine TL.nil ?_
        refine G.next ?_
        refine T.seq ?_
        refine T.draw [(0, true), (1, true), (2, true), (3, true), (4, true), (5, true), (6, true), (7, true), (8, true), (9, true), (10, false), (11, false)] (by kernel_rfl) (by kernel_rfl) ?_  -- region 15 DRAWS
        refine DL.s1 7 rfl rfl (SIL.load Try.underlying23 rfl rfl) ?_
        first | refine DL.s0 rfl (SIL.nilCheck rfl) ?_ | refine DL.s0 rfl (SIL.nilCheckF rfl) ?_
        refine DL.s0 rfl (SIL.fieldAddr fo_56_2 rfl) ?_
        refine DL.s1 4 rfl rfl (SIL.load Try.underlying53 rfl rfl) ?_
        refine DL.s1 7 rfl rfl (SIL.load Try.underlying23 rfl rfl) ?_
        first | refine DL.s0 rfl (SIL.nilCheck rfl) ?_ | refine DL.s0 rfl (SIL.nilCheckF rfl) ?_
        refine DL.s0 rfl (SIL.fieldAddr fo_56_1 rfl) ?_
        refine DL.s1 4 rfl rfl (SIL.load Try.underlying3 rfl rfl) ?_
        refine DL.s1 8 rfl rfl (SIL.load Try.underlying9 rfl rfl) ?_
        refine DL.s0 rfl (SIL.bld bt_65 (.c rfl (.c rfl .n)) (.c rfl rfl rfl rfl (.c .h .n) (.c rfl rfl rfl rfl (.c (.t .h) .n) .n))) ?_
        apply DL.ex rfl (EX.box rfl .agg) (hg := rfl)
        rintro _ _ ⟨b93, rfl, rfl⟩
        refine ⟨(.d (by kernel_rfl) (.k (by repeat (first | exact .h | refine .t ?_)) (by kernel_rfl) (.k (by repeat (first | exact .h | refine .t ?_)) (by kernel_rfl) (.k (by repeat (first | exact .h | refine .t ?_)) (by kernel_rfl) (.k (by repeat (first | exact .h | refine .t ?_)) (by kernel_rfl) .n))))), ?_⟩
        refine DL.e1 rfl (EX.mapUpdate (.t (.t (.t (.t (.t (.t .h)))))) Try.underlying53 rfl rfl rfl) (.d (by kernel_rfl) (.d (by kernel_rfl) (.d (by kernel_rfl) (.d (by kernel_rfl) .n)))) ?_
        refine DL.nil ?_
        refine G.next ?_
        refine T.seq ?_
        refine T.region ?_  -- region 16
        refine TL.s1 8 rfl (SIL.load Try.underlying23 rfl rfl) ?_
        first | refine TL.s0 (SIL.nilCheck rfl) ?_ | refine TL.s0 (SIL.nilCheckF rfl) ?_
        refine TL.s0 (SIL.fieldAddr fo_56_1 rfl) ?_
        refine TL.s1 5 rfl (SIL.load Try.underlying3 rfl rfl) ?_
        refine TL.s0 (SIL.fieldAddr fo_39_0 rfl) ?_
        refine TL.e1 (EX.store1 (.t .h) rfl rfl sz_3 .h) ?_
        refine TL.s0 (SIL.fieldAddr fo_39_2 rfl) ?_
        refine TL.e1 (EX.store1 (.t .h) rfl rfl sz_4 (.t (.t .h))) ?_
        refine TL.nil ?_
        refine G.next ?_
        refine T.seq ?_
        refine T.region ?_  -- region 17
        refine TL.s1 1 rfl (SIL.loadA Try.underlying39 sz_39 rfl rfl) ?_
        refine TL.e1 (EX.store (.t (.t (.t (.t (.t (.t (.t (.t (.t (.t .h)))))))))) rfl rfl rfl sz_39 rfl (.c .h (.c (.t .h) (.c (.t (.t .h)) .n))) rfl (.inl (Nat.zero_le _))) ?_
        refine TL.e1 (EX.store1 (.t (.t (.t (.t (.t (.t (.t (.t (.t (.t (.t .h))))))))))) rfl rfl sz_40 .h) ?_
        refine TL.nil ?_
        refine G.next ?_
        refine T.ret ?_
        refine G.sb (K := bl b93 65 [.string aim, .int .i64 1] :: HsP hs :: bl p 56 [.int .i64 m.most, .int .i64 (m.last + 1), .map (some mb), .slice q m.idles.length c] :: MapP ik mb (mset (keysOf hs) (m.last + 1) (.pointer (some ⟨b93, 0, none⟩))) :: SlP 1 (.slice q m.idles.length c) (m.idles.map ik) m.idles.length :: bl b4 39 [.int .i64 (m.last + 1), .int .i64 0, .bool true] :: bl b5 40 [.int .i64 0] :: blk D (.deferred (some [])) :: F) (by (try dsimp only [List.cons_append, List.nil_append]); repeat (first | with_reducible exact Sb.z Tl.z | (apply Sb.c; focus ((repeat (first | with_reducible exact Rm.h | apply Rm.t)); done)) | exact Sb.z (by (repeat (first | exact Tl.z | apply Tl.s))))) ?_
        refine G.conv (fun w s => PoolP.shutNew (m := m) hx ok.keys s) ?_
        exact G.retM1 (by (repeat (first | with_reducible exact Rm.h | apply Rm.t))) rfl (.c (resV.cellA 1 rfl rfl Try.underlying39 sz_39 rfl) (.c (resV.cell 2 rfl rfl Try.underlying40 rfl) .n)) ⟨rfl, rfl⟩ (.c .h .n) (by (repeat (first | exact Tl.z | apply Tl.s)))
    · refine ⟨.done, some .ret, _, by simp, .t .h, ?_⟩
      show T _ _ _ _ _
      refine T.ret ?_
      refine G.retBlock ?_
      refine G.sb (K := bl b4 39 [.int .i64 (takeM m aim).2.1.h, .int .i64 (takeM m aim).2.1.shut, .bool (takeM m aim).2.1.fresh] :: bl b5 40 [.int .i64 (takeM m aim).2.2] :: PoolP p (takeM m aim).1 :: blk D (.deferred (some [])) :: F) (by (try dsimp only [List.cons_append, List.nil_append]); repeat (first | with_reducible exact Sb.z Tl.z | (apply Sb.c; focus ((repeat (first | with_reducible exact Rm.h | apply Rm.t)); done)) | exact Sb.z (by (repeat (first | exact Tl.z | apply Tl.s))))) ?_
      exact G.retM1 (by (repeat (first | with_reducible exact Rm.h | apply Rm.t))) rfl (.c (resV.cellA 0 rfl rfl Try.underlying39 sz_39 rfl) (.c (resV.cell 1 rfl rfl Try.underlying40 rfl) .n)) ⟨rfl, rfl⟩ (.c (by (repeat (first | with_reducible exact Rm.h | apply Rm.t))) .n) (by (repeat (first | exact Tl.z | apply Tl.s)))
end Go.Proofs.Ytdekaodgbpngmaa
