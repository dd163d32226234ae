/- The law of the bound: its walk. -/
import Derived.Test.YtdekaodgbpngmaaBe
import Derived.Test.YtdekaodgbpngmaaSLo
namespace Go.Proofs.Ytdekaodgbpngmaa
open Go Go.RowKit Go.SL
structure OpV where
  kind : Int
  h : Int
  aim : ByteArray
  rest : List Value
def OpV.cells (o : OpV) : List Value := .int .i64 o.kind :: .int .i64 o.h :: .string o.aim :: o.rest
/-- The script as it lies in the caller's memory. -/
structure Scr (β : Base) (q : Option Addr) (n : Nat) (ops : List OpV) : Prop where
  len : ops.length = n
  rd : ∀ i o, ops[i]? = some o → ∃ b off, q = some ⟨b, off, none⟩ ∧ BaseRd β b (off + i * 8) o.cells ∧ o.rest.length = 5 ∧ o.rest.all one = true
def lsM (ls : List Int) : List (Int × Value) := ls.map fun k => (k, .bool true)
structure BInv (B : Int) (i : Nat) (m : PM) (ls : List Int) : Prop where
  most : m.most = B
  b64 : B ≤ 64
  cap : (m.all.length : Int) ≤ B
  nd : (m.all.map Prod.fst).Nodup
  keys : ∀ x ∈ m.all, 1 ≤ x.1 ∧ x.1 ≤ m.last
  st : ∀ x ∈ m.all, x.2.2 = 1 ∨ x.2.2 = 2 ∨ x.2.2 = 3
  idn : m.idles.Nodup
  idle : ∀ k, k ∈ m.idles ↔ stateOf m k = 3
  lsn : ls.Nodup
  lent : ∀ k, k ∈ ls ↔ stateOf m k = 1 ∨ stateOf m k = 2
  last : 0 ≤ m.last ∧ m.last ≤ i
theorem BInv.start {B : Int} (h0 : 0 ≤ B) (h : B ≤ 64) : BInv B 0 ⟨B, 0, [], []⟩ [] :=
  ⟨rfl, h, h0, by simp, by simp, by simp, by simp, by simp [stateOf, mget], by simp, by simp [stateOf, mget], by simp⟩
theorem turnM_last (m : PM) (k a b : Int) : (turnM m k a b).last = m.last := by unfold turnM; split <;> rfl
theorem restM_last (m : PM) (k : Int) : (restM m k).last = m.last := by
  unfold restM
  split
  · exact turnM_last ..
  · exact turnM_last ..
theorem spec_9t {β : Base} (p : Nat) (aim : ByteArray) (m m' : PM) (l : LeaseM) (e : Int) (ok : m.ok) (h : takeM m aim = (m', l, e)) : FSpec Try.prog β 9 #[.pointer (some ⟨p, 0, none⟩), .string aim] [PoolP p m] (Ret (.tuple ⟨[.agg ⟨[.int .i64 l.h, .int .i64 l.shut, .bool l.fresh]⟩, .int .i64 e]⟩) [PoolP p m']) := by
  have := spec_9 (β := β) p aim m ok
  rw [h] at this
  exact this
theorem lsM_len (ls : List Int) : (lsM ls).length = ls.length := by simp [lsM]
theorem sub_len : ∀ (xs ys : List Int), xs.Nodup → (∀ x ∈ xs, x ∈ ys) → xs.length ≤ ys.length
  | [], _, _, _ => Nat.zero_le _
  | x :: xs, ys, hn, h => by
    obtain ⟨h1, h2⟩ := List.nodup_cons.1 hn
    have h3 : x ∈ ys := h x (by simp)
    have := sub_len xs (ys.erase x) h2 fun y hy => (List.mem_erase_of_ne (fun e : y = x => h1 (e ▸ hy))).2 (h y (by simp [hy]))
    rw [List.length_erase_of_mem h3] at this
    have := List.length_pos_of_mem h3
    simp only [List.length_cons]
    omega
theorem erase_at : ∀ (xs : List Int) (j : Nat) (hj : j < xs.length), xs.Nodup → xs.take j ++ xs.drop (j + 1) = xs.erase xs[j]
  | x :: xs, 0, _, _ => by simp
  | x :: xs, j + 1, hj, hn => by
    obtain ⟨h1, h2⟩ := List.nodup_cons.1 hn
    have hj' : j < xs.length := by simpa using hj
    have hne : x ≠ xs[j] := fun e => h1 (e ▸ List.getElem_mem hj')
    have := erase_at xs j hj' h2
    simp only [List.take_succ_cons, List.drop_succ_cons, List.cons_append, List.getElem_cons_succ, this]
    rw [List.erase_cons_tail (by simpa using hne)]
theorem mget_mset {V : Type} : ∀ (l : List (Int × V)) (k k' : Int) (v : V), mget (mset l k v) k' = if k' = k then some v else mget l k'
  | [], k, k', v => by
    by_cases e : k' = k
    · subst e; simp [mset, mget]
    · have e' : ¬ k = k' := fun x => e x.symm
      simp [mset, mget, e, e']
  | x :: l, k, k', v => by
    simp only [mset]
    by_cases e : x.1 = k
    · simp only [e, if_true, mget]
      by_cases e2 : k' = k
      · subst e2; simp
      · have e' : ¬ k = k' := fun x => e2 x.symm
        simp [e2, e']
    · simp only [e, if_false, mget, mget_mset l k k' v]
      by_cases e2 : x.1 = k'
      · have : ¬ k' = k := fun y => e (e2.trans y)
        simp [e2, this]
      · simp [e2]
theorem mget_nokey {V : Type} : ∀ (l : List (Int × V)) (k : Int), k ∉ l.map Prod.fst → mget l k = none
  | [], _, _ => rfl
  | x :: l, k, h => by
    simp only [List.map_cons, List.mem_cons, not_or] at h
    have : ¬ x.1 = k := fun e => h.1 e.symm
    simp only [mget, this, if_false]
    exact mget_nokey l k h.2
theorem mget_mdel {V : Type} : ∀ (l : List (Int × V)) (k k' : Int), (l.map Prod.fst).Nodup → mget (mdel l k) k' = if k' = k then none else mget l k'
  | [], k, k', _ => by simp [mdel, mget]
  | x :: l, k, k', hn => by
    obtain ⟨h1, h2⟩ := List.nodup_cons.1 hn
    simp only [mdel]
    by_cases e : x.1 = k
    · simp only [e, if_true, mget]
      by_cases e2 : k' = k
      · subst e2; rw [if_pos rfl]; exact mget_nokey l _ (e ▸ h1)
      · have : ¬ k = k' := fun y => e2 y.symm
        simp [e2, this]
    · simp only [e, if_false, mget, mget_mdel l k k' h2]
      by_cases e2 : x.1 = k'
      · have : ¬ k' = k := fun y => e (e2.trans y)
        simp [e2, this]
      · simp [e2]
theorem mem_mset {V : Type} : ∀ {l : List (Int × V)} {k : Int} {v : V} {x : Int × V}, x ∈ mset l k v → x ∈ l ∨ x = (k, v)
  | [], _, _, _, h => by simp [mset] at h; exact .inr h
  | y :: l, k, v, x, h => by
    simp only [mset] at h
    split at h
    · rename_i e
      rcases List.mem_cons.1 h with h | h
      · exact .inr (by rw [h, e])
      · exact .inl (by simp [h])
    · rcases List.mem_cons.1 h with h | h
      · exact .inl (by rw [h]; exact List.mem_cons_self)
      · rcases mem_mset h with h | h
        · exact .inl (by simp [h])
        · exact .inr h
theorem mget_of_mem {V : Type} : ∀ {l : List (Int × V)} {x : Int × V}, (l.map Prod.fst).Nodup → x ∈ l → mget l x.1 = some x.2
  | y :: l, x, hn, h => by
    obtain ⟨h1, h2⟩ := List.nodup_cons.1 hn
    rcases List.mem_cons.1 h with h | h
    · subst h; simp [mget]
    · have : ¬ y.1 = x.1 := fun e => h1 (e ▸ List.mem_map_of_mem h)
      simp only [mget, this, if_false]
      exact mget_of_mem h2 h
theorem mset_new {V : Type} : ∀ (l : List (Int × V)) (k : Int) (v : V), mget l k = none → mset l k v = l ++ [(k, v)]
  | [], _, _, _ => rfl
  | x :: l, k, v, h => by
    simp only [mget] at h
    split at h
    · cases h
    · rename_i e
      simp only [mset, e, if_false, List.cons_append]
      rw [mset_new l k v h]
theorem mget_lsM : ∀ (ls : List Int) (k : Int), mget (lsM ls) k = if k ∈ ls then some (.bool true) else none
  | [], _ => rfl
  | x :: ls, k => by
    have := mget_lsM ls k
    simp only [lsM] at this
    simp only [lsM, List.map_cons, mget, this, List.mem_cons]
    by_cases e : x = k
    · simp [e]
    · have : ¬ k = x := fun y => e y.symm
      simp [e, this]
theorem mdel_lsM : ∀ (ls : List Int) (k : Int), mdel (lsM ls) k = lsM (ls.erase k)
  | [], _ => rfl
  | x :: ls, k => by
    have := mdel_lsM ls k
    simp only [lsM] at this
    simp only [lsM, List.map_cons, mdel, this]
    by_cases e : x = k
    · simp [e]
    · rw [List.erase_cons_tail (by simpa using e)]
      simp [e]
theorem st_key {m : PM} {k : Int} (h : stateOf m k ≠ 0) : ∃ a s, mget m.all k = some (a, s) ∧ stateOf m k = s := by
  unfold stateOf at h ⊢
  cases e : mget m.all k with
  | none => rw [e] at h; exact absurd rfl h
  | some x => exact ⟨x.1, x.2, rfl, rfl⟩
theorem BInv.keyIn {B : Int} {i : Nat} {m : PM} {ls : List Int} (_h : BInv B i m ls) {k : Int} (hk : stateOf m k ≠ 0) : k ∈ m.all.map Prod.fst := by
  obtain ⟨a, s, e, _⟩ := st_key hk
  exact List.mem_map_of_mem (f := Prod.fst) (mget_mem e)
theorem BInv.few {B : Int} {i : Nat} {m : PM} {ls : List Int} (h : BInv B i m ls) : ls.length ≤ m.all.length := by
  have := sub_len ls (m.all.map Prod.fst) h.lsn fun x hx => h.keyIn (by have := (h.lent x).1 hx; omega)
  simpa using this
theorem BInv.lost {B : Int} {i : Nat} {m : PM} {ls : List Int} (h : BInv B i m ls) : BInv B (i + 1) m ls := { h with last := ⟨h.last.1, by have := h.last.2; omega⟩ }
theorem BInv.set {B : Int} {i : Nat} {m : PM} {ls : List Int} (h : BInv B i m ls) (k : Int) (hk : stateOf m k ≠ 0) (aim : ByteArray) (b : Int) (hb : b = 1 ∨ b = 2 ∨ b = 3) (ids ls' : List Int) (hn : ids.Nodup) (hln : ls'.Nodup)
    (hid : ∀ k', k' ∈ ids ↔ (if k' = k then b else stateOf m k') = 3) (hls : ∀ k', k' ∈ ls' ↔ (if k' = k then b else stateOf m k') = 1 ∨ (if k' = k then b else stateOf m k') = 2) :
    BInv B (i + 1) { m with all := mset m.all k (aim, b), idles := ids } ls' := by
  have hin := h.keyIn hk
  have hst : ∀ k', stateOf { m with all := mset m.all k (aim, b), idles := ids } k' = if k' = k then b else stateOf m k' := fun k' => by
    simp only [stateOf, mget_mset]
    by_cases e : k' = k <;> simp [e]
  have hkeys : (mset m.all k (aim, b)).map Prod.fst = m.all.map Prod.fst := by rw [mset_keys, if_pos hin]
  have hlen : (mset m.all k (aim, b)).length = m.all.length := by have := congrArg List.length hkeys; simpa using this
  obtain ⟨y, hy, hye⟩ := List.mem_map.1 hin
  exact { most := h.most, b64 := h.b64, cap := by show ((mset m.all k (aim, b)).length : Int) ≤ B; rw [hlen]; exact h.cap,
          nd := by show ((mset m.all k (aim, b)).map Prod.fst).Nodup; rw [hkeys]; exact h.nd,
          keys := fun x hx => by
            rcases mem_mset hx with hx | hx
            · exact h.keys x hx
            · have := h.keys y hy
              rw [hx]; rw [hye] at this; exact this
          st := fun x hx => by
            rcases mem_mset hx with hx | hx
            · exact h.st x hx
            · rw [hx]; exact hb
          idn := hn, idle := fun k' => by rw [hst]; exact hid k', lsn := hln, lent := fun k' => by rw [hst]; exact hls k',
          last := ⟨h.last.1, by have := h.last.2; show m.last ≤ _; omega⟩ }
theorem BInv.del {B : Int} {i : Nat} {m : PM} {ls : List Int} (h : BInv B i m ls) (k : Int) (ls' : List Int) (hln : ls'.Nodup)
    (hls : ∀ k', k' ∈ ls' ↔ (if k' = k then 0 else stateOf m k') = 1 ∨ (if k' = k then 0 else stateOf m k') = 2) : BInv B i (shutM m k) ls' := by
  have hst : ∀ k', stateOf (shutM m k) k' = if k' = k then 0 else stateOf m k' := fun k' => by
    simp only [stateOf, shutM, mget_mdel _ _ _ h.nd]
    by_cases e : k' = k <;> simp [e]
  have hsub := mdel_sub m.all k
  have hlen : (mdel m.all k).length ≤ m.all.length := by have := hsub.length_le; simpa using this
  exact { most := h.most, b64 := h.b64, cap := by have := h.cap; show ((mdel m.all k).length : Int) ≤ B; omega, nd := h.nd.sublist hsub,
          keys := fun x hx => h.keys x (mdel_mem hx), st := fun x hx => h.st x (mdel_mem hx), idn := h.idn.filter _,
          idle := fun k' => by
            rw [hst]
            show k' ∈ m.idles.filter _ ↔ _
            rw [List.mem_filter, h.idle]
            by_cases e : k' = k <;> simp [e]
          lsn := hln, lent := fun k' => by rw [hst]; exact hls k', last := h.last }
theorem BInv.fresh {B : Int} {i : Nat} {m : PM} {ls : List Int} (h : BInv B i m ls) : m.last + 1 ∉ m.all.map Prod.fst ∧ stateOf m (m.last + 1) = 0 := by
  have h1 : m.last + 1 ∉ m.all.map Prod.fst := fun hx => by
    obtain ⟨y, hy, e⟩ := List.mem_map.1 hx
    have := h.keys y hy
    omega
  exact ⟨h1, by simp only [stateOf, mget_nokey _ _ h1]⟩
theorem BInv.dial {B : Int} {i : Nat} {m : PM} {ls : List Int} (h : BInv B i m ls) (aim : ByteArray) (hc : (m.all.length : Int) < B) : BInv B (i + 1) (dialM m aim) (ls ++ [m.last + 1]) ∧ m.last + 1 ∉ ls := by
  obtain ⟨h1, h0⟩ := h.fresh
  have hnl : m.last + 1 ∉ ls := fun hx => by have := (h.lent _).1 hx; omega
  have hst : ∀ k', stateOf (dialM m aim) k' = if k' = m.last + 1 then 1 else stateOf m k' := fun k' => by
    simp only [stateOf, dialM, mget_mset]
    by_cases e : k' = m.last + 1 <;> simp [e]
  have hall : (dialM m aim).all = m.all ++ [(m.last + 1, aim, 1)] := mset_new _ _ _ (mget_nokey _ _ h1)
  have hl := h.last
  refine ⟨{ most := h.most, b64 := h.b64, cap := by rw [hall]; simp; omega, nd := by
              rw [hall, List.map_append]
              exact List.nodup_append.2 ⟨h.nd, by simp, fun a ha b hb e => by simp at hb; exact h1 (hb ▸ e ▸ ha)⟩,
            keys := fun x hx => by
              rw [hall] at hx
              show 1 ≤ x.1 ∧ x.1 ≤ m.last + 1
              rcases List.mem_append.1 hx with hx | hx
              · have := h.keys x hx; omega
              · simp at hx; rw [hx]; dsimp only; omega
            st := fun x hx => by
              rw [hall] at hx
              rcases List.mem_append.1 hx with hx | hx
              · exact h.st x hx
              · simp at hx; rw [hx]; exact .inl rfl
            idn := h.idn, idle := fun k' => by
              rw [hst]
              show k' ∈ m.idles ↔ _
              rw [h.idle]
              by_cases e : k' = m.last + 1
              · rw [if_pos e, e, h0]; simp
              · simp [e]
            lsn := List.nodup_append.2 ⟨h.lsn, by simp, fun a ha b hb e => by simp at hb; exact hnl (hb ▸ e ▸ ha)⟩,
            lent := fun k' => by
              rw [hst, List.mem_append, h.lent]
              by_cases e : k' = m.last + 1
              · simp [e]
              · simp [e]
            last := ⟨by show 0 ≤ m.last + 1; omega, by show m.last + 1 ≤ _; omega⟩ }, hnl⟩
theorem BInv.joined {B : Int} {i : Nat} {m : PM} {ls : List Int} (h : BInv B i m ls) (k : Int) : BInv B (i + 1) (turnM m k 1 2) ls := by
  unfold turnM
  split
  · rename_i hk
    refine h.set k (by omega) _ 2 (by simp) m.idles ls h.idn h.lsn (fun k' => ?_) (fun k' => ?_)
    · rw [h.idle]
      by_cases e : k' = k
      · simp [e, hk]
      · simp [e]
    · rw [h.lent]
      by_cases e : k' = k
      · simp [e, hk]
      · simp [e]
  · exact h.lost
theorem BInv.restNo {m : PM} {k : Int} (h : stateOf m k ≠ 2) : restM m k = m := by simp [restM, turnM, h]
theorem BInv.restYes {B : Int} {i : Nat} {m : PM} {ls : List Int} (h : BInv B i m ls) (k : Int) (hk : stateOf m k = 2) : mget (lsM ls) k = some (.bool true) ∧ ∃ ls', mdel (lsM ls) k = lsM ls' ∧ BInv B (i + 1) (restM m k) ls' := by
  have hm : k ∈ ls := (h.lent k).2 (.inr hk)
  have hni : k ∉ m.idles := fun hx => by have := (h.idle k).1 hx; omega
  refine ⟨by rw [mget_lsM, if_pos hm], ls.erase k, mdel_lsM ls k, ?_⟩
  have hr : restM m k = { m with all := mset m.all k (aimOf m k, 3), idles := m.idles ++ [k] } := by simp [restM, turnM, hk]
  rw [hr]
  refine h.set k (by omega) _ 3 (by simp) _ _ (List.nodup_append.2 ⟨h.idn, by simp, fun a ha b hb e => by simp at hb; exact hni (hb ▸ e ▸ ha)⟩) (h.lsn.erase k) (fun k' => ?_) (fun k' => ?_)
  · rw [List.mem_append, h.idle]
    by_cases e : k' = k <;> simp [e]
  · rw [h.lsn.mem_erase_iff, h.lent]
    by_cases e : k' = k <;> simp [e]
theorem BInv.shut {B : Int} {i : Nat} {m : PM} {ls : List Int} (h : BInv B i m ls) (k : Int) : ∃ ls', mdel (lsM ls) k = lsM ls' ∧ BInv B (i + 1) (shutM m k) ls' := by
  refine ⟨ls.erase k, mdel_lsM ls k, (h.del k _ (h.lsn.erase k) (fun k' => ?_)).lost⟩
  rw [h.lsn.mem_erase_iff, h.lent]
  by_cases e : k' = k <;> simp [e]
theorem BInv.ok {B : Int} {i : Nat} {m : PM} {ls : List Int} (h : BInv B i m ls) (hi : i ≤ 1000000) : m.ok := ⟨fun k hk e => by
    have := (h.idle k).1 hk
    simp [stateOf, e] at this, fun x hx => (h.keys x hx).2, ⟨h.last.1, by have := h.last.2; omega⟩, by have := h.cap; have := h.b64; omega⟩
theorem BInv.idles {B : Int} {i : Nat} {m : PM} {ls : List Int} (h : BInv B i m ls) : m.idles.length ≤ 1000000 := by
  have := sub_len m.idles (m.all.map Prod.fst) h.idn fun x hx => h.keyIn (by have := (h.idle x).1 hx; omega)
  have h1 := h.cap
  have h2 := h.b64
  simp only [List.length_map] at this
  omega
theorem back_some (m : PM) (aim : ByteArray) : ∀ d k i, k + d = m.idles.length → backFrom m aim d k = some i → i < m.idles.length ∧ aimOf m (m.idles.getD i 0) = aim
  | 0, _, _, _, h => by cases h
  | d + 1, k, i, hl, h => by
    rw [backFrom] at h
    split at h
    · rename_i e
      cases h
      exact ⟨by omega, e⟩
    · exact back_some m aim d (k + 1) i (by omega) h
/-- What a lease answers. -/
theorem BInv.take {B : Int} {i : Nat} {m : PM} {ls : List Int} (h : BInv B i m ls) (aim : ByteArray) :
    (takeM m aim = (m, ⟨0, 0, false⟩, 6) ∧ B ≤ ls.length) ∨ ∃ m' l, takeM m aim = (m', l, 0) ∧ mget (lsM ls) l.h = none ∧ mget (lsM ls) l.shut = none ∧ (l.fresh = true → l.h = m.last + 1) ∧ (l.fresh = false → l.shut = 0) ∧ aimOf m' l.h = aim ∧ max m.last l.h = m'.last ∧ ∃ ls', mset (lsM ls) l.h (.bool true) = lsM ls' ∧ BInv B (i + 1) m' ls' := by
  have h00 : ∀ x ∈ m.all, 1 ≤ x.1 := fun x hx => (h.keys x hx).1
  have hz : stateOf m 0 = 0 := by
    have : (0 : Int) ∉ m.all.map Prod.fst := fun hx => by
      obtain ⟨y, hy, e⟩ := List.mem_map.1 hx
      have := h00 y hy
      omega
    simp only [stateOf, mget_nokey _ _ this]
  have nl : ∀ k, stateOf m k = 0 ∨ stateOf m k = 3 → mget (lsM ls) k = none := fun k hk => by
    rw [mget_lsM, if_neg]
    intro hx
    have := (h.lent k).1 hx
    omega
  have new : ∀ k, k ∉ ls → mset (lsM ls) k (.bool true) = lsM (ls ++ [k]) := fun k hk => by
    rw [mset_new _ _ _ (by rw [mget_lsM, if_neg hk])]
    simp [lsM]
  unfold takeM
  cases hb : backFrom m aim m.idles.length 0 with
  | some j =>
    right
    obtain ⟨hj, ha⟩ := back_some m aim _ 0 j (by omega) hb
    obtain ⟨x, hx⟩ : ∃ x, x = m.idles.getD j 0 := ⟨_, rfl⟩
    have hxj : m.idles[j] = x := by rw [hx, List.getD_eq_getElem?_getD, List.getElem?_eq_getElem hj]; rfl
    have hxm : x ∈ m.idles := hxj ▸ List.getElem_mem hj
    have hx3 := (h.idle x).1 hxm
    have hxl : x ∉ ls := fun hy => by have := (h.lent x).1 hy; omega
    have hle : x ≤ m.last := by
      obtain ⟨y, hy, e⟩ := List.mem_map.1 (h.keyIn (k := x) (by omega))
      have := h.keys y hy
      omega
    rw [← hx] at ha
    dsimp only
    rw [← hx]
    refine ⟨_, _, rfl, nl _ (.inr hx3), nl 0 (.inl hz), fun e => absurd e (by simp), fun _ => rfl, ?_, ?_, ls ++ [x], new x hxl, ?_⟩
    · simp only [aimOf, mget_mset, if_true]; exact ha
    · show max m.last x = m.last
      omega
    · have he : m.idles.take j ++ m.idles.drop (j + 1) = m.idles.erase x := by
        rw [← hxj]
        exact erase_at _ j hj h.idn
      rw [he]
      refine h.set x (by omega) _ 2 (by simp) _ _ (h.idn.erase x) (List.nodup_append.2 ⟨h.lsn, by simp, fun a ha b hb e => by simp at hb; exact hxl (hb ▸ e ▸ ha)⟩) (fun k' => ?_) (fun k' => ?_)
      · rw [h.idn.mem_erase_iff, h.idle]
        by_cases e : k' = x <;> simp [e]
      · rw [List.mem_append, h.lent]
        by_cases e : k' = x
        · simp [e]
        · simp [e]
  | none =>
    dsimp only
    have dialed : ∀ (m1 : PM), BInv B i m1 ls → m1.last = m.last → (m1.all.length : Int) < B → mget (lsM ls) (m.last + 1) = none ∧ aimOf (dialM m1 aim) (m.last + 1) = aim ∧ max m.last (m.last + 1) = (dialM m1 aim).last ∧ ∃ ls', mset (lsM ls) (m.last + 1) (.bool true) = lsM ls' ∧ BInv B (i + 1) (dialM m1 aim) ls' := fun m1 h1 hl hc => by
      obtain ⟨d1, d2⟩ := h1.dial aim hc
      rw [hl] at d1 d2
      refine ⟨by rw [mget_lsM, if_neg d2], by simp only [aimOf, dialM, mget_mset, hl, if_true], by show _ = m1.last + 1; omega, ls ++ [m.last + 1], new _ d2, d1⟩
    by_cases hc : m.most ≤ m.all.length
    · rw [if_pos hc]
      cases hi : m.idles with
      | nil =>
        left
        refine ⟨rfl, ?_⟩
        have := sub_len (m.all.map Prod.fst) ls h.nd fun k hk => by
          obtain ⟨y, hy, e⟩ := List.mem_map.1 hk
          have h1 := h.st y hy
          have h2 : stateOf m k = y.2.2 := by
            have := mget_of_mem h.nd hy
            rw [e] at this
            simp only [stateOf, this]
          have h3 : ¬ stateOf m k = 3 := fun h4 => by
            have := (h.idle k).2 h4
            rw [hi] at this
            cases this
          exact (h.lent k).2 (by omega)
        have hm := h.most
        simp only [List.length_map] at this
        omega
      | cons s r =>
        right
        have hsm : s ∈ m.idles := hi ▸ List.mem_cons_self
        have hs3 := (h.idle s).1 hsm
        have hdl : BInv B i (shutM m s) ls := h.del s ls h.lsn fun k' => by
          rw [h.lent]
          by_cases e : k' = s
          · simp [e, hs3]
          · simp [e]
        have hlt : (mdel m.all s).length < m.all.length := by
          have hin := h.keyIn (k := s) (by omega)
          have hns : s ∉ (mdel m.all s).map Prod.fst := fun hx => by
            obtain ⟨y, hy, e⟩ := List.mem_map.1 hx
            have h1 := mget_of_mem (h.nd.sublist (mdel_sub m.all s)) hy
            rw [mget_mdel _ _ _ h.nd, if_pos e] at h1
            cases h1
          have := sub_len (s :: (mdel m.all s).map Prod.fst) (m.all.map Prod.fst) (List.nodup_cons.2 ⟨hns, h.nd.sublist (mdel_sub m.all s)⟩) fun x hx => by
              rcases List.mem_cons.1 hx with e | hx
              · exact e ▸ hin
              · exact (mdel_sub m.all s).subset hx
          simp only [List.length_cons, List.length_map] at this
          omega
        have hcap := h.cap
        obtain ⟨g1, g2, g3, g4⟩ := dialed (shutM m s) hdl rfl (by show ((mdel m.all s).length : Int) < B; omega)
        exact ⟨_, _, rfl, g1, nl s (.inr hs3), fun _ => rfl, fun e => absurd e (by simp), g2, g3, g4⟩
    · rw [if_neg hc]
      right
      have hm := h.most
      obtain ⟨g1, g2, g3, g4⟩ := dialed m h rfl (by omega)
      exact ⟨_, _, rfl, g1, nl 0 (.inl hz), fun _ => rfl, fun e => absurd e (by simp), g2, g3, g4⟩
theorem spec_4 {β : Base} (most : Int) (q : Option Addr) (n c : Nat) (ops : List OpV) (hs : Scr β q n ops) (hn : n ≤ 9223372036854775807) : FSpec Try.prog β 4 #[.int .i64 most, .slice q n c] [] (fun v _ => v = .bool true) := by
  refine FSpec.body (args := [_, _]) Try.func4 rfl rfl fun F => ?_
  show T _ _ _ F _
  refine T.seq ?_
  refine T.region ?_
  refine TL.s0 (SIL.assign rfl) ?_
  refine TL.nil ?_
  refine G.next ?_
  refine T.seq ?_
  refine T.region ?_
  refine TL.s0 (SIL.move rfl) ?_
  refine TL.ex (EX.fn cf_5 (.c rfl .n) (spec_5 most) (by (try dsimp only [List.cons_append, List.nil_append]); repeat (first | with_reducible exact Pk.n | (apply Pk.c; focus ((repeat (first | with_reducible exact Rm.h | apply Rm.t)); done))))) ?_
  rintro _ _ ⟨_, _, ⟨p, rfl, rfl⟩, rfl, rfl⟩
  refine TL.s0 (SIL.assign rfl) ?_
  refine TL.nil ?_
  refine G.next ?_
  refine T.seq ?_
  refine T.seq ?_
  refine T.region ?_
  refine TL.s0 (SIL.move rfl) ?_
  refine TL.s0 (SIL.eqP Try.underlying23 rfl rfl (EQV.pnil Try.underlying23)) ?_
  refine TL.s0 (SIL.move rfl) ?_
  refine TL.ex (EX.fn cf_6 .n (spec_6) (by (try dsimp only [List.cons_append, List.nil_append]); repeat (first | with_reducible exact Pk.n | (apply Pk.c; focus ((repeat (first | with_reducible exact Rm.h | apply Rm.t)); done))))) ?_
  rintro _ _ ⟨_, _, ⟨rfl, p6, m6, rfl⟩, rfl, rfl⟩
  refine TL.s0 (SIL.not rfl) ?_
  refine TL.s0 (SIL.pick rfl rfl rfl) ?_
  refine TL.nil ?_
  refine G.next ?_
  refine T.cond_false rfl ?_
  refine T.skip ?_
  refine G.next ?_
  refine T.seq ?_
  refine T.seq ?_
  refine T.region ?_
  refine TL.s0 (SIL.move rfl) ?_
  refine TL.s0 (SIL.lenSlice Try.underlying22 rfl) ?_
  refine TL.s0 (SIL.gtr rfl rfl) ?_
  refine TL.nil ?_
  refine G.next ?_
  refine T.cond rfl (fun h => ?_) (fun h => ?_)
  · refine T.seq ?_
    refine T.region ?_
    refine TL.s0 (SIL.assign rfl) ?_
    refine TL.nil ?_
    refine G.next ?_
    refine T.ret ?_
    refine G.retThen ?_
    exact G.ret (Hs := []) rfl (.c (resV.tmp rfl) .n) (rfl) (by (try dsimp only [List.cons_append, List.nil_append]); repeat (first | with_reducible exact Pk.n | (apply Pk.c; focus ((repeat (first | with_reducible exact Rm.h | apply Rm.t)); done)))) (by (repeat (first | exact Tl.z | apply Tl.s)))
  refine T.skip ?_
  refine G.next ?_
  refine T.seq ?_
  refine T.region ?_
  refine TL.s0 (SIL.move rfl) ?_
  refine TL.s0 (SIL.max2 rfl rfl) ?_
  refine TL.s0 (SIL.min2 rfl rfl) ?_
  refine TL.s0 (SIL.assign rfl) ?_
  refine TL.nil ?_
  refine G.next ?_
  refine T.seq ?_
  refine T.region ?_
  refine TL.ex (EX.makeMap ik) ?_
  rintro _ _ ⟨b27, rfl, rfl⟩
  refine TL.s0 (SIL.assign rfl) ?_
  refine TL.nil ?_
  refine G.next ?_
  refine T.seq ?_
  refine T.region ?_
  refine TL.s0 (SIL.assign rfl) ?_
  refine TL.nil ?_
  refine G.next ?_
  refine T.seq ?_
  refine T.seq ?_
  refine T.region ?_
  refine TL.s0 (SIL.move rfl) ?_
  refine TL.s0 (SIL.lenSlice Try.underlying22 rfl) ?_
  refine TL.s0 (SIL.move rfl) ?_
  refine TL.nil ?_
  refine G.next ?_
  refine T.block ?_
  simp only [decide_eq_false_iff_not] at h
  obtain ⟨B, hB⟩ : ∃ B, B = min (max most 0) 64 := ⟨_, rfl⟩
  rw [← hB]
  refine T.loop (X := Nat × PM × List Int) (fun x => [(5, .pointer (some ⟨p, 0, none⟩)), (6, .int .i64 B), (7, .map (some b27)), (8, .int .i64 x.2.1.last), (28, .slice q n c), (29, .int .i64 n), (30, .int .i64 x.1)]) (fun x => MapP ik b27 (lsM x.2.2) :: PoolP p x.2.1 :: PoolP p6 m6 :: F) (fun x => x.1 ≤ n ∧ BInv B x.1 x.2.1 x.2.2) (fun x => n - x.1) (0, ⟨B, 0, [], []⟩, []) ⟨Nat.zero_le _, BInv.start (by omega) (by omega)⟩ (.c rfl (.c rfl (.c rfl (.c rfl (.c rfl (.c rfl (.c rfl .n))))))) (fun w s => s.conv fun _ => Sb.to (.c .h (.c (.t .h) (.c .h (.z .z))))) (fun x hx => ?_)
  obtain ⟨i, m, ls⟩ := x
  obtain ⟨hi, inv⟩ := hx
  dsimp only at hi inv ⊢
  refine T.seq ?_
  refine T.region ?_
  refine TL.s0 (SIL.lss rfl rfl) ?_
  refine TL.nil ?_
  refine G.next ?_
  refine T.seq ?_
  refine T.cond rfl (fun hlt => ?_) (fun hlt => ?_)
  · simp only [decide_eq_true_eq] at hlt
    obtain ⟨o, ho⟩ : ∃ o, ops[i]? = some o := ⟨ops[i]'(by have := hs.len; omega), List.getElem?_eq_getElem _⟩
    obtain ⟨b, off, rfl, hrd, hr5, hro⟩ := hs.rd i o ho
    obtain ⟨kd, hh, aim, rest⟩ := o
    obtain ⟨r1, r2, r3, r4, r5, rfl⟩ : ∃ r1 r2 r3 r4 r5, rest = [r1, r2, r3, r4, r5] := by
      match rest, hr5 with
      | [r1, r2, r3, r4, r5], _ => exact ⟨r1, r2, r3, r4, r5, rfl⟩
    refine T.skip ?_
    refine G.next ?_
    refine T.seq ?_
    refine T.block ?_
    refine T.seq ?_
    refine T.region ?_
    refine TL.s0 (SIL.indexAddr (j := i) Try.underlying22 sz_34 rfl rfl rfl (by omega)) ?_
    refine TL.s0 (SIL.loadAB (vs := [.int .i64 kd, .int .i64 hh, .string aim, r1, r2, r3, r4, r5]) Try.underlying34 sz_34 rfl hrd rfl) ?_
    refine TL.ex (EX.alloc zr_34 .agg) ?_
    rintro _ _ ⟨b10, rfl, rfl⟩
    refine TL.e1 (EX.store .h rfl rfl rfl sz_34 rfl (.c .h (.c (.t .h) (.c (.t (.t .h)) (.c (.t (.t (.t .h))) (.c (.t (.t (.t (.t .h)))) (.c (.t (.t (.t (.t (.t .h))))) (.c (.t (.t (.t (.t (.t (.t .h)))))) (.c (.t (.t (.t (.t (.t (.t (.t .h))))))) .n)))))))) (show ([.int .i64 kd, .int .i64 hh, .string aim, r1, r2, r3, r4, r5] : List Value).all one = true from by simpa [one] using hro) (.inl (Nat.zero_le _))) ?_
    refine TL.nil ?_
    refine G.next ?_
    refine T.seq ?_
    refine T.seq ?_
    refine T.region ?_
    refine TL.s0 (SIL.fieldAddr fo_34_0 rfl) ?_
    refine TL.s1 0 rfl (SIL.load Try.underlying3 rfl rfl) ?_
    refine TL.nil ?_
    refine G.next ?_
    refine T.block ?_
    refine T.seq ?_
    refine T.region ?_
    refine TL.s0 (SIL.eql rfl rfl) ?_
    refine TL.s0 (SIL.assign rfl) ?_
    refine TL.nil ?_
    refine G.next ?_
    refine T.cond rfl (fun hk1 => ?_) (fun hk1 => ?_)
    · simp only [decide_eq_true_eq] at hk1
      refine T.seq ?_
      refine T.region ?_
      refine TL.s0 (SIL.move rfl) ?_
      refine TL.s0 (SIL.fieldAddr fo_34_2 rfl) ?_
      refine TL.s1 0 rfl (SIL.load Try.underlying9 rfl rfl) ?_
      rcases inv.take aim with ⟨ht, hB6⟩ | ⟨m', ⟨lh, lsh, fr⟩, ht, hg1, hg2, hf1, hf2, ha, hmx, ls', hls, hinv⟩
      · refine TL.ex (EX.fn cf_9 (.c rfl (.c rfl .n)) (spec_9t p aim m m ⟨0, 0, false⟩ 6 (inv.ok (by omega)) ht) (by (try dsimp only [List.cons_append, List.nil_append]); repeat (first | with_reducible exact Pk.n | (apply Pk.c; focus ((repeat (first | with_reducible exact Rm.h | apply Rm.t)); done))))) ?_
        rintro _ _ ⟨_, _, ⟨rfl, rfl⟩, rfl, rfl⟩
        have hll := lsM_len ls
        refine TL.s0 (SIL.move rfl) ?_
        refine TL.s0 (SIL.extract rfl rfl) ?_
        refine TL.s0 (SIL.extract rfl rfl) ?_
        refine TL.ex (EX.alloc zr_39 .agg) ?_
        rintro _ _ ⟨b11, rfl, rfl⟩
        refine TL.e1 (EX.store .h rfl rfl rfl sz_39 rfl (.c .h (.c (.t .h) (.c (.t (.t .h)) .n))) rfl (.inl (Nat.zero_le _))) ?_
        refine TL.s0 (SIL.assign rfl) ?_
        refine TL.nil ?_
        refine G.next ?_
        refine T.seq ?_
        refine T.seq ?_
        refine T.region ?_
        refine TL.s0 (SIL.move rfl) ?_
        refine TL.s0 (SIL.neq rfl rfl) ?_
        refine TL.nil ?_
        refine G.next ?_
        refine T.cond_true rfl ?_
        refine T.seq ?_
        refine T.seq ?_
        refine T.region ?_
        refine TL.s0 (SIL.move rfl) ?_
        refine TL.s1 3 rfl (SIL.lenMapP Try.underlying52 rfl) ?_
        refine TL.s0 (SIL.move rfl) ?_
        refine TL.s0 (SIL.lss rfl rfl) ?_
        refine TL.s0 (SIL.move rfl) ?_
        refine TL.guardF 51 rfl (by first | (simp; done) | (simp; omega)) ?_
        refine TL.s1 0 rfl (SIL.loadA Try.underlying39 sz_39 rfl rfl) ?_
        refine TL.s0 (SIL.bld bt_39 .n .n) ?_
        refine TL.s0 (SIL.neS rfl rfl (EQV.struct (k := 0) Try.underlying39 (by kernel_rfl) (.c rfl Try.underlying3 rfl rfl rfl (EQV.int Try.underlying3) (.c rfl Try.underlying3 rfl rfl rfl (EQV.int Try.underlying3) (.c rfl Try.underlying4 rfl rfl rfl (EQV.bool Try.underlying4) .n)))) (by kernel_rfl)) ?_
        refine TL.s0 (SIL.pick rfl rfl rfl) ?_
        refine TL.nil ?_
        refine G.next ?_
        refine T.cond_false rfl ?_
        refine T.skip ?_
        refine G.next ?_
        refine T.exit ?_
        refine G.exitThen ?_
        refine G.exitOn rfl ?_
        refine G.exitThen ?_
        refine G.exitHere ?_
        refine G.next ?_
        refine T.region ?_
        refine TL.s0 (SIL.add rfl rfl (by unfold I64; omega)) ?_
        refine TL.s0 (SIL.move rfl) ?_
        refine TL.nil ?_
        exact G.then (G.again (i + 1, m, ls) ⟨by omega, inv.lost⟩ (by show n - (i + 1) < n - i; omega) (.c rfl (.c rfl (.c rfl (.c rfl (.c rfl (.c rfl (.c (by show some _ = some _; congr 2) .n))))))) (fun w s => s.conv fun _ => Sb.to (by (try dsimp only [List.cons_append, List.nil_append]); repeat (first | with_reducible exact Sb.z Tl.z | (apply Sb.c; focus ((repeat (first | with_reducible exact Rm.h | apply Rm.t)); done)) | exact Sb.z (by (repeat (first | exact Tl.z | apply Tl.s)))))))
      · refine TL.ex (EX.fn cf_9 (.c rfl (.c rfl .n)) (spec_9t p aim m m' ⟨lh, lsh, fr⟩ 0 (inv.ok (by omega)) ht) (by (try dsimp only [List.cons_append, List.nil_append]); repeat (first | with_reducible exact Pk.n | (apply Pk.c; focus ((repeat (first | with_reducible exact Rm.h | apply Rm.t)); done))))) ?_
        rintro _ _ ⟨_, _, ⟨rfl, rfl⟩, rfl, rfl⟩
        dsimp only at hg1 hg2 hf1 hf2 ha hmx hls
        have hl1 := inv.last
        cases fr with
        | true =>
          have hlh := hf1 rfl
          refine TL.s0 (SIL.move rfl) ?_
          refine TL.s0 (SIL.extract rfl rfl) ?_
          refine TL.s0 (SIL.extract rfl rfl) ?_
          refine TL.ex (EX.alloc zr_39 .agg) ?_
          rintro _ _ ⟨b11, rfl, rfl⟩
          refine TL.e1 (EX.store .h rfl rfl rfl sz_39 rfl (.c .h (.c (.t .h) (.c (.t (.t .h)) .n))) rfl (.inl (Nat.zero_le _))) ?_
          refine TL.s0 (SIL.assign rfl) ?_
          refine TL.nil ?_
          refine G.next ?_
          refine T.seq ?_
          refine T.seq ?_
          refine T.region ?_
          refine TL.s0 (SIL.move rfl) ?_
          refine TL.s0 (SIL.neq rfl rfl) ?_
          refine TL.nil ?_
          refine G.next ?_
          refine T.cond_false rfl ?_
          refine T.skip ?_
          refine G.next ?_
          refine T.seq ?_
          refine T.seq ?_
          refine T.draw [(0, true), (1, true), (2, true), (3, true), (4, true), (5, true), (6, true), (7, true), (8, true), (9, true), (10, true), (11, true), (12, true), (13, true), (14, true), (15, true), (16, true), (17, true), (18, true), (19, true), (20, true), (21, true), (22, true), (23, true), (24, true), (25, true), (26, true), (27, true), (28, true), (29, true), (30, true), (31, true), (32, true), (33, true), (34, true), (36, true), (37, true), (35, false), (38, true), (39, true)] (by kernel_rfl) (by kernel_rfl) ?_
          refine DL.s0 rfl (SIL.move rfl) ?_
          refine DL.s0 rfl (SIL.fieldAddr fo_39_0 rfl) ?_
          refine DL.s1 0 rfl rfl (SIL.load Try.underlying3 rfl rfl) ?_
          refine DL.s1 3 rfl rfl (SIL.lookupS Try.underlying52 zr_4 rfl rfl (by first | assumption | rfl)) ?_
          refine DL.s0 rfl (SIL.move rfl) ?_
          refine DL.s0 rfl (SIL.move rfl) ?_
          refine DL.s0 rfl (SIL.fieldAddr fo_39_1 rfl) ?_
          refine DL.s1 0 rfl rfl (SIL.load Try.underlying3 rfl rfl) ?_
          refine DL.s1 3 rfl rfl (SIL.lookupS Try.underlying52 zr_4 rfl rfl (by first | assumption | rfl)) ?_
          refine DL.s0 rfl (SIL.pick rfl rfl rfl) ?_
          refine DL.s0 rfl (SIL.move rfl) ?_
          refine DL.s0 rfl (SIL.fieldAddr fo_39_2 rfl) ?_
          refine DL.s1 0 rfl rfl (SIL.load Try.underlying4 rfl rfl) ?_
          refine DL.s0 rfl (SIL.move rfl) ?_
          refine DL.s0 rfl (SIL.fieldAddr fo_39_0 rfl) ?_
          refine DL.s1 0 rfl rfl (SIL.load Try.underlying3 rfl rfl) ?_
          refine DL.s0 rfl (SIL.move rfl) ?_
          refine DL.s0 rfl (SIL.add rfl rfl (by unfold I64; omega)) ?_
          refine DL.s0 rfl (SIL.neq rfl rfl) ?_
          refine DL.s0 rfl (SIL.pick rfl rfl rfl) ?_
          refine DL.s0 rfl (SIL.pick rfl rfl rfl) ?_
          refine DL.s0 rfl (SIL.move rfl) ?_
          refine DL.guardF 77 rfl (by first | (simp; done) | (simp; omega)) ?_
          refine DL.s0 rfl (SIL.fieldAddr fo_39_2 rfl) ?_
          refine DL.s1 0 rfl rfl (SIL.load Try.underlying4 rfl rfl) ?_
          refine DL.s0 rfl (SIL.not rfl) ?_
          refine DL.s0 rfl (SIL.move rfl) ?_
          refine DL.pass rfl rfl ?_
          refine DL.pass rfl rfl ?_
          refine DL.pass rfl rfl ?_
          refine DL.s0 rfl (SIL.pick rfl rfl rfl) ?_
          refine DL.s0 rfl (SIL.pick rfl rfl rfl) ?_
          refine DL.s0 rfl (SIL.move rfl) ?_
          refine DL.s0 rfl (SIL.move rfl) ?_
          refine DL.s0 rfl (SIL.fieldAddr fo_39_0 rfl) ?_
          refine DL.s1 0 rfl rfl (SIL.load Try.underlying3 rfl rfl) ?_
          refine DL.s0 rfl (SIL.fieldAddr fo_34_2 rfl) ?_
          refine DL.s1 2 rfl rfl (SIL.load Try.underlying9 rfl rfl) ?_
          apply DL.ex rfl (EX.fn cf_19 (.c rfl (.c rfl .n)) (spec_19' p lh m' aim ha) (by (try dsimp only [List.cons_append, List.nil_append]); repeat (first | with_reducible exact Pk.n | (apply Pk.c; focus ((repeat (first | with_reducible exact Rm.h | apply Rm.t)); done))))) (hg := rfl)
          rintro _ _ ⟨_, _, ⟨rfl, rfl⟩, rfl, rfl⟩
          refine ⟨(.k (by repeat (first | with_reducible exact Mm.h | apply Mm.t)) (by kernel_rfl) (.d (by kernel_rfl) (.d (by kernel_rfl) (.d (by kernel_rfl) (.d (by kernel_rfl) (.d (by kernel_rfl) (.d (by kernel_rfl) (.d (by kernel_rfl) (.d (by kernel_rfl) .n))))))))), ?_⟩
          refine DL.s0 rfl (SIL.sneq rfl rfl) ?_
          refine DL.s0 rfl (SIL.pick rfl rfl rfl) ?_
          refine DL.nil ?_
          refine G.next ?_
          refine T.condF rfl (by first | (simp; done) | (simp; omega)) ?_
          refine T.skip ?_
          refine G.next ?_
          refine T.seq ?_
          refine T.region ?_
          refine TL.s0 (SIL.move rfl) ?_
          refine TL.s0 (SIL.fieldAddr fo_39_0 rfl) ?_
          refine TL.s1 1 rfl (SIL.load Try.underlying3 rfl rfl) ?_
          refine TL.s0 (SIL.max2 rfl rfl) ?_
          refine TL.s0 (SIL.assign rfl) ?_
          refine TL.nil ?_
          refine G.next ?_
          refine T.region ?_
          refine TL.s0 (SIL.move rfl) ?_
          refine TL.s0 (SIL.fieldAddr fo_39_0 rfl) ?_
          refine TL.s1 1 rfl (SIL.load Try.underlying3 rfl rfl) ?_
          refine TL.e1 (EX.mapUpdate (.t (.t (.t .h))) Try.underlying52 rfl rfl rfl) ?_
          refine TL.nil ?_
          refine G.inBlock ?_
          refine G.next ?_
          refine T.seq ?_
          refine T.region ?_
          refine TL.s0 (SIL.move rfl) ?_
          rw [hls]
          skip
          have hinv : BInv B (i + 1) m' ls' := hinv
          have hcap := hinv.cap
          have hfew := hinv.few
          have hll := lsM_len ls'
          refine TL.ex (EX.fn cf_16 (.c rfl .n) (spec_16 p m') (by (try dsimp only [List.cons_append, List.nil_append]); repeat (first | with_reducible exact Pk.n | (apply Pk.c; focus ((repeat (first | with_reducible exact Rm.h | apply Rm.t)); done))))) ?_
          rintro _ _ ⟨_, _, ⟨rfl, rfl⟩, rfl, rfl⟩
          refine TL.s0 (SIL.move rfl) ?_
          refine TL.s0 (SIL.gtr rfl rfl) ?_
          refine TL.s0 (SIL.move rfl) ?_
          refine TL.guardF 136 rfl (by first | (simp; done) | (simp; omega)) ?_
          refine TL.s0 (SIL.move rfl) ?_
          refine TL.s1 3 rfl (SIL.lenMapP Try.underlying52 rfl) ?_
          refine TL.s0 (SIL.move rfl) ?_
          refine TL.ex (EX.fn cf_16 (.c rfl .n) (spec_16 p m') (by (try dsimp only [List.cons_append, List.nil_append]); repeat (first | with_reducible exact Pk.n | (apply Pk.c; focus ((repeat (first | with_reducible exact Rm.h | apply Rm.t)); done))))) ?_
          rintro _ _ ⟨_, _, ⟨rfl, rfl⟩, rfl, rfl⟩
          refine TL.s0 (SIL.gtr rfl rfl) ?_
          refine TL.s0 (SIL.pick rfl rfl rfl) ?_
          refine TL.nil ?_
          refine G.next ?_
          refine T.condF rfl (by first | (simp; done) | (simp; omega)) ?_
          refine T.skip ?_
          refine G.inBlock ?_
          refine G.next ?_
          refine T.region ?_
          refine TL.s0 (SIL.add rfl rfl (by unfold I64; omega)) ?_
          refine TL.s0 (SIL.move rfl) ?_
          refine TL.nil ?_
          exact G.then (G.again (i + 1, m', ls') ⟨by omega, hinv⟩ (by show n - (i + 1) < n - i; omega) (.c rfl (.c rfl (.c rfl (.c (by show some (Value.int .i64 _) = some (.int .i64 _); rw [← hmx]) (.c rfl (.c rfl (.c (by show some _ = some _; congr 2) .n))))))) (fun w s => s.conv fun _ => Sb.to (by (try dsimp only [List.cons_append, List.nil_append]); repeat (first | with_reducible exact Sb.z Tl.z | (apply Sb.c; focus ((repeat (first | with_reducible exact Rm.h | apply Rm.t)); done)) | exact Sb.z (by (repeat (first | exact Tl.z | apply Tl.s)))))))
        | false =>
          have hsh := hf2 rfl
          refine TL.s0 (SIL.move rfl) ?_
          refine TL.s0 (SIL.extract rfl rfl) ?_
          refine TL.s0 (SIL.extract rfl rfl) ?_
          refine TL.ex (EX.alloc zr_39 .agg) ?_
          rintro _ _ ⟨b11, rfl, rfl⟩
          refine TL.e1 (EX.store .h rfl rfl rfl sz_39 rfl (.c .h (.c (.t .h) (.c (.t (.t .h)) .n))) rfl (.inl (Nat.zero_le _))) ?_
          refine TL.s0 (SIL.assign rfl) ?_
          refine TL.nil ?_
          refine G.next ?_
          refine T.seq ?_
          refine T.seq ?_
          refine T.region ?_
          refine TL.s0 (SIL.move rfl) ?_
          refine TL.s0 (SIL.neq rfl rfl) ?_
          refine TL.nil ?_
          refine G.next ?_
          refine T.cond_false rfl ?_
          refine T.skip ?_
          refine G.next ?_
          refine T.seq ?_
          refine T.seq ?_
          refine T.draw [(0, true), (1, true), (2, true), (3, true), (4, true), (5, true), (6, true), (7, true), (8, true), (9, true), (10, true), (11, true), (12, true), (13, true), (14, true), (15, true), (16, true), (17, true), (18, true), (19, true), (20, true), (21, true), (22, true), (23, true), (24, true), (25, true), (26, true), (27, true), (28, true), (29, true), (30, true), (31, true), (32, true), (33, true), (34, true), (36, true), (37, true), (35, false), (38, true), (39, true)] (by kernel_rfl) (by kernel_rfl) ?_
          refine DL.s0 rfl (SIL.move rfl) ?_
          refine DL.s0 rfl (SIL.fieldAddr fo_39_0 rfl) ?_
          refine DL.s1 0 rfl rfl (SIL.load Try.underlying3 rfl rfl) ?_
          refine DL.s1 3 rfl rfl (SIL.lookupS Try.underlying52 zr_4 rfl rfl (by first | assumption | rfl)) ?_
          refine DL.s0 rfl (SIL.move rfl) ?_
          refine DL.s0 rfl (SIL.move rfl) ?_
          refine DL.s0 rfl (SIL.fieldAddr fo_39_1 rfl) ?_
          refine DL.s1 0 rfl rfl (SIL.load Try.underlying3 rfl rfl) ?_
          refine DL.s1 3 rfl rfl (SIL.lookupS Try.underlying52 zr_4 rfl rfl (by first | assumption | rfl)) ?_
          refine DL.s0 rfl (SIL.pick rfl rfl rfl) ?_
          refine DL.s0 rfl (SIL.move rfl) ?_
          refine DL.s0 rfl (SIL.fieldAddr fo_39_2 rfl) ?_
          refine DL.s1 0 rfl rfl (SIL.load Try.underlying4 rfl rfl) ?_
          refine DL.s0 rfl (SIL.move rfl) ?_
          refine DL.pass rfl rfl ?_
          refine DL.pass rfl rfl ?_
          refine DL.pass rfl rfl ?_
          refine DL.pass rfl rfl ?_
          refine DL.pass rfl rfl ?_
          refine DL.s0 rfl (SIL.pick rfl rfl rfl) ?_
          refine DL.s0 rfl (SIL.pick rfl rfl rfl) ?_
          refine DL.s0 rfl (SIL.move rfl) ?_
          refine DL.s0 rfl (SIL.fieldAddr fo_39_2 rfl) ?_
          refine DL.s1 0 rfl rfl (SIL.load Try.underlying4 rfl rfl) ?_
          refine DL.s0 rfl (SIL.not rfl) ?_
          refine DL.s0 rfl (SIL.move rfl) ?_
          refine DL.s0 rfl (SIL.fieldAddr fo_39_1 rfl) ?_
          refine DL.s1 0 rfl rfl (SIL.load Try.underlying3 rfl rfl) ?_
          refine DL.s0 rfl (SIL.neq rfl rfl) ?_
          refine DL.s0 rfl (SIL.pick rfl rfl rfl) ?_
          refine DL.s0 rfl (SIL.pick rfl rfl rfl) ?_
          refine DL.s0 rfl (SIL.move rfl) ?_
          refine DL.guardF 87 rfl (by first | (simp; done) | (simp; omega)) ?_
          refine DL.s0 rfl (SIL.move rfl) ?_
          refine DL.s0 rfl (SIL.fieldAddr fo_39_0 rfl) ?_
          refine DL.s1 0 rfl rfl (SIL.load Try.underlying3 rfl rfl) ?_
          refine DL.s0 rfl (SIL.fieldAddr fo_34_2 rfl) ?_
          refine DL.s1 2 rfl rfl (SIL.load Try.underlying9 rfl rfl) ?_
          apply DL.ex rfl (EX.fn cf_19 (.c rfl (.c rfl .n)) (spec_19' p lh m' aim ha) (by (try dsimp only [List.cons_append, List.nil_append]); repeat (first | with_reducible exact Pk.n | (apply Pk.c; focus ((repeat (first | with_reducible exact Rm.h | apply Rm.t)); done))))) (hg := rfl)
          rintro _ _ ⟨_, _, ⟨rfl, rfl⟩, rfl, rfl⟩
          refine ⟨(.k (by repeat (first | with_reducible exact Mm.h | apply Mm.t)) (by kernel_rfl) (.d (by kernel_rfl) (.d (by kernel_rfl) (.d (by kernel_rfl) (.d (by kernel_rfl) (.d (by kernel_rfl) (.d (by kernel_rfl) (.d (by kernel_rfl) (.d (by kernel_rfl) .n))))))))), ?_⟩
          refine DL.s0 rfl (SIL.sneq rfl rfl) ?_
          refine DL.s0 rfl (SIL.pick rfl rfl rfl) ?_
          refine DL.nil ?_
          refine G.next ?_
          refine T.condF rfl (by first | (simp; done) | (simp; omega)) ?_
          refine T.skip ?_
          refine G.next ?_
          refine T.seq ?_
          refine T.region ?_
          refine TL.s0 (SIL.move rfl) ?_
          refine TL.s0 (SIL.fieldAddr fo_39_0 rfl) ?_
          refine TL.s1 1 rfl (SIL.load Try.underlying3 rfl rfl) ?_
          refine TL.s0 (SIL.max2 rfl rfl) ?_
          refine TL.s0 (SIL.assign rfl) ?_
          refine TL.nil ?_
          refine G.next ?_
          refine T.region ?_
          refine TL.s0 (SIL.move rfl) ?_
          refine TL.s0 (SIL.fieldAddr fo_39_0 rfl) ?_
          refine TL.s1 1 rfl (SIL.load Try.underlying3 rfl rfl) ?_
          refine TL.e1 (EX.mapUpdate (.t (.t (.t .h))) Try.underlying52 rfl rfl rfl) ?_
          refine TL.nil ?_
          refine G.inBlock ?_
          refine G.next ?_
          refine T.seq ?_
          refine T.region ?_
          refine TL.s0 (SIL.move rfl) ?_
          rw [hls]
          skip
          have hinv : BInv B (i + 1) m' ls' := hinv
          have hcap := hinv.cap
          have hfew := hinv.few
          have hll := lsM_len ls'
          refine TL.ex (EX.fn cf_16 (.c rfl .n) (spec_16 p m') (by (try dsimp only [List.cons_append, List.nil_append]); repeat (first | with_reducible exact Pk.n | (apply Pk.c; focus ((repeat (first | with_reducible exact Rm.h | apply Rm.t)); done))))) ?_
          rintro _ _ ⟨_, _, ⟨rfl, rfl⟩, rfl, rfl⟩
          refine TL.s0 (SIL.move rfl) ?_
          refine TL.s0 (SIL.gtr rfl rfl) ?_
          refine TL.s0 (SIL.move rfl) ?_
          refine TL.guardF 136 rfl (by first | (simp; done) | (simp; omega)) ?_
          refine TL.s0 (SIL.move rfl) ?_
          refine TL.s1 3 rfl (SIL.lenMapP Try.underlying52 rfl) ?_
          refine TL.s0 (SIL.move rfl) ?_
          refine TL.ex (EX.fn cf_16 (.c rfl .n) (spec_16 p m') (by (try dsimp only [List.cons_append, List.nil_append]); repeat (first | with_reducible exact Pk.n | (apply Pk.c; focus ((repeat (first | with_reducible exact Rm.h | apply Rm.t)); done))))) ?_
          rintro _ _ ⟨_, _, ⟨rfl, rfl⟩, rfl, rfl⟩
          refine TL.s0 (SIL.gtr rfl rfl) ?_
          refine TL.s0 (SIL.pick rfl rfl rfl) ?_
          refine TL.nil ?_
          refine G.next ?_
          refine T.condF rfl (by first | (simp; done) | (simp; omega)) ?_
          refine T.skip ?_
          refine G.inBlock ?_
          refine G.next ?_
          refine T.region ?_
          refine TL.s0 (SIL.add rfl rfl (by unfold I64; omega)) ?_
          refine TL.s0 (SIL.move rfl) ?_
          refine TL.nil ?_
          exact G.then (G.again (i + 1, m', ls') ⟨by omega, hinv⟩ (by show n - (i + 1) < n - i; omega) (.c rfl (.c rfl (.c rfl (.c (by show some (Value.int .i64 _) = some (.int .i64 _); rw [← hmx]) (.c rfl (.c rfl (.c (by show some _ = some _; congr 2) .n))))))) (fun w s => s.conv fun _ => Sb.to (by (try dsimp only [List.cons_append, List.nil_append]); repeat (first | with_reducible exact Sb.z Tl.z | (apply Sb.c; focus ((repeat (first | with_reducible exact Rm.h | apply Rm.t)); done)) | exact Sb.z (by (repeat (first | exact Tl.z | apply Tl.s)))))))
    · simp only [decide_eq_false_iff_not] at hk1
      refine T.seq ?_
      refine T.region ?_
      refine TL.s0 (SIL.eql rfl rfl) ?_
      refine TL.s0 (SIL.assign rfl) ?_
      refine TL.nil ?_
      refine G.next ?_
      refine T.cond rfl (fun hk2 => ?_) (fun hk2 => ?_)
      · simp only [decide_eq_true_eq] at hk2
        refine T.region ?_
        refine TL.s0 (SIL.move rfl) ?_
        refine TL.s0 (SIL.fieldAddr fo_34_1 rfl) ?_
        refine TL.s1 0 rfl (SIL.load Try.underlying3 rfl rfl) ?_
        refine TL.ex (EX.fn cf_11 (.c rfl (.c rfl .n)) (spec_11 p hh m) (by (try dsimp only [List.cons_append, List.nil_append]); repeat (first | with_reducible exact Pk.n | (apply Pk.c; focus ((repeat (first | with_reducible exact Rm.h | apply Rm.t)); done))))) ?_
        rintro _ _ ⟨_, _, ⟨rfl, rfl⟩, rfl, rfl⟩
        refine TL.nil ?_
        refine G.inBlock ?_
        refine G.next ?_
        refine T.seq ?_
        refine T.region ?_
        refine TL.s0 (SIL.move rfl) ?_
        have hinv : BInv B (i + 1) (turnM m hh 1 2) ls := inv.joined hh
        have hcap := hinv.cap
        have hfew := hinv.few
        have hll := lsM_len ls
        refine TL.ex (EX.fn cf_16 (.c rfl .n) (spec_16 p (turnM m hh 1 2)) (by (try dsimp only [List.cons_append, List.nil_append]); repeat (first | with_reducible exact Pk.n | (apply Pk.c; focus ((repeat (first | with_reducible exact Rm.h | apply Rm.t)); done))))) ?_
        rintro _ _ ⟨_, _, ⟨rfl, rfl⟩, rfl, rfl⟩
        refine TL.s0 (SIL.move rfl) ?_
        refine TL.s0 (SIL.gtr rfl rfl) ?_
        refine TL.s0 (SIL.move rfl) ?_
        refine TL.guardF 136 rfl (by first | (simp; done) | (simp; omega)) ?_
        refine TL.s0 (SIL.move rfl) ?_
        refine TL.s1 2 rfl (SIL.lenMapP Try.underlying52 rfl) ?_
        refine TL.s0 (SIL.move rfl) ?_
        refine TL.ex (EX.fn cf_16 (.c rfl .n) (spec_16 p (turnM m hh 1 2)) (by (try dsimp only [List.cons_append, List.nil_append]); repeat (first | with_reducible exact Pk.n | (apply Pk.c; focus ((repeat (first | with_reducible exact Rm.h | apply Rm.t)); done))))) ?_
        rintro _ _ ⟨_, _, ⟨rfl, rfl⟩, rfl, rfl⟩
        refine TL.s0 (SIL.gtr rfl rfl) ?_
        refine TL.s0 (SIL.pick rfl rfl rfl) ?_
        refine TL.nil ?_
        refine G.next ?_
        refine T.condF rfl (by first | (simp; done) | (simp; omega)) ?_
        refine T.skip ?_
        refine G.inBlock ?_
        refine G.next ?_
        refine T.region ?_
        refine TL.s0 (SIL.add rfl rfl (by unfold I64; omega)) ?_
        refine TL.s0 (SIL.move rfl) ?_
        refine TL.nil ?_
        exact G.then (G.again (i + 1, (turnM m hh 1 2), ls) ⟨by omega, hinv⟩ (by show n - (i + 1) < n - i; omega) (.c rfl (.c rfl (.c rfl (.c (by show some _ = some (Value.int .i64 (turnM m hh 1 2).last); rw [turnM_last]) (.c rfl (.c rfl (.c (by show some _ = some _; congr 2) .n))))))) (fun w s => s.conv fun _ => Sb.to (by (try dsimp only [List.cons_append, List.nil_append]); repeat (first | with_reducible exact Sb.z Tl.z | (apply Sb.c; focus ((repeat (first | with_reducible exact Rm.h | apply Rm.t)); done)) | exact Sb.z (by (repeat (first | exact Tl.z | apply Tl.s)))))))
      · simp only [decide_eq_false_iff_not] at hk2
        refine T.seq ?_
        refine T.region ?_
        refine TL.s0 (SIL.eql rfl rfl) ?_
        refine TL.s0 (SIL.assign rfl) ?_
        refine TL.nil ?_
        refine G.next ?_
        refine T.cond rfl (fun hk3 => ?_) (fun hk3 => ?_)
        · simp only [decide_eq_true_eq] at hk3
          refine T.seq ?_
          refine T.region ?_
          refine TL.s0 (SIL.move rfl) ?_
          refine TL.s0 (SIL.fieldAddr fo_34_1 rfl) ?_
          refine TL.s1 0 rfl (SIL.load Try.underlying3 rfl rfl) ?_
          refine TL.ex (EX.fn cf_13 (.c rfl (.c rfl .n)) (spec_13 p hh m inv.idles) (by (try dsimp only [List.cons_append, List.nil_append]); repeat (first | with_reducible exact Pk.n | (apply Pk.c; focus ((repeat (first | with_reducible exact Rm.h | apply Rm.t)); done))))) ?_
          rintro _ _ ⟨_, _, ⟨rfl, rfl⟩, rfl, rfl⟩
          refine TL.nil ?_
          refine G.next ?_
          refine T.cond rfl (fun hs2 => ?_) (fun hs2 => ?_)
          · simp only [decide_eq_true_eq] at hs2
            obtain ⟨hg, ls', hd, hinv'⟩ := inv.restYes hh hs2
            refine T.seq ?_
            refine T.seq ?_
            refine T.region ?_
            refine TL.s0 (SIL.move rfl) ?_
            refine TL.s0 (SIL.fieldAddr fo_34_1 rfl) ?_
            refine TL.s1 1 rfl (SIL.load Try.underlying3 rfl rfl) ?_
            refine TL.s1 2 rfl (SIL.lookupS Try.underlying52 zr_4 rfl rfl (by first | assumption | rfl)) ?_
            refine TL.s0 (SIL.not rfl) ?_
            refine TL.nil ?_
            refine G.next ?_
            refine T.cond_false rfl ?_
            refine T.skip ?_
            refine G.next ?_
            refine T.region ?_
            refine TL.s0 (SIL.move rfl) ?_
            refine TL.s0 (SIL.fieldAddr fo_34_1 rfl) ?_
            refine TL.s1 1 rfl (SIL.load Try.underlying3 rfl rfl) ?_
            refine TL.e1 (EX.delete (.t (.t .h)) Try.underlying52 rfl rfl rfl) ?_
            refine TL.nil ?_
            refine G.inBlock ?_
            refine G.next ?_
            refine T.seq ?_
            refine T.region ?_
            refine TL.s0 (SIL.move rfl) ?_
            rw [hd]
            skip
            have hinv : BInv B (i + 1) (restM m hh) ls' := hinv'
            have hcap := hinv.cap
            have hfew := hinv.few
            have hll := lsM_len ls'
            refine TL.ex (EX.fn cf_16 (.c rfl .n) (spec_16 p (restM m hh)) (by (try dsimp only [List.cons_append, List.nil_append]); repeat (first | with_reducible exact Pk.n | (apply Pk.c; focus ((repeat (first | with_reducible exact Rm.h | apply Rm.t)); done))))) ?_
            rintro _ _ ⟨_, _, ⟨rfl, rfl⟩, rfl, rfl⟩
            refine TL.s0 (SIL.move rfl) ?_
            refine TL.s0 (SIL.gtr rfl rfl) ?_
            refine TL.s0 (SIL.move rfl) ?_
            refine TL.guardF 136 rfl (by first | (simp; done) | (simp; omega)) ?_
            refine TL.s0 (SIL.move rfl) ?_
            refine TL.s1 2 rfl (SIL.lenMapP Try.underlying52 rfl) ?_
            refine TL.s0 (SIL.move rfl) ?_
            refine TL.ex (EX.fn cf_16 (.c rfl .n) (spec_16 p (restM m hh)) (by (try dsimp only [List.cons_append, List.nil_append]); repeat (first | with_reducible exact Pk.n | (apply Pk.c; focus ((repeat (first | with_reducible exact Rm.h | apply Rm.t)); done))))) ?_
            rintro _ _ ⟨_, _, ⟨rfl, rfl⟩, rfl, rfl⟩
            refine TL.s0 (SIL.gtr rfl rfl) ?_
            refine TL.s0 (SIL.pick rfl rfl rfl) ?_
            refine TL.nil ?_
            refine G.next ?_
            refine T.condF rfl (by first | (simp; done) | (simp; omega)) ?_
            refine T.skip ?_
            refine G.inBlock ?_
            refine G.next ?_
            refine T.region ?_
            refine TL.s0 (SIL.add rfl rfl (by unfold I64; omega)) ?_
            refine TL.s0 (SIL.move rfl) ?_
            refine TL.nil ?_
            exact G.then (G.again (i + 1, (restM m hh), ls') ⟨by omega, hinv⟩ (by show n - (i + 1) < n - i; omega) (.c rfl (.c rfl (.c rfl (.c (by show some _ = some (Value.int .i64 (restM m hh).last); rw [restM_last]) (.c rfl (.c rfl (.c (by show some _ = some _; congr 2) .n))))))) (fun w s => s.conv fun _ => Sb.to (by (try dsimp only [List.cons_append, List.nil_append]); repeat (first | with_reducible exact Sb.z Tl.z | (apply Sb.c; focus ((repeat (first | with_reducible exact Rm.h | apply Rm.t)); done)) | exact Sb.z (by (repeat (first | exact Tl.z | apply Tl.s)))))))
          · simp only [decide_eq_false_iff_not] at hs2
            rw [BInv.restNo hs2]
            refine T.skip ?_
            refine G.inBlock ?_
            refine G.next ?_
            refine T.seq ?_
            refine T.region ?_
            refine TL.s0 (SIL.move rfl) ?_
            have hinv : BInv B (i + 1) m ls := inv.lost
            have hcap := hinv.cap
            have hfew := hinv.few
            have hll := lsM_len ls
            refine TL.ex (EX.fn cf_16 (.c rfl .n) (spec_16 p m) (by (try dsimp only [List.cons_append, List.nil_append]); repeat (first | with_reducible exact Pk.n | (apply Pk.c; focus ((repeat (first | with_reducible exact Rm.h | apply Rm.t)); done))))) ?_
            rintro _ _ ⟨_, _, ⟨rfl, rfl⟩, rfl, rfl⟩
            refine TL.s0 (SIL.move rfl) ?_
            refine TL.s0 (SIL.gtr rfl rfl) ?_
            refine TL.s0 (SIL.move rfl) ?_
            refine TL.guardF 136 rfl (by first | (simp; done) | (simp; omega)) ?_
            refine TL.s0 (SIL.move rfl) ?_
            refine TL.s1 2 rfl (SIL.lenMapP Try.underlying52 rfl) ?_
            refine TL.s0 (SIL.move rfl) ?_
            refine TL.ex (EX.fn cf_16 (.c rfl .n) (spec_16 p m) (by (try dsimp only [List.cons_append, List.nil_append]); repeat (first | with_reducible exact Pk.n | (apply Pk.c; focus ((repeat (first | with_reducible exact Rm.h | apply Rm.t)); done))))) ?_
            rintro _ _ ⟨_, _, ⟨rfl, rfl⟩, rfl, rfl⟩
            refine TL.s0 (SIL.gtr rfl rfl) ?_
            refine TL.s0 (SIL.pick rfl rfl rfl) ?_
            refine TL.nil ?_
            refine G.next ?_
            refine T.condF rfl (by first | (simp; done) | (simp; omega)) ?_
            refine T.skip ?_
            refine G.inBlock ?_
            refine G.next ?_
            refine T.region ?_
            refine TL.s0 (SIL.add rfl rfl (by unfold I64; omega)) ?_
            refine TL.s0 (SIL.move rfl) ?_
            refine TL.nil ?_
            exact G.then (G.again (i + 1, m, ls) ⟨by omega, hinv⟩ (by show n - (i + 1) < n - i; omega) (.c rfl (.c rfl (.c rfl (.c rfl (.c rfl (.c rfl (.c (by show some _ = some _; congr 2) .n))))))) (fun w s => s.conv fun _ => Sb.to (by (try dsimp only [List.cons_append, List.nil_append]); repeat (first | with_reducible exact Sb.z Tl.z | (apply Sb.c; focus ((repeat (first | with_reducible exact Rm.h | apply Rm.t)); done)) | exact Sb.z (by (repeat (first | exact Tl.z | apply Tl.s)))))))
        · simp only [decide_eq_false_iff_not] at hk3
          refine T.seq ?_
          refine T.region ?_
          refine TL.s0 (SIL.eql rfl rfl) ?_
          refine TL.s0 (SIL.assign rfl) ?_
          refine TL.nil ?_
          refine G.next ?_
          refine T.cond rfl (fun hk4 => ?_) (fun hk4 => ?_)
          · simp only [decide_eq_true_eq] at hk4
            obtain ⟨ls', hd, hinv'⟩ := inv.shut hh
            refine T.seq ?_
            refine T.region ?_
            refine TL.s0 (SIL.move rfl) ?_
            refine TL.s0 (SIL.fieldAddr fo_34_1 rfl) ?_
            refine TL.s1 0 rfl (SIL.load Try.underlying3 rfl rfl) ?_
            refine TL.ex (EX.fn cf_15 (.c rfl (.c rfl .n)) (spec_15' p hh m (shutM m hh) _ rfl rfl) (by (try dsimp only [List.cons_append, List.nil_append]); repeat (first | with_reducible exact Pk.n | (apply Pk.c; focus ((repeat (first | with_reducible exact Rm.h | apply Rm.t)); done))))) ?_
            rintro _ _ ⟨_, _, ⟨rfl, rfl⟩, rfl, rfl⟩
            refine TL.nil ?_
            refine G.next ?_
            refine T.region ?_
            refine TL.s0 (SIL.move rfl) ?_
            refine TL.s0 (SIL.fieldAddr fo_34_1 rfl) ?_
            refine TL.s1 1 rfl (SIL.load Try.underlying3 rfl rfl) ?_
            refine TL.e1 (EX.delete (.t (.t .h)) Try.underlying52 rfl rfl rfl) ?_
            refine TL.nil ?_
            refine G.inBlock ?_
            refine G.next ?_
            refine T.seq ?_
            refine T.region ?_
            refine TL.s0 (SIL.move rfl) ?_
            rw [hd]
            skip
            have hinv : BInv B (i + 1) (shutM m hh) ls' := hinv'
            have hcap := hinv.cap
            have hfew := hinv.few
            have hll := lsM_len ls'
            refine TL.ex (EX.fn cf_16 (.c rfl .n) (spec_16 p (shutM m hh)) (by (try dsimp only [List.cons_append, List.nil_append]); repeat (first | with_reducible exact Pk.n | (apply Pk.c; focus ((repeat (first | with_reducible exact Rm.h | apply Rm.t)); done))))) ?_
            rintro _ _ ⟨_, _, ⟨rfl, rfl⟩, rfl, rfl⟩
            refine TL.s0 (SIL.move rfl) ?_
            refine TL.s0 (SIL.gtr rfl rfl) ?_
            refine TL.s0 (SIL.move rfl) ?_
            refine TL.guardF 136 rfl (by first | (simp; done) | (simp; omega)) ?_
            refine TL.s0 (SIL.move rfl) ?_
            refine TL.s1 2 rfl (SIL.lenMapP Try.underlying52 rfl) ?_
            refine TL.s0 (SIL.move rfl) ?_
            refine TL.ex (EX.fn cf_16 (.c rfl .n) (spec_16 p (shutM m hh)) (by (try dsimp only [List.cons_append, List.nil_append]); repeat (first | with_reducible exact Pk.n | (apply Pk.c; focus ((repeat (first | with_reducible exact Rm.h | apply Rm.t)); done))))) ?_
            rintro _ _ ⟨_, _, ⟨rfl, rfl⟩, rfl, rfl⟩
            refine TL.s0 (SIL.gtr rfl rfl) ?_
            refine TL.s0 (SIL.pick rfl rfl rfl) ?_
            refine TL.nil ?_
            refine G.next ?_
            refine T.condF rfl (by first | (simp; done) | (simp; omega)) ?_
            refine T.skip ?_
            refine G.inBlock ?_
            refine G.next ?_
            refine T.region ?_
            refine TL.s0 (SIL.add rfl rfl (by unfold I64; omega)) ?_
            refine TL.s0 (SIL.move rfl) ?_
            refine TL.nil ?_
            exact G.then (G.again (i + 1, (shutM m hh), ls') ⟨by omega, hinv⟩ (by show n - (i + 1) < n - i; omega) (.c rfl (.c rfl (.c rfl (.c rfl (.c rfl (.c rfl (.c (by show some _ = some _; congr 2) .n))))))) (fun w s => s.conv fun _ => Sb.to (by (try dsimp only [List.cons_append, List.nil_append]); repeat (first | with_reducible exact Sb.z Tl.z | (apply Sb.c; focus ((repeat (first | with_reducible exact Rm.h | apply Rm.t)); done)) | exact Sb.z (by (repeat (first | exact Tl.z | apply Tl.s)))))))
          · simp only [decide_eq_false_iff_not] at hk4
            refine T.skip ?_
            refine G.inBlock ?_
            refine G.next ?_
            refine T.seq ?_
            refine T.region ?_
            refine TL.s0 (SIL.move rfl) ?_
            have hinv : BInv B (i + 1) m ls := inv.lost
            have hcap := hinv.cap
            have hfew := hinv.few
            have hll := lsM_len ls
            refine TL.ex (EX.fn cf_16 (.c rfl .n) (spec_16 p m) (by (try dsimp only [List.cons_append, List.nil_append]); repeat (first | with_reducible exact Pk.n | (apply Pk.c; focus ((repeat (first | with_reducible exact Rm.h | apply Rm.t)); done))))) ?_
            rintro _ _ ⟨_, _, ⟨rfl, rfl⟩, rfl, rfl⟩
            refine TL.s0 (SIL.move rfl) ?_
            refine TL.s0 (SIL.gtr rfl rfl) ?_
            refine TL.s0 (SIL.move rfl) ?_
            refine TL.guardF 136 rfl (by first | (simp; done) | (simp; omega)) ?_
            refine TL.s0 (SIL.move rfl) ?_
            refine TL.s1 2 rfl (SIL.lenMapP Try.underlying52 rfl) ?_
            refine TL.s0 (SIL.move rfl) ?_
            refine TL.ex (EX.fn cf_16 (.c rfl .n) (spec_16 p m) (by (try dsimp only [List.cons_append, List.nil_append]); repeat (first | with_reducible exact Pk.n | (apply Pk.c; focus ((repeat (first | with_reducible exact Rm.h | apply Rm.t)); done))))) ?_
            rintro _ _ ⟨_, _, ⟨rfl, rfl⟩, rfl, rfl⟩
            refine TL.s0 (SIL.gtr rfl rfl) ?_
            refine TL.s0 (SIL.pick rfl rfl rfl) ?_
            refine TL.nil ?_
            refine G.next ?_
            refine T.condF rfl (by first | (simp; done) | (simp; omega)) ?_
            refine T.skip ?_
            refine G.inBlock ?_
            refine G.next ?_
            refine T.region ?_
            refine TL.s0 (SIL.add rfl rfl (by unfold I64; omega)) ?_
            refine TL.s0 (SIL.move rfl) ?_
            refine TL.nil ?_
            exact G.then (G.again (i + 1, m, ls) ⟨by omega, hinv⟩ (by show n - (i + 1) < n - i; omega) (.c rfl (.c rfl (.c rfl (.c rfl (.c rfl (.c rfl (.c (by show some _ = some _; congr 2) .n))))))) (fun w s => s.conv fun _ => Sb.to (by (try dsimp only [List.cons_append, List.nil_append]); repeat (first | with_reducible exact Sb.z Tl.z | (apply Sb.c; focus ((repeat (first | with_reducible exact Rm.h | apply Rm.t)); done)) | exact Sb.z (by (repeat (first | exact Tl.z | apply Tl.s)))))))
  · refine T.exit ?_
    refine G.exitThen ?_
    refine G.exitThen ?_
    refine G.exitHere ?_
    refine G.next ?_
    refine T.seq ?_
    refine T.region ?_
    refine TL.s0 (SIL.assign rfl) ?_
    refine TL.nil ?_
    refine G.next ?_
    refine T.ret ?_
    exact G.ret (Hs := []) rfl (.c (resV.tmp rfl) .n) (rfl) (by (try dsimp only [List.cons_append, List.nil_append]); repeat (first | with_reducible exact Pk.n | (apply Pk.c; focus ((repeat (first | with_reducible exact Rm.h | apply Rm.t)); done)))) (by (repeat (first | exact Tl.z | apply Tl.s)))
end Go.Proofs.Ytdekaodgbpngmaa
