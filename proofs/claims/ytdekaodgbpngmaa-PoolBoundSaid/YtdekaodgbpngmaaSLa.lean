/- Own layer: partial heaps, a separating conjunction over lists of parts, and what a world holds. -/
import Derived.RangeFuncIn
import Derived.RangeFuncLeaves
import Derived.Below
import Derived.OrdersIn
import Derived.KernelRfl
namespace Go.SL
open Go Go.RowKit

/-- A part of a heap. -/
abbrev PH := Nat → Option Obj
abbrev HP := PH → Prop

def PH.le (h k : PH) : Prop := ∀ b o, h b = some o → k b = some o
def PH.dj (h k : PH) : Prop := ∀ b, h b = none ∨ k b = none
def PH.un (h k : PH) : PH := fun b => match h b with | some o => some o | none => k b
def PH.emp : PH := fun _ => none
def PH.one (b : Nat) (o : Obj) : PH := fun c => if c = b then some o else none

theorem PH.emp_le (h : PH) : PH.emp.le h := fun _ _ e => by cases e
theorem PH.emp_dj (h : PH) : PH.emp.dj h := fun _ => .inl rfl
theorem PH.le_refl (h : PH) : h.le h := fun _ _ e => e
theorem PH.le_trans {a b c : PH} (h : a.le b) (k : b.le c) : a.le c := fun x o e => k x o (h x o e)
theorem PH.dj_symm {a b : PH} (h : a.dj b) : b.dj a := fun x => (h x).symm
theorem PH.none_of_le {a b : PH} (h : a.le b) {x : Nat} (e : b x = none) : a x = none := by
  cases ha : a x with
  | none => rfl
  | some o => rw [h x o ha] at e; cases e
theorem PH.dj_le {a b c d : PH} (h : a.dj b) (ha : c.le a) (hb : d.le b) : c.dj d := fun x =>
  (h x).imp (fun e => none_of_le ha e) (fun e => none_of_le hb e)
theorem PH.le_un_left (a b : PH) : a.le (a.un b) := fun x o e => by simp [PH.un, e]
theorem PH.le_un_right {a b : PH} (h : a.dj b) : b.le (a.un b) := fun x o e => by
  rcases h x with h | h
  · simp [PH.un, h, e]
  · rw [h] at e; cases e
theorem PH.un_le {a b c : PH} (ha : a.le c) (hb : b.le c) : (a.un b).le c := fun x o e => by
  unfold PH.un at e
  cases hx : a x with
  | some o' => rw [hx] at e; exact ha x o (by rw [hx]; exact e)
  | none => rw [hx] at e; exact hb x o e
theorem PH.dj_un {a b c : PH} (h1 : a.dj c) (h2 : b.dj c) : (a.un b).dj c := fun x => by
  rcases h1 x with h | h
  · rcases h2 x with k | k
    · exact .inl (by simp [PH.un, h, k])
    · exact .inr k
  · exact .inr h

def star (p q : HP) : HP := fun h => ∃ h1 h2 : PH, h1.dj h2 ∧ h1.le h ∧ h2.le h ∧ p h1 ∧ q h2
def stars : List HP → HP
  | [] => fun _ => True
  | c :: cs => star c (stars cs)
/-- Block b holds o. -/
def blk (b : Nat) (o : Obj) : HP := fun h => h b = some o
def pur (φ : Prop) : HP := fun _ => φ
def ex {α : Type} (p : α → HP) : HP := fun h => ∃ x, p x h

theorem star_le {p q : HP} {h k : PH} (hs : star p q h) (hk : h.le k) : star p q k := by
  obtain ⟨a, b, d, ha, hb, x, y⟩ := hs
  exact ⟨a, b, d, PH.le_trans ha hk, PH.le_trans hb hk, x, y⟩
theorem stars_le : ∀ {H : List HP} {h k : PH}, stars H h → h.le k → stars H k
  | [], _, _, _, _ => trivial
  | _ :: _, _, _, hs, hk => star_le hs hk
theorem star_mono {p p' q q' : HP} {h : PH} (hs : star p q h) (hp : ∀ k, p k → p' k) (hq : ∀ k, q k → q' k) : star p' q' h := by
  obtain ⟨a, b, d, ha, hb, x, y⟩ := hs
  exact ⟨a, b, d, ha, hb, hp _ x, hq _ y⟩
theorem star_comm {p q : HP} {h : PH} (hs : star p q h) : star q p h := by
  obtain ⟨a, b, d, ha, hb, x, y⟩ := hs
  exact ⟨b, a, PH.dj_symm d, hb, ha, y, x⟩
theorem star_swap {p q r : HP} {h : PH} (hs : star p (star q r) h) : star q (star p r) h := by
  obtain ⟨a, bc, d, ha, hbc, x, b, c, d', hb, hc, y, z⟩ := hs
  have dab : a.dj b := PH.dj_le d (PH.le_refl _) hb
  have dac : a.dj c := PH.dj_le d (PH.le_refl _) hc
  exact ⟨b, a.un c, PH.dj_symm (PH.dj_un dab (PH.dj_symm d')), PH.le_trans hb hbc, PH.un_le ha (PH.le_trans hc hbc), y, a, c, dac, PH.le_un_left _ _, PH.le_un_right dac, x, z⟩
theorem star_assoc {p q r : HP} {h : PH} (hs : star (star p q) r h) : star p (star q r) h := by
  obtain ⟨ab, c, d, hab, hc, ⟨a, b, d', ha, hb, x, y⟩, z⟩ := hs
  have dbc : b.dj c := PH.dj_le d hb (PH.le_refl _)
  have dac : a.dj c := PH.dj_le d ha (PH.le_refl _)
  exact ⟨a, b.un c, PH.dj_symm (PH.dj_un (PH.dj_symm d') (PH.dj_symm dac)), PH.le_trans ha hab, PH.un_le (PH.le_trans hb hab) hc, x, b, c, dbc, PH.le_un_left _ _, PH.le_un_right dbc, y, z⟩
theorem star_assoc' {p q r : HP} {h : PH} (hs : star p (star q r) h) : star (star p q) r h := by
  obtain ⟨a, bc, d, ha, hbc, x1, b, c, d', hb, hc, y, z⟩ := hs
  have dab : a.dj b := PH.dj_le d (PH.le_refl _) hb
  have dac : a.dj c := PH.dj_le d (PH.le_refl _) hc
  exact ⟨a.un b, c, PH.dj_un dac d', PH.un_le ha (PH.le_trans hb hbc), PH.le_trans hc hbc, ⟨a, b, dab, PH.le_un_left _ _, PH.le_un_right dab, x1, y⟩, z⟩
theorem stars_append {A B : List HP} : ∀ {h : PH}, stars (A ++ B) h → star (stars A) (stars B) h := by
  induction A with
  | nil => exact fun {h} hs => ⟨PH.emp, h, PH.emp_dj _, PH.emp_le _, PH.le_refl _, trivial, hs⟩
  | cons c cs ih => exact fun {h} hs => star_assoc' (star_mono hs (fun _ x => x) (fun _ x => ih x))
theorem stars_append' {A B : List HP} : ∀ {h : PH}, star (stars A) (stars B) h → stars (A ++ B) h := by
  induction A with
  | nil => exact fun {h} hs => by obtain ⟨a, b, d, ha, hb, x, y⟩ := hs; exact stars_le y hb
  | cons c cs ih => exact fun {h} hs => star_mono (star_assoc hs) (fun _ x => x) (fun _ x => ih x)

/-- 'H' without one of its parts 'c' is 'K'. -/
inductive Rm : List HP → HP → List HP → Prop
  | h {c : HP} {H : List HP} : Rm (c :: H) c H
  | t {c x : HP} {H K : List HP} : Rm H c K → Rm (x :: H) c (x :: K)
theorem Rm.to {H K : List HP} {c : HP} (r : Rm H c K) : ∀ {h : PH}, stars H h → star c (stars K) h := by
  induction r with
  | h => exact fun hs => hs
  | t _ ih => exact fun hs => star_swap (star_mono hs (fun _ x => x) (fun _ x => ih x))
theorem Rm.of {H K : List HP} {c : HP} (r : Rm H c K) : ∀ {h : PH}, star c (stars K) h → stars H h := by
  induction r with
  | h => exact fun hs => hs
  | t _ ih => exact fun hs => star_mono (star_swap hs) (fun _ x => x) (fun _ x => ih x)
/-- 'H' is the parts 'A' (in whatever order) and the rest 'K'. -/
inductive Pk : List HP → List HP → List HP → Prop
  | n {H : List HP} : Pk H [] H
  | c {H K F A : List HP} {c : HP} : Rm H c K → Pk K A F → Pk H (c :: A) F
theorem Pk.to {H A F : List HP} (p : Pk H A F) : ∀ {h : PH}, stars H h → stars (A ++ F) h := by
  induction p with
  | n => exact fun hs => hs
  | c r _ ih => exact fun hs => star_mono (r.to hs) (fun _ x => x) (fun _ x => ih x)
/-- 'F' is a tail of 'H'. -/
inductive Tl : List HP → List HP → Prop
  | z {F : List HP} : Tl F F
  | s {H F : List HP} {c : HP} : Tl H F → Tl (c :: H) F
theorem Tl.to {H F : List HP} (t : Tl H F) : ∀ {h : PH}, stars H h → stars F h := by
  induction t with
  | z => exact fun hs => hs
  | s _ ih => exact fun ⟨_, _, _, _, hb, _, y⟩ => stars_le (ih y) hb

def nth : List HP → Nat → Option HP
  | [], _ => none
  | c :: _, 0 => some c
  | _ :: H, k + 1 => nth H k
theorem rm_of_nth : ∀ {H : List HP} {k : Nat} {c : HP}, nth H k = some c → ∃ K, Rm H c K
  | [], _, _, h => by cases h
  | x :: H, 0, c, h => by simp [nth] at h; subst h; exact ⟨H, .h⟩
  | x :: H, k + 1, c, h => by obtain ⟨K, r⟩ := rm_of_nth (H := H) (k := k) h; exact ⟨x :: K, .t r⟩
def repl : List HP → Nat → HP → List HP
  | [], _, _ => []
  | _ :: H, 0, c => c :: H
  | x :: H, k + 1, c => x :: repl H k c
theorem rm_repl : ∀ {H : List HP} {k : Nat} {c : HP}, nth H k = some c → ∃ K, Rm H c K ∧ ∀ c', Rm (repl H k c') c' K
  | [], _, _, h => by cases h
  | x :: H, 0, c, h => by simp [nth] at h; subst h; exact ⟨H, .h, fun _ => .h⟩
  | x :: H, k + 1, c, h => by obtain ⟨K, r, s⟩ := rm_repl (H := H) (k := k) h; exact ⟨x :: K, .t r, fun c' => .t (s c')⟩

/-! ### worlds -/
structure Base where
  heap : PH
  os : Os
  tape : Nat → Question → Nat
  output : Array (Nat × ByteArray)

def ph (w : World) : PH := fun b => w.heap[b]?

/-- The world holds the base, unturned, and beside it the parts 'H'. -/
def Sat (β : Base) (H : List HP) (w : World) : Prop :=
  β.heap.le (ph w) ∧ (w.os = β.os ∧ w.tape = β.tape ∧ w.output = β.output) ∧ ∃ h : PH, h.dj β.heap ∧ h.le (ph w) ∧ stars H h

theorem Sat.conv {β : Base} {H K : List HP} {w : World} (s : Sat β H w) (hk : ∀ h, stars H h → stars K h) : Sat β K w := by
  obtain ⟨b, e, h, d, l, x⟩ := s
  exact ⟨b, e, h, d, l, hk h x⟩
theorem Sat.rm {β : Base} {H K : List HP} {c : HP} {w : World} (s : Sat β H w) (r : Rm H c K) : Sat β (c :: K) w := s.conv fun _ => r.to
theorem Sat.unrm {β : Base} {H K : List HP} {c : HP} {w : World} (s : Sat β (c :: K) w) (r : Rm H c K) : Sat β H w := s.conv fun _ => r.of
theorem Sat.pk {β : Base} {H A F : List HP} {w : World} (s : Sat β H w) (p : Pk H A F) : Sat β (A ++ F) w := s.conv fun _ => p.to
theorem Sat.tl {β : Base} {H F : List HP} {w : World} (s : Sat β H w) (t : Tl H F) : Sat β F w := s.conv fun _ => t.to
theorem Sat.head {β : Base} {H : List HP} {c c' : HP} {w : World} (s : Sat β (c :: H) w) (h : ∀ k, c k → c' k) : Sat β (c' :: H) w :=
  s.conv fun _ x => star_mono x h (fun _ y => y)
theorem Sat.head_star {β : Base} {H : List HP} {p q : HP} {w : World} (s : Sat β (star p q :: H) w) : Sat β (p :: q :: H) w := s.conv fun _ x => star_assoc x
theorem Sat.head_unstar {β : Base} {H : List HP} {p q : HP} {w : World} (s : Sat β (p :: q :: H) w) : Sat β (star p q :: H) w := s.conv fun _ x => star_assoc' x
theorem Sat.head_ex {β : Base} {H : List HP} {α : Type} {p : α → HP} {w : World} (s : Sat β (ex p :: H) w) : ∃ x, Sat β (p x :: H) w := by
  obtain ⟨b, e, h, d, l, h1, h2, d', l1, l2, ⟨x, hx⟩, y⟩ := s
  exact ⟨x, b, e, h, d, l, h1, h2, d', l1, l2, hx, y⟩
theorem Sat.head_unex {β : Base} {H : List HP} {α : Type} {p : α → HP} {w : World} (x : α) (s : Sat β (p x :: H) w) : Sat β (ex p :: H) w :=
  s.head fun _ h => ⟨x, h⟩
theorem Sat.head_pur {β : Base} {H : List HP} {φ : Prop} {w : World} (s : Sat β (pur φ :: H) w) : φ ∧ Sat β H w := by
  obtain ⟨b, e, h, d, l, h1, h2, d', l1, l2, hx, y⟩ := s
  exact ⟨hx, b, e, h, d, l, stars_le y l2⟩
theorem Sat.head_unpur {β : Base} {H : List HP} {φ : Prop} {w : World} (hφ : φ) (s : Sat β H w) : Sat β (pur φ :: H) w :=
  s.conv fun h x => ⟨PH.emp, h, PH.emp_dj _, PH.emp_le _, PH.le_refl _, hφ, x⟩
theorem Sat.drop {β : Base} {H : List HP} {c : HP} {w : World} (s : Sat β (c :: H) w) : Sat β H w := s.tl (.s .z)
theorem Sat.mid {β : Base} {H : List HP} {w : World} (s : Sat β H w) {k : Nat} {c : HP} (hk : nth H k = some c) : Sat β [c] w := by
  obtain ⟨K, r⟩ := rm_of_nth hk
  exact (s.rm r).conv fun _ x => star_mono x (fun _ y => y) (fun _ _ => trivial)
theorem Sat.heap {β : Base} {H : List HP} {w : World} {b : Nat} {o : Obj} (s : Sat β (blk b o :: H) w) : w.heap[b]? = some o := by
  obtain ⟨_, e, h, d, l, h1, h2, d', l1, l2, hx, y⟩ := s
  exact l _ _ (l1 _ _ hx)
theorem Sat.heap_nth {β : Base} {H : List HP} {w : World} {k b : Nat} {o : Obj} (s : Sat β H w) (hk : nth H k = some (blk b o)) : w.heap[b]? = some o := (s.mid hk).heap
theorem Sat.base {β : Base} {H : List HP} {w : World} (s : Sat β H w) {b : Nat} {o : Obj} (h : β.heap b = some o) : w.heap[b]? = some o := s.1 _ _ h

/-- One block of the parts' own turns. -/
theorem Sat.put {β : Base} {F : List HP} {w w' : World} {b : Nat} {o o' : Obj} (s : Sat β (blk b o :: F) w)
    (hb : w'.heap[b]? = some o') (hr : ∀ k, k ≠ b → w'.heap[k]? = w.heap[k]?) (he : w'.os = w.os ∧ w'.tape = w.tape ∧ w'.output = w.output) : Sat β (blk b o' :: F) w' := by
  obtain ⟨hβ, ⟨e1, e2, e3⟩, h, d, l, h1, h2, d', l1, l2, hx, y⟩ := s
  have hβb : β.heap b = none := (d b).resolve_left (by rw [l1 _ _ hx]; exact Option.some_ne_none _)
  have h2b : h2 b = none := (d' b).resolve_left (by rw [show h1 b = _ from hx]; exact Option.some_ne_none _)
  refine ⟨fun k u hk => ?_, ⟨he.1.trans e1, he.2.1.trans e2, he.2.2.trans e3⟩, (PH.one b o').un h2, ?_, ?_, PH.one b o', h2, ?_, ?_, ?_, ?_, y⟩
  · have : k ≠ b := fun e => by rw [e, hβb] at hk; cases hk
    show w'.heap[k]? = some u
    rw [hr k this]; exact hβ k u hk
  · refine PH.dj_un (fun k => ?_) (PH.dj_le d l2 (PH.le_refl _))
    by_cases hk : k = b
    · exact .inr (hk ▸ hβb)
    · exact .inl (by simp [PH.one, hk])
  · refine PH.un_le (fun k u hk => ?_) (fun k u hk => ?_)
    · by_cases e : k = b
      · subst e; simp [PH.one] at hk; subst hk; exact hb
      · simp [PH.one, e] at hk
    · have : k ≠ b := fun e => by rw [e, h2b] at hk; cases hk
      show w'.heap[k]? = some u
      rw [hr k this]; exact l _ _ (l2 _ _ hk)
  · intro k
    by_cases e : k = b
    · exact .inr (e ▸ h2b)
    · exact .inl (by simp [PH.one, e])
  · exact PH.le_un_left _ _
  · exact PH.le_un_right (fun k => by
      by_cases e : k = b
      · exact .inr (e ▸ h2b)
      · exact .inl (by simp [PH.one, e]))
  · simp [blk, PH.one]
/-- The world has grown by one block. -/
theorem Sat.alloc {β : Base} {F : List HP} {w w' : World} {o : Obj} (s : Sat β F w)
    (hw : w'.heap = w.heap.push o) (he : w'.os = w.os ∧ w'.tape = w.tape ∧ w'.output = w.output) : Sat β (blk w.heap.size o :: F) w' := by
  obtain ⟨hβ, ⟨e1, e2, e3⟩, h, d, l, y⟩ := s
  have hlt : ∀ k u, w.heap[k]? = some u → k < w.heap.size := fun k u hk => (Array.getElem?_eq_some_iff.1 hk).1
  have hold : ∀ k u, w.heap[k]? = some u → w'.heap[k]? = some u := fun k u hk => by
    rw [hw, Array.getElem?_push, if_neg (by have := hlt k u hk; omega)]; exact hk
  have hn : h w.heap.size = none := by
    cases hc : h w.heap.size with
    | none => rfl
    | some u => exact absurd (hlt _ _ (l _ _ hc)) (Nat.lt_irrefl _)
  have hdj : (PH.one w.heap.size o).dj h := fun k => by
    by_cases e : k = w.heap.size
    · exact .inr (e ▸ hn)
    · exact .inl (by simp [PH.one, e])
  refine ⟨fun k u hk => hold k u (hβ k u hk), ⟨he.1.trans e1, he.2.1.trans e2, he.2.2.trans e3⟩, (PH.one w.heap.size o).un h, ?_, ?_, PH.one w.heap.size o, h, hdj, PH.le_un_left _ _, PH.le_un_right hdj, by simp [blk, PH.one], y⟩
  · refine PH.dj_un (fun k => ?_) d
    by_cases e : k = w.heap.size
    · right
      cases hc : β.heap k with
      | none => rfl
      | some u => exact absurd (hlt _ _ (hβ _ _ hc)) (by omega)
    · exact .inl (by simp [PH.one, e])
  · refine PH.un_le (fun k u hk => ?_) (fun k u hk => hold k u (l k u hk))
    by_cases e : k = w.heap.size
    · subst e; simp [PH.one] at hk; subst hk
      show w'.heap[w.heap.size]? = _
      rw [hw]; simp
    · simp [PH.one, e] at hk
/-- The world keeps its heap. -/
theorem Sat.same {β : Base} {F : List HP} {w w' : World} (s : Sat β F w) (hw : w'.heap = w.heap) (he : w'.os = w.os ∧ w'.tape = w.tape ∧ w'.output = w.output) : Sat β F w' := by
  obtain ⟨hβ, ⟨e1, e2, e3⟩, h, d, l, y⟩ := s
  have : ph w' = ph w := by unfold ph; rw [hw]
  exact ⟨this ▸ hβ, ⟨he.1.trans e1, he.2.1.trans e2, he.2.2.trans e3⟩, h, d, this ▸ l, y⟩

/-- A whole world as a base. -/
def Base.ofW (w : World) : Base := ⟨ph w, w.os, w.tape, w.output⟩
theorem Sat.start (w : World) : Sat (Base.ofW w) [] w := ⟨PH.le_refl _, ⟨rfl, rfl, rfl⟩, PH.emp, PH.emp_dj _, PH.emp_le _, trivial⟩
theorem Sat.below {w w' : World} {H : List HP} (s : Sat (Base.ofW w) H w') : Below w.heap.size w w' := by
  obtain ⟨hβ, ⟨e1, e2, e3⟩, _⟩ := s
  have hk : ∀ k, k < w.heap.size → w'.heap[k]? = w.heap[k]? := fun k hk => by
    have := hβ k w.heap[k] (by show w.heap[k]? = _; simp [hk])
    rw [show w'.heap[k]? = _ from this]; simp [hk]
  refine ⟨e1, e2, e3, ?_, hk⟩
  rcases Nat.lt_or_ge w'.heap.size w.heap.size with h | h
  · have h1 := hk w'.heap.size h
    rw [Array.getElem?_eq_none (Nat.le_refl _)] at h1
    simp [h] at h1
  · exact h
/-- The base with some own parts laid beside it, for a while. -/
def Base.with (β : Base) (h : PH) : Base := { β with heap := β.heap.un h }

end Go.SL
