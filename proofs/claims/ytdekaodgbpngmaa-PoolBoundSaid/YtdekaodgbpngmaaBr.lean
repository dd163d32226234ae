/- The row of the law of the bound. -/
import Derived.Test.YtdekaodgbpngmaaRows
import Derived.Test.YtdekaodgbpngmaaBp
import Derived.WalkKit
import Derived.ProofKit
import Derived.OpenShut
import Derived.ShutString
import Derived.ChangeOld
import Derived.Below
import Derived.SizedLaws
import Derived.Carry
import Derived.Deep.Slices
namespace Go.Proofs.Ytdekaodgbpngmaa
open Go.ChangeShapes Go.WideShapes Go.ChangeAt Go.RowKit Go.SL
instance : Inhabited OpV := ⟨⟨0, 0, ByteArray.empty, []⟩⟩
theorem one1 {H : Type} {enc : TypeId × Value → H} {W : World} {fuel t e : Nat} {cs : List Value} {x : DataW H × List MemPlace} (ht : Try.prog.underlying t = some (.slice e)) (h : DataW.trod enc Try.prog W 0 (fun _ => true) true fuel t cs = some x) : ∃ v, cs = [v] ∧ one v = true := by
  rcases DataW.trod_slice ht h with ⟨h, _⟩ | ⟨a, l, c, _, _, _, _, h, _⟩
  · exact ⟨_, h, rfl⟩
  · exact ⟨_, h, rfl⟩
theorem op_of {H : Type} {enc : TypeId × Value → H} {W : World} {fuel : Nat} {cs : List Value} {x : DataW H × List MemPlace} (h : DataW.trod enc Try.prog W 0 (fun _ => true) true fuel 34 cs = some x) :
    ∃ o : OpV, o.cells = cs ∧ o.rest.length = 5 ∧ o.rest.all one = true := by
  obtain ⟨xs, n, _, _, hl, hlen, hf⟩ := DataW.trod_struct Try.underlying34 h
  have h8 : Try.prog.cellsOf 34 = 8 := by kernel_rfl
  have c3 : Try.prog.cellsOf 3 = 1 := by kernel_rfl
  have c9 : Try.prog.cellsOf 9 = 1 := by kernel_rfl
  have c2 : Try.prog.cellsOf 2 = 1 := by kernel_rfl
  have c32 : Try.prog.cellsOf 32 = 2 := by kernel_rfl
  have c30 : Try.prog.cellsOf 30 = 1 := by kernel_rfl
  rw [h8] at hl
  match cs, hl with
  | [a0, a1, a2, a3, a4, a5, a6, a7], _ =>
    have g : ∀ i, i < 7 → ∃ y, xs[i]? = some y := fun i hi => ⟨xs[i]'(by rw [hlen]; exact hi), List.getElem?_eq_getElem _⟩
    obtain ⟨y0, e0⟩ := g 0 (by omega)
    obtain ⟨y1, e1⟩ := g 1 (by omega)
    obtain ⟨y2, e2⟩ := g 2 (by omega)
    obtain ⟨y3, e3⟩ := g 3 (by omega)
    obtain ⟨y4, e4⟩ := g 4 (by omega)
    obtain ⟨y5, e5⟩ := g 5 (by omega)
    obtain ⟨y6, e6⟩ := g 6 (by omega)
    have f0 := (hf 0 { name := "Kind", type := 3, offset := 0, embedded := false, tag := "", pkgPath := "", byteOffset := 0 } rfl).trans e0
    have f1 := (hf 1 { name := "H", type := 3, offset := 1, embedded := false, tag := "", pkgPath := "", byteOffset := 8 } rfl).trans e1
    have f2 := (hf 2 { name := "Aim", type := 9, offset := 2, embedded := false, tag := "", pkgPath := "", byteOffset := 16 } rfl).trans e2
    have f3 := (hf 3 { name := "Up", type := 32, offset := 3, embedded := false, tag := "", pkgPath := "", byteOffset := 32 } rfl).trans e3
    have f4 := (hf 4 { name := "Now", type := 2, offset := 5, embedded := false, tag := "", pkgPath := "", byteOffset := 72 } rfl).trans e4
    have f5 := (hf 5 { name := "Fails", type := 3, offset := 6, embedded := false, tag := "", pkgPath := "", byteOffset := 80 } rfl).trans e5
    have f6 := (hf 6 { name := "Cool", type := 3, offset := 7, embedded := false, tag := "", pkgPath := "", byteOffset := 88 } rfl).trans e6
    simp only [c3, c9, c2, c32] at f0 f1 f2 f3 f4 f5 f6
    obtain ⟨k0, q0, _⟩ := DataW.trod_int Try.underlying3 f0
    obtain ⟨k1, q1, _⟩ := DataW.trod_int Try.underlying3 f1
    obtain ⟨k2, q2, _⟩ := DataW.trod_string Try.underlying9 f2
    obtain ⟨k4, q4, _⟩ := DataW.trod_int Try.underlying2 f4
    obtain ⟨k5, q5, _⟩ := DataW.trod_int Try.underlying3 f5
    obtain ⟨k6, q6, _⟩ := DataW.trod_int Try.underlying3 f6
    obtain ⟨zs, n', _, _, _, hzl, hz⟩ := DataW.trod_struct Try.underlying32 f3
    obtain ⟨z0, d0⟩ : ∃ y, zs[0]? = some y := ⟨zs[0]'(by rw [hzl]; decide), List.getElem?_eq_getElem _⟩
    obtain ⟨z1, d1⟩ : ∃ y, zs[1]? = some y := ⟨zs[1]'(by rw [hzl]; decide), List.getElem?_eq_getElem _⟩
    have j0 := (hz 0 { name := "Name", type := 9, offset := 0, embedded := false, tag := "", pkgPath := "", byteOffset := 0 } rfl).trans d0
    have j1 := (hz 1 { name := "Aims", type := 30, offset := 1, embedded := false, tag := "", pkgPath := "", byteOffset := 16 } rfl).trans d1
    simp only [c9, c30] at j0 j1
    obtain ⟨m0, p0, _⟩ := DataW.trod_string Try.underlying9 j0
    obtain ⟨m1, p1, hm1⟩ := one1 Try.underlying30 j1
    simp at q0 q1 q2 q4 q5 q6 p0 p1
    subst q0 q1 q2 q4 q5 q6 p0 p1
    exact ⟨⟨k0, k1, k2, [.string m0, a4, .int .i64 k4, .int .i64 k5, .int .i64 k6]⟩, rfl, rfl, by simp [one, hm1] <;> exact hm1⟩
theorem cells_get {w : World} {a : Addr} {n : Nat} {cs : List Value} (h : w.cells? 0 a n = some cs) : ∀ j v, cs[j]? = some v → w.cell? (a.add j) = some v := by
  unfold World.cells? at h
  rw [if_pos (Nat.zero_le _)] at h
  intro j v hj
  have hlen := mapM_some_length h
  have hjl : j < cs.length := (List.getElem?_eq_some_iff.1 hj).1
  have := mapM_some_get h j j (by rw [List.length_range] at hlen; exact List.getElem?_range (by omega))
  rw [this, hj]
theorem scr_of {H : Type} {enc : TypeId × Value → H} {W : World} {fuel len cap : Nat} {a : Option Addr} {x : DataW H × List MemPlace} (hf : DataW.trod enc Try.prog W 0 (fun _ => true) true fuel 22 [.slice a len cap] = some x) :
    (∃ ops, Scr (Base.ofW W) a len ops) ∧ len ≤ maxLen := by
  rcases Go.Deep.open_slice Try.underlying22 hf with ⟨hcs, _⟩ | ⟨y, l, c, m, n, D, Pl, hcs, _, hl, hm, hmm, _, hel⟩
  · simp at hcs
    obtain ⟨rfl, rfl, rfl⟩ := hcs
    exact ⟨⟨[], rfl, fun i o h => by simp at h⟩, by decide⟩
  · simp at hcs
    obtain ⟨rfl, rfl, rfl⟩ := hcs
    have h8 : Try.prog.cellsOf 34 = 8 := by kernel_rfl
    rw [h8] at hel
    simp only [if_true] at hmm
    refine ⟨?_, by omega⟩
    obtain ⟨f, hfn⟩ := Go.Deep.choose_lt (n := len) (p := fun i (o : OpV) => ∃ b off, some y = some ⟨b, off, none⟩ ∧ BaseRd (Base.ofW W) b (off + i * 8) o.cells ∧ o.rest.length = 5 ∧ o.rest.all one = true) fun i hi => by
      obtain ⟨cs', h1, h2⟩ := hel i (by omega)
      obtain ⟨o, ho1, ho2, ho3⟩ := op_of h2
      have hg := cells_get h1
      subst ho1
      have hsp : y.spot = none := by
        obtain ⟨cs0, g1, g2⟩ := hel 0 (by omega)
        obtain ⟨o0, e0, _⟩ := op_of g2
        subst e0
        have h0 := cells_get g1 0 _ rfl
        have e : (y.add (0 * 8)).add 0 = y := rfl
        rw [e] at h0
        unfold World.cell? at h0
        split at h0
        · split at h0
          · cases h0
          · rename_i hs
            simpa using hs
        · cases h0
      obtain ⟨b, off, sp⟩ := y
      subst hsp
      refine ⟨o, b, off, rfl, BaseRd.ofW fun j v hj => ?_, ho2, ho3⟩
      have := hg j v hj
      rw [Go.SL.addr_add, Go.SL.addr_add] at this
      exact this
    refine ⟨(List.range len).map f, by simp, fun i o ho => ?_⟩
    rw [List.getElem?_map] at ho
    have hi : i < len := by
      rcases Nat.lt_or_ge i len with h | h
      · exact h
      · rw [List.getElem?_eq_none (by simpa using h)] at ho; cases ho
    rw [List.getElem?_range hi] at ho
    cases ho
    exact hfn i hi
theorem walk_4 (W : World) (most : Int) (q : Option Addr) (n c : Nat) (ops : List OpV) (hs : Scr (Base.ofW W) q n ops) (hn : n ≤ maxLen) : Calls Try.prog 4 #[.int .i64 most, .slice q n c] W fun e W' => e = .returned (.bool true) ∧ Below W.heap.size W W' :=
  (spec_4 (β := Base.ofW W) most q n c ops hs (by unfold maxLen at hn; omega) [] W (Sat.start W)).mono fun e w' ⟨v, Hs, he, hv, s⟩ => ⟨by rw [he, hv], s.below⟩
namespace poolBound
theorem own : ownKnob Try.prog.godebug = none := by kernel_rfl
theorem laidOut : laidOutB Try.prog = true := by kernel_rfl
set_option maxRecDepth 100000 in
theorem lifted (os : Os) (started : os.Started) (H : Type) (enc : TypeId × Value → H) :
    ReturnsInHanded {} Try.checked os 4 .any (Rows.poolBoundSpec.pre6 enc Try.prog Try.f4 Rows.poolBoundRow.domain false) (Rows.poolBoundSpec.post enc Try.prog Try.f4 false true false false) := by
  refine returnsInHanded_of_change_sized (C := Try.checked) own started (by kernel_rfl) Try.func4
    (ChangeSpec.witness6 (enc := enc) (C := Try.checked) false ⟨#[], #[.int .i64 0, .slice none 0 0], []⟩ 8 (by kernel_rfl) (by kernel_rfl) (by kernel_rfl) (by kernel_rfl)) ?_
  intro W base args ds gs before hval0 hW hcnd hsz0 _
  have hval : ∀ (j : Nat) t v, Try.f4.params[j]? = some t → args[j]? = some v → Value.okWide Try.prog W .any base t v := hval0
  have hW' := hW
  obtain ⟨p, q, hA0, hV, rfl, hfz, hnd⟩ := hW
  have hA : DataW.TrodAll enc Try.prog W 0 (fun _ => true) true Try.f4.params.toList args.toList ds p := hA0
  rw [Try.params4] at hA hval
  obtain ⟨v0, vs0, d0, ds0, p0, q0, hargs, rfl, rfl, h0, r0⟩ := trodAll_cons hA
  obtain ⟨v1, vs1, d1, ds1, p1, q1, rfl, rfl, rfl, h1, r1⟩ := trodAll_cons r0
  obtain ⟨rfl, rfl, rfl⟩ := trodAll_nil r1
  obtain rfl : args = #[v0, v1] := by cases args; simp_all
  obtain ⟨rfl, rfl⟩ := trodVars_none hV
  obtain ⟨a0, rfl, rfl, rfl, w0⟩ := open_int Try.underlying3 (hval 0 3 v0 rfl rfl) h0
  obtain ⟨a1, len1, cap1, rfl⟩ := okWide_slice Try.underlying22 (hval 1 22 v1 rfl rfl)
  have k1 := h1
  have lt1 : ∀ x ∈ p1, x.block < W.heap.size := by
    obtain ⟨m, hm⟩ := k1
    exact DataW.trod_lt m _ _ _ hm
  obtain ⟨fuel, hf⟩ := h1
  obtain ⟨⟨ops, hs⟩, hn⟩ := scr_of hf
  clear hA0 hval0 hsz0
  refine (walk_4 W a0 a1 len1 cap1 ops hs hn).mono fun e W' ⟨he, bel⟩ => ?_
  subst he
  exact ⟨_, rfl, _, _, _, [], _, [], hW', trodAll_mk1 (shut_bool Try.underlying4 _), trodAll_cons_mk (shut_int Try.underlying3 w0) (trodAll_cons_mk (Below.trod laidOut (by kernel_rfl) (of_decide_eq_true (by kernel_rfl)) k1 bel lt1) trodAll_mk0), rfl, bel.frame _, fun h => by cases h⟩
theorem over : Rows.poolBoundRow.holds Try.pinned (OpenSpec.ofChange Rows.poolBoundSpec) :=
  OpenClaim.holds_of_wide 4 Try.f4 rfl rfl rfl rfl rfl rfl rfl ⟨rfl, rfl, rfl, rfl, rfl⟩ rfl rfl rfl rfl rfl (by kernel_rfl) Try.func4 (by kernel_rfl)
    (of_decide_eq_true (by kernel_rfl)) (by unfold Func.isWrapper; first | (rw [if_pos (by decide +kernel)]; kernel_rfl) | (rw [if_neg (by decide +kernel)]; exact ⟨rfl, rfl⟩))
    (fun os started H enc _ => lifted os started H enc)
theorem proved : Rows.PoolBoundSaid := over
end poolBound
theorem poolBound_holds : Rows.PoolBoundSaid := poolBound.proved
#print axioms poolBound_holds
end Go.Proofs.Ytdekaodgbpngmaa
