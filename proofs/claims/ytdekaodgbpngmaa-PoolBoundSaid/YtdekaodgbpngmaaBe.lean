/- The example, the law of the bound. -/
import Derived.Test.YtdekaodgbpngmaaTk
import Derived.Test.YtdekaodgbpngmaaSLn
namespace Go.Proofs.Ytdekaodgbpngmaa
open Go Go.RowKit Go.SL
abbrev sa : ByteArray := ⟨#[97]⟩
abbrev sb : ByteArray := ⟨#[98]⟩
theorem spec_5' {β : Base} (most r : Int) (h : min (max most 0) 64 = r) : FSpec Try.prog β 5 #[.int .i64 most] [] (fun v Hs => ∃ p, v = .pointer (some ⟨p, 0, none⟩) ∧ Hs = [PoolP p ⟨r, 0, [], []⟩]) := h ▸ spec_5 most
theorem spec_9' {β : Base} (p : Nat) (aim : ByteArray) (m : PM) (r : PM × LeaseM × Int) (ok : m.ok) (h : takeM m aim = r) : FSpec Try.prog β 9 #[.pointer (some ⟨p, 0, none⟩), .string aim] [PoolP p m] (Ret (takeV r) [PoolP p r.1]) := h ▸ spec_9 p aim m ok
theorem spec_11' {β : Base} (p : Nat) (k : Int) (m m' : PM) (b : Bool) (hb : decide (stateOf m k = 1) = b) (h : turnM m k 1 2 = m') : FSpec Try.prog β 11 #[.pointer (some ⟨p, 0, none⟩), .int .i64 k] [PoolP p m] (Ret (.bool b) [PoolP p m']) := h ▸ hb ▸ spec_11 p k m
theorem spec_13' {β : Base} (p : Nat) (k : Int) (m m' : PM) (b : Bool) (hl : m.idles.length ≤ 1000000) (hb : decide (stateOf m k = 2) = b) (h : restM m k = m') : FSpec Try.prog β 13 #[.pointer (some ⟨p, 0, none⟩), .int .i64 k] [PoolP p m] (Ret (.bool b) [PoolP p m']) := h ▸ hb ▸ spec_13 p k m hl
theorem spec_15' {β : Base} (p : Nat) (k : Int) (m m' : PM) (b : Bool) (hb : (mget m.all k).isSome = b) (h : shutM m k = m') : FSpec Try.prog β 15 #[.pointer (some ⟨p, 0, none⟩), .int .i64 k] [PoolP p m] (Ret (.bool b) [PoolP p m']) := h ▸ hb ▸ spec_15 p k m
theorem spec_16' {β : Base} (p : Nat) (m : PM) (n : Int) (h : (m.all.length : Int) = n) : FSpec Try.prog β 16 #[.pointer (some ⟨p, 0, none⟩)] [PoolP p m] (Ret (.int .i64 n) [PoolP p m]) := h ▸ spec_16 p m
theorem spec_17' {β : Base} (p : Nat) (k : Int) (m : PM) (s : Int) (h : stateOf m k = s) : FSpec Try.prog β 17 #[.pointer (some ⟨p, 0, none⟩), .int .i64 k] [PoolP p m] (Ret (.int .i64 s) [PoolP p m]) := h ▸ spec_17 p k m
theorem spec_19' {β : Base} (p : Nat) (k : Int) (m : PM) (s : ByteArray) (h : aimOf m k = s) : FSpec Try.prog β 19 #[.pointer (some ⟨p, 0, none⟩), .int .i64 k] [PoolP p m] (Ret (.string s) [PoolP p m]) := h ▸ spec_19 p k m
theorem spec_6 {β : Base} : FSpec Try.prog β 6 #[] [] (fun v Hs => v = .bool true ∧ ∃ p m, Hs = [PoolP p m]) := by
  refine FSpec.body (args := []) Try.func6 rfl rfl fun F => ?_
  show T _ _ _ F _
  refine T.seq ?_
  refine T.region ?_
  refine TL.s0 (SIL.assign rfl) ?_
  refine TL.nil ?_
  refine G.next ?_
  refine T.seq ?_
  refine T.region ?_
  refine TL.ex (EX.fn cf_5 (.c rfl .n) (spec_5' 1 1 rfl) (by (try dsimp only [List.cons_append, List.nil_append]); repeat (first | with_reducible exact Pk.n | (apply Pk.c; focus ((repeat (first | with_reducible exact Rm.h | apply Rm.t)); done))))) ?_
  rintro _ _ ⟨_, _, ⟨p, rfl, rfl⟩, rfl, rfl⟩
  refine TL.s0 (SIL.assign rfl) ?_
  refine TL.nil ?_
  refine G.next ?_
  refine T.seq ?_
  refine T.seq ?_
  refine T.region ?_
  refine TL.s0 (SIL.move rfl) ?_
  refine TL.s0 (SIL.eqP Try.underlying23 rfl rfl (EQV.pnil Try.underlying23)) ?_
  refine TL.nil ?_
  refine G.next ?_
  refine T.cond_false rfl ?_
  refine T.skip ?_
  refine G.next ?_
  refine T.seq ?_
  refine T.region ?_
  refine TL.s0 (SIL.move rfl) ?_
  refine TL.ex (EX.fn cf_9 (.c rfl (.c rfl .n)) (spec_9' p sa ⟨1, 0, [], []⟩ (⟨1, 1, [(1, sa, 1)], []⟩, ⟨1, 0, true⟩, 0) ⟨by simp, by simp, by simp, by simp⟩ rfl) (by (try dsimp only [List.cons_append, List.nil_append]); repeat (first | with_reducible exact Pk.n | (apply Pk.c; focus ((repeat (first | with_reducible exact Rm.h | apply Rm.t)); done))))) ?_
  rintro _ _ ⟨_, _, ⟨rfl, rfl⟩, rfl, rfl⟩
  refine TL.s0 (SIL.move rfl) ?_
  refine TL.s0 (SIL.extract rfl rfl) ?_
  refine TL.s0 (SIL.extract rfl rfl) ?_
  refine TL.ex (EX.alloc zr_39 .agg) ?_
  rintro _ _ ⟨b2, rfl, rfl⟩
  refine TL.e1 (EX.store .h rfl rfl rfl sz_39 rfl (.c .h (.c (.t .h) (.c (.t (.t .h)) .n))) rfl (.inl (Nat.zero_le _))) ?_
  refine TL.s0 (SIL.assign rfl) ?_
  refine TL.nil ?_
  refine G.next ?_
  refine T.seq ?_
  refine T.seq ?_
  refine T.region ?_
  refine TL.s1 0 rfl (SIL.loadA Try.underlying39 sz_39 rfl rfl) ?_
  refine TL.s0 (SIL.bld bt_39 (.c rfl (.c rfl .n)) (.c rfl rfl rfl rfl (.c .h .n) (.c rfl rfl rfl rfl (.c (.t (.t .h)) .n) .n))) ?_
  refine TL.s0 (SIL.neS rfl rfl (EQV.struct (k := 0) Try.underlying39 (by kernel_rfl) (.c rfl Try.underlying3 rfl rfl rfl (EQV.int Try.underlying3) (.c rfl Try.underlying3 rfl rfl rfl (EQV.int Try.underlying3) (.c rfl Try.underlying4 rfl rfl rfl (EQV.bool Try.underlying4) .n)))) (by kernel_rfl)) ?_
  refine TL.s0 (SIL.move rfl) ?_
  refine TL.s0 (SIL.move rfl) ?_
  refine TL.s0 (SIL.neq rfl rfl) ?_
  refine TL.s0 (SIL.pick rfl rfl rfl) ?_
  refine TL.s0 (SIL.move rfl) ?_
  refine TL.s0 (SIL.move rfl) ?_
  refine TL.ex (EX.fn cf_11 (.c rfl (.c rfl .n)) (spec_11' p 1 ⟨1, 1, [(1, sa, 1)], []⟩ ⟨1, 1, [(1, sa, 2)], []⟩ true rfl rfl) (by (try dsimp only [List.cons_append, List.nil_append]); repeat (first | with_reducible exact Pk.n | (apply Pk.c; focus ((repeat (first | with_reducible exact Rm.h | apply Rm.t)); done))))) ?_
  rintro _ _ ⟨_, _, ⟨rfl, rfl⟩, rfl, rfl⟩
  refine TL.s0 (SIL.not rfl) ?_
  refine TL.s0 (SIL.pick rfl rfl rfl) ?_
  refine TL.s0 (SIL.move rfl) ?_
  refine TL.s0 (SIL.move rfl) ?_
  refine TL.ex (EX.fn cf_13 (.c rfl (.c rfl .n)) (spec_13' p 1 ⟨1, 1, [(1, sa, 2)], []⟩ ⟨1, 1, [(1, sa, 3)], [1]⟩ true (by simp) rfl rfl) (by (try dsimp only [List.cons_append, List.nil_append]); repeat (first | with_reducible exact Pk.n | (apply Pk.c; focus ((repeat (first | with_reducible exact Rm.h | apply Rm.t)); done))))) ?_
  rintro _ _ ⟨_, _, ⟨rfl, rfl⟩, rfl, rfl⟩
  refine TL.s0 (SIL.not rfl) ?_
  refine TL.s0 (SIL.pick rfl rfl rfl) ?_
  refine TL.nil ?_
  refine G.next ?_
  refine T.cond_false rfl ?_
  refine T.skip ?_
  refine G.next ?_
  refine T.seq ?_
  refine T.region ?_
  refine TL.s0 (SIL.move rfl) ?_
  refine TL.ex (EX.fn cf_9 (.c rfl (.c rfl .n)) (spec_9' p sa ⟨1, 1, [(1, sa, 3)], [1]⟩ (⟨1, 1, [(1, sa, 2)], []⟩, ⟨1, 0, false⟩, 0) ⟨by simp [mget], by simp, by simp, by simp⟩ rfl) (by (try dsimp only [List.cons_append, List.nil_append]); repeat (first | with_reducible exact Pk.n | (apply Pk.c; focus ((repeat (first | with_reducible exact Rm.h | apply Rm.t)); done))))) ?_
  rintro _ _ ⟨_, _, ⟨rfl, rfl⟩, rfl, rfl⟩
  refine TL.s0 (SIL.move rfl) ?_
  refine TL.s0 (SIL.extract rfl rfl) ?_
  refine TL.s0 (SIL.extract rfl rfl) ?_
  refine TL.ex (EX.alloc zr_39 .agg) ?_
  rintro _ _ ⟨b4, rfl, rfl⟩
  refine TL.e1 (EX.store .h rfl rfl rfl sz_39 rfl (.c .h (.c (.t .h) (.c (.t (.t .h)) .n))) rfl (.inl (Nat.zero_le _))) ?_
  refine TL.s0 (SIL.assign rfl) ?_
  refine TL.nil ?_
  refine G.next ?_
  refine T.seq ?_
  refine T.region ?_
  refine TL.s0 (SIL.move rfl) ?_
  refine TL.ex (EX.fn cf_9 (.c rfl (.c rfl .n)) (spec_9' p sb ⟨1, 1, [(1, sa, 2)], []⟩ (⟨1, 1, [(1, sa, 2)], []⟩, ⟨0, 0, false⟩, 6) ⟨by simp [mget], by simp, by simp, by simp⟩ rfl) (by (try dsimp only [List.cons_append, List.nil_append]); repeat (first | with_reducible exact Pk.n | (apply Pk.c; focus ((repeat (first | with_reducible exact Rm.h | apply Rm.t)); done))))) ?_
  rintro _ _ ⟨_, _, ⟨rfl, rfl⟩, rfl, rfl⟩
  refine TL.s0 (SIL.move rfl) ?_
  refine TL.s0 (SIL.extract rfl rfl) ?_
  refine TL.s0 (SIL.extract rfl rfl) ?_
  refine TL.ex (EX.alloc zr_39 .agg) ?_
  rintro _ _ ⟨b6, rfl, rfl⟩
  refine TL.e1 (EX.store .h rfl rfl rfl sz_39 rfl (.c .h (.c (.t .h) (.c (.t (.t .h)) .n))) rfl (.inl (Nat.zero_le _))) ?_
  refine TL.s0 (SIL.assign rfl) ?_
  refine TL.nil ?_
  refine G.next ?_
  refine T.seq ?_
  refine T.seq ?_
  refine T.region ?_
  refine TL.s1 2 rfl (SIL.loadA Try.underlying39 sz_39 rfl rfl) ?_
  refine TL.s0 (SIL.bld bt_39 (.c rfl .n) (.c rfl rfl rfl rfl (.c .h .n) .n)) ?_
  refine TL.s0 (SIL.neS rfl rfl (EQV.struct (k := 0) Try.underlying39 (by kernel_rfl) (.c rfl Try.underlying3 rfl rfl rfl (EQV.int Try.underlying3) (.c rfl Try.underlying3 rfl rfl rfl (EQV.int Try.underlying3) (.c rfl Try.underlying4 rfl rfl rfl (EQV.bool Try.underlying4) .n)))) (by kernel_rfl)) ?_
  refine TL.s0 (SIL.move rfl) ?_
  refine TL.s0 (SIL.move rfl) ?_
  refine TL.s0 (SIL.neq rfl rfl) ?_
  refine TL.s0 (SIL.pick rfl rfl rfl) ?_
  refine TL.s0 (SIL.move rfl) ?_
  refine TL.s0 (SIL.move rfl) ?_
  refine TL.ex (EX.fn cf_13 (.c rfl (.c rfl .n)) (spec_13' p 1 ⟨1, 1, [(1, sa, 2)], []⟩ ⟨1, 1, [(1, sa, 3)], [1]⟩ true (by simp) rfl rfl) (by (try dsimp only [List.cons_append, List.nil_append]); repeat (first | with_reducible exact Pk.n | (apply Pk.c; focus ((repeat (first | with_reducible exact Rm.h | apply Rm.t)); done))))) ?_
  rintro _ _ ⟨_, _, ⟨rfl, rfl⟩, rfl, rfl⟩
  refine TL.s0 (SIL.not rfl) ?_
  refine TL.s0 (SIL.pick rfl rfl rfl) ?_
  refine TL.nil ?_
  refine G.next ?_
  refine T.cond_false rfl ?_
  refine T.skip ?_
  refine G.next ?_
  refine T.seq ?_
  refine T.region ?_
  refine TL.s0 (SIL.move rfl) ?_
  refine TL.ex (EX.fn cf_9 (.c rfl (.c rfl .n)) (spec_9' p sb ⟨1, 1, [(1, sa, 3)], [1]⟩ (⟨1, 2, [(2, sb, 1)], []⟩, ⟨2, 1, true⟩, 0) ⟨by simp [mget], by simp, by simp, by simp⟩ rfl) (by (try dsimp only [List.cons_append, List.nil_append]); repeat (first | with_reducible exact Pk.n | (apply Pk.c; focus ((repeat (first | with_reducible exact Rm.h | apply Rm.t)); done))))) ?_
  rintro _ _ ⟨_, _, ⟨rfl, rfl⟩, rfl, rfl⟩
  refine TL.s0 (SIL.move rfl) ?_
  refine TL.s0 (SIL.extract rfl rfl) ?_
  refine TL.s0 (SIL.extract rfl rfl) ?_
  refine TL.ex (EX.alloc zr_39 .agg) ?_
  rintro _ _ ⟨b8, rfl, rfl⟩
  refine TL.e1 (EX.store .h rfl rfl rfl sz_39 rfl (.c .h (.c (.t .h) (.c (.t (.t .h)) .n))) rfl (.inl (Nat.zero_le _))) ?_
  refine TL.s0 (SIL.assign rfl) ?_
  refine TL.nil ?_
  refine G.next ?_
  refine T.seq ?_
  refine T.region ?_
  refine TL.s1 0 rfl (SIL.loadA Try.underlying39 sz_39 rfl rfl) ?_
  refine TL.s0 (SIL.bld bt_39 (.c rfl (.c rfl (.c rfl .n))) (.c rfl rfl rfl rfl (.c .h .n) (.c rfl rfl rfl rfl (.c (.t .h) .n) (.c rfl rfl rfl rfl (.c (.t (.t .h)) .n) .n)))) ?_
  refine TL.s0 (SIL.eqS rfl rfl (EQV.struct (k := 0) Try.underlying39 (by kernel_rfl) (.c rfl Try.underlying3 rfl rfl rfl (EQV.int Try.underlying3) (.c rfl Try.underlying3 rfl rfl rfl (EQV.int Try.underlying3) (.c rfl Try.underlying4 rfl rfl rfl (EQV.bool Try.underlying4) .n)))) (by kernel_rfl)) ?_
  refine TL.s0 (SIL.move rfl) ?_
  refine TL.s0 (SIL.move rfl) ?_
  refine TL.ex (EX.fn cf_16 (.c rfl .n) (spec_16' p ⟨1, 2, [(2, sb, 1)], []⟩ 1 rfl) (by (try dsimp only [List.cons_append, List.nil_append]); repeat (first | with_reducible exact Pk.n | (apply Pk.c; focus ((repeat (first | with_reducible exact Rm.h | apply Rm.t)); done))))) ?_
  rintro _ _ ⟨_, _, ⟨rfl, rfl⟩, rfl, rfl⟩
  refine TL.s0 (SIL.eql rfl rfl) ?_
  refine TL.s0 (SIL.pick rfl rfl rfl) ?_
  refine TL.s0 (SIL.move rfl) ?_
  refine TL.s0 (SIL.move rfl) ?_
  refine TL.ex (EX.fn cf_17 (.c rfl (.c rfl .n)) (spec_17' p 2 ⟨1, 2, [(2, sb, 1)], []⟩ 1 rfl) (by (try dsimp only [List.cons_append, List.nil_append]); repeat (first | with_reducible exact Pk.n | (apply Pk.c; focus ((repeat (first | with_reducible exact Rm.h | apply Rm.t)); done))))) ?_
  rintro _ _ ⟨_, _, ⟨rfl, rfl⟩, rfl, rfl⟩
  refine TL.s0 (SIL.eql rfl rfl) ?_
  refine TL.s0 (SIL.pick rfl rfl rfl) ?_
  refine TL.s0 (SIL.move rfl) ?_
  refine TL.s0 (SIL.move rfl) ?_
  refine TL.ex (EX.fn cf_19 (.c rfl (.c rfl .n)) (spec_19' p 2 ⟨1, 2, [(2, sb, 1)], []⟩ sb rfl) (by (try dsimp only [List.cons_append, List.nil_append]); repeat (first | with_reducible exact Pk.n | (apply Pk.c; focus ((repeat (first | with_reducible exact Rm.h | apply Rm.t)); done))))) ?_
  rintro _ _ ⟨_, _, ⟨rfl, rfl⟩, rfl, rfl⟩
  refine TL.s0 (SIL.seql rfl rfl) ?_
  refine TL.s0 (SIL.pick rfl rfl rfl) ?_
  refine TL.s0 (SIL.move rfl) ?_
  refine TL.s0 (SIL.move rfl) ?_
  refine TL.ex (EX.fn cf_15 (.c rfl (.c rfl .n)) (spec_15' p 2 ⟨1, 2, [(2, sb, 1)], []⟩ ⟨1, 2, [], []⟩ true rfl rfl) (by (try dsimp only [List.cons_append, List.nil_append]); repeat (first | with_reducible exact Pk.n | (apply Pk.c; focus ((repeat (first | with_reducible exact Rm.h | apply Rm.t)); done))))) ?_
  rintro _ _ ⟨_, _, ⟨rfl, rfl⟩, rfl, rfl⟩
  refine TL.s0 (SIL.pick rfl rfl rfl) ?_
  refine TL.s0 (SIL.move rfl) ?_
  refine TL.s0 (SIL.move rfl) ?_
  refine TL.ex (EX.fn cf_15 (.c rfl (.c rfl .n)) (spec_15' p 2 ⟨1, 2, [], []⟩ ⟨1, 2, [], []⟩ false rfl rfl) (by (try dsimp only [List.cons_append, List.nil_append]); repeat (first | with_reducible exact Pk.n | (apply Pk.c; focus ((repeat (first | with_reducible exact Rm.h | apply Rm.t)); done))))) ?_
  rintro _ _ ⟨_, _, ⟨rfl, rfl⟩, rfl, rfl⟩
  refine TL.s0 (SIL.not rfl) ?_
  refine TL.s0 (SIL.pick rfl rfl rfl) ?_
  refine TL.s0 (SIL.assign rfl) ?_
  refine TL.nil ?_
  refine G.next ?_
  refine T.ret ?_
  exact G.ret (Hs := [PoolP p _]) rfl (.c (resV.tmp rfl) .n) (⟨rfl, p, _, rfl⟩) (by (try dsimp only [List.cons_append, List.nil_append]); repeat (first | with_reducible exact Pk.n | (apply Pk.c; focus ((repeat (first | with_reducible exact Rm.h | apply Rm.t)); done)))) (by (repeat (first | exact Tl.z | apply Tl.s)))
end Go.Proofs.Ytdekaodgbpngmaa
