import Derived.Test.YtnmhinolpnnkkaaGreatZTab
set_option maxRecDepth 100000
set_option linter.unusedSimpArgs false
set_option linter.unusedVariables false
namespace Go.AM
open Go.Proofs.Tryz
def amongS (n a b : Int) : Bool := decide (a ≤ n) && decide (n ≤ b)
theorem p191 (n a b : Int) : PF prog 8 [dI n, dI a, dI b] (dB (amongS n a b)) := by
  refine PF_of' (Kx nf) (N := 15) (rs := [.tmp 6]) func8 rfl rfl rfl rfl (Nat.le_of_ble_eq_true rfl) fun B hN => ?_
  refine aw_seq fun K h => rg hN ?_
  simp only [go_sem, ↓reduceIte, reduceCtorEq, Nat.reduceAdd, Nat.reduceMul, Nat.reduceLT, Nat.reduceEqDiff, Nat.reduceLeDiff, Nat.reduceBNe]
  refine h _ ?_; clear h
  refine aw_seq fun K h => rg hN ?_
  simp only [go_sem, ↓reduceIte, reduceCtorEq, Nat.reduceAdd, Nat.reduceMul, Nat.reduceLT, Nat.reduceEqDiff, Nat.reduceLeDiff, Nat.reduceBNe]
  repeat' (refine guardK_q rfl ?_ ?_ <;> intro hq <;> simp only [hq, go_sem, ↓reduceIte, reduceCtorEq, Nat.reduceAdd, Nat.reduceMul, Nat.reduceLT, Nat.reduceEqDiff, Nat.reduceLeDiff, Nat.reduceBNe])
  all_goals refine h _ (awp_ret (ret_of ?_))
  all_goals simp only [go_sem, ↓reduceIte, reduceCtorEq, Nat.reduceAdd, Nat.reduceMul, Nat.reduceLT, Nat.reduceEqDiff, Nat.reduceLeDiff, Nat.reduceBNe]
  all_goals simp [amongS, hq]
structure ConfS where
  nodes : Int
  seg : Int
  keep : Int
  count : Int
  batch : Int
  most : Int
  window : Int
  held : Int
  chunk : Int
  pending : Int
  links : Int
  beat : Int
  retry : Int
  lease : Int
  top : Int
def confL (c : ConfS) : List D := [dI c.nodes, dI c.seg, dI c.keep, dI c.count, dI c.batch, dI c.most, dI c.window, dI c.held, dI c.chunk, dI c.pending, dI c.links, dI c.beat, dI c.retry, dI c.lease, dI c.top]
def confR (c : ConfS) : Bool :=
  amongS c.nodes 1 8 && amongS c.seg 20 65536 && amongS c.keep 0 1048576 && amongS c.count 1 1048576 && amongS c.batch 100 4096 && amongS c.most 1 8 && amongS c.window c.batch 65536 &&
  amongS c.held 0 8 && amongS c.chunk 16 4096 && amongS c.pending 1 64 && amongS c.links 1 64 && amongS c.beat 1 64 && amongS c.retry c.beat 1024 && amongS c.lease 1 4096 && amongS c.top 1 1099511627776
set_option maxHeartbeats 4000000 in
theorem p94 (c : ConfS) : PF prog 5 [.g (confL c)] (dB (confR c)) := by
  refine PF_of' (Kx nf) (N := 80) (rs := [.tmp 2]) func5 rfl rfl rfl rfl (Nat.le_of_ble_eq_true rfl) fun B hN => ?_
  refine aw_seq fun K h => rg hN ?_
  simp only [confL, go_sem, ↓reduceIte, reduceCtorEq, Nat.reduceAdd, Nat.reduceMul, Nat.reduceLT, Nat.reduceEqDiff, Nat.reduceLeDiff, Nat.reduceBNe]
  refine h _ ?_; clear h
  refine aw_seq fun K h => rg hN ?_
  simp only [confL, go_sem, ↓reduceIte, reduceCtorEq, Nat.reduceAdd, Nat.reduceMul, Nat.reduceLT, Nat.reduceEqDiff, Nat.reduceLeDiff, Nat.reduceBNe]
  repeat' (first
    | (refine guardK_q rfl ?_ ?_ <;> intro hq <;> simp only [hq, go_sem, ↓reduceIte, reduceCtorEq, Nat.reduceAdd, Nat.reduceMul, Nat.reduceLT, Nat.reduceEqDiff, Nat.reduceLeDiff, Nat.reduceBNe])
    | (refine call_pf (p191 _ _ _) rfl ?_ <;> simp only [confL, go_sem, ↓reduceIte, reduceCtorEq, Nat.reduceAdd, Nat.reduceMul, Nat.reduceLT, Nat.reduceEqDiff, Nat.reduceLeDiff, Nat.reduceBNe]))
  all_goals refine h _ (awp_ret (ret_of ?_))
  all_goals simp only [confL, go_sem, ↓reduceIte, reduceCtorEq, Nat.reduceAdd, Nat.reduceMul, Nat.reduceLT, Nat.reduceEqDiff, Nat.reduceLeDiff, Nat.reduceBNe]
  all_goals simp [confR, *]
end Go.AM
