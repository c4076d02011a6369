import Derived.Test.YtnmhinolpnnkkaaGreatZT5
set_option maxRecDepth 100000
set_option linter.unusedSimpArgs false
set_option linter.unusedVariables false
namespace Go.AM
open Go.Proofs.Tryz
theorem e197m (off : Nat) (t : TypeId) (ds : List D) (b : Bool) (hc : ds[off]? = some (dU 1)) : PE prog 12 (.r 0 off :: dl [dB false, dB b]) [(0, .blk t (dl ds))] (.d (dB false)) [(0, .blk t (dl ds))] := by
  refine PE_of (Kx nf) (N := 15) (rs := [.tmp 6]) func12 rfl rfl rfl rfl (Nat.le_of_ble_eq_true rfl) okC_one fun B hN => ?_
  refine aw_seq fun K h3 => ?_
  refine rg hN ?_
  simp only [go_sem, ↓reduceIte, reduceCtorEq, Nat.reduceAdd, Nat.reduceMul, Nat.reduceLT, Nat.reduceEqDiff, Nat.reduceLeDiff, Nat.reduceBNe]
  refine h3 _ ?_; clear h3
  refine aw_seq fun K h4 => ?_
  refine rd hN ?_
  simp only [go_sem, ↓reduceIte, reduceCtorEq, Nat.reduceAdd, Nat.reduceMul, Nat.reduceLT, Nat.reduceEqDiff, Nat.reduceLeDiff, Nat.reduceBNe]
  refine call_pf (p310 false) rfl ?_
  simp only [go_sem, ↓reduceIte, reduceCtorEq, Nat.reduceAdd, Nat.reduceMul, Nat.reduceLT, Nat.reduceEqDiff, Nat.reduceLeDiff, Nat.reduceBNe]
  refine call_pf (p310 b) rfl ?_
  simp only [go_sem, ↓reduceIte, reduceCtorEq, Nat.reduceAdd, Nat.reduceMul, Nat.reduceLT, Nat.reduceEqDiff, Nat.reduceLeDiff, Nat.reduceBNe]
  refine call_px1 (x309m off t ds 1 0 (if b then 1 else 0) (by decide) hc) 0 rfl rfl ?_
  simp only [go_sem, ↓reduceIte, reduceCtorEq, Nat.reduceAdd, Nat.reduceMul, Nat.reduceLT, Nat.reduceEqDiff, Nat.reduceLeDiff, Nat.reduceBNe]
  refine ⟨by kernel_rfl, ?_⟩
  refine h4 _ ?_; clear h4
  refine awp_ret (retE_of ?_)
  simp only [go_sem, ↓reduceIte, reduceCtorEq, Nat.reduceAdd, Nat.reduceMul, Nat.reduceLT, Nat.reduceEqDiff, Nat.reduceLeDiff, Nat.reduceBNe]
theorem e97m (c : ConfS) : PE prog 10 (.r 0 0 :: dl []) [(0, .blk 55 (dl (logD c 1)))] (.d (dB false)) [(0, .blk 55 (dl (logD c 1)))] := by
  refine PE_of (Kx nf) (N := 7) (rs := [.tmp 2]) func10 rfl rfl rfl rfl (Nat.le_of_ble_eq_true rfl) okC_one fun B hN => ?_
  refine aw_seq fun K h5 => ?_
  refine rg hN ?_
  simp only [go_sem, ↓reduceIte, reduceCtorEq, Nat.reduceAdd, Nat.reduceMul, Nat.reduceLT, Nat.reduceEqDiff, Nat.reduceLeDiff, Nat.reduceBNe]
  refine h5 _ ?_; clear h5
  refine aw_seq fun K h6 => ?_
  refine rg hN ?_
  simp only [go_sem, ↓reduceIte, reduceCtorEq, Nat.reduceAdd, Nat.reduceMul, Nat.reduceLT, Nat.reduceEqDiff, Nat.reduceLeDiff, Nat.reduceBNe]
  refine call_pe1 (e197m 42 55 (logD c 1) true (log42 c 1)) 0 rfl rfl ?_
  simp only [go_sem, ↓reduceIte, reduceCtorEq, Nat.reduceAdd, Nat.reduceMul, Nat.reduceLT, Nat.reduceEqDiff, Nat.reduceLeDiff, Nat.reduceBNe]
  refine h6 _ ?_; clear h6
  refine awp_ret (retE_of ?_)
  simp only [go_sem, ↓reduceIte, reduceCtorEq, Nat.reduceAdd, Nat.reduceMul, Nat.reduceLT, Nat.reduceEqDiff, Nat.reduceLeDiff, Nat.reduceBNe]
theorem e96m (c : ConfS) (o : List D) (ho : o.length = 6) : PE prog 11 (.r 0 0 :: dl [.g o]) [(0, .blk 55 (dl (logD c 1)))] (.d (.g [dI 10, dI 0, dI 0, dI 0, dS .empty, .l 1 []])) [(0, .blk 55 (dl (logD c 1)))] := by
  refine PE_of (Kx nf) (N := 39) (rs := [.cell 4 62]) func11 rfl rfl rfl rfl (Nat.le_of_ble_eq_true rfl) okC_one fun B hN => ?_
  match o, ho with
  | [o1, o2, o3, o4, o5, o6], _ =>
  refine aw_seq fun K h7 => ?_
  refine rg hN ?_
  simp only [go_sem, ↓reduceIte, reduceCtorEq, Nat.reduceAdd, Nat.reduceMul, Nat.reduceLT, Nat.reduceEqDiff, Nat.reduceLeDiff, Nat.reduceBNe]
  refine h7 _ ?_; clear h7
  refine aw_seq fun K h8 => ?_
  refine aw_seq fun K h9 => ?_
  refine rg hN ?_
  simp only [go_sem, ↓reduceIte, reduceCtorEq, Nat.reduceAdd, Nat.reduceMul, Nat.reduceLT, Nat.reduceEqDiff, Nat.reduceLeDiff, Nat.reduceBNe]
  refine call_pe1 (e192 42 55 (logD c 1) 1 (log42 c 1)) 0 rfl rfl ?_
  simp only [go_sem, ↓reduceIte, reduceCtorEq, Nat.reduceAdd, Nat.reduceMul, Nat.reduceLT, Nat.reduceEqDiff, Nat.reduceLeDiff, Nat.reduceBNe]
  refine h9 _ ?_; clear h9
  refine awp_cond rfl ?_ ?_ <;> intro hc
  · refine aw_seq fun K h10 => ?_
    refine rg hN ?_
    simp only [go_sem, ↓reduceIte, reduceCtorEq, Nat.reduceAdd, Nat.reduceMul, Nat.reduceLT, Nat.reduceEqDiff, Nat.reduceLeDiff, Nat.reduceBNe]
    refine h10 _ ?_; clear h10
    refine awp_ret (retE_of ?_)
    simp only [go_sem, ↓reduceIte, reduceCtorEq, Nat.reduceAdd, Nat.reduceMul, Nat.reduceLT, Nat.reduceEqDiff, Nat.reduceLeDiff, Nat.reduceBNe]
  · simp at hc
def conf0 : ConfS := ⟨1, 20, 0, 1, 100, 1, 100, 0, 16, 1, 1, 1, 1, 1, 1099511627776⟩
end Go.AM
