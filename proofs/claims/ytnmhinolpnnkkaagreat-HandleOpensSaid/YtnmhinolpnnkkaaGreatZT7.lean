import Derived.Test.YtnmhinolpnnkkaaGreatZT6
set_option maxRecDepth 100000
set_option linter.unusedSimpArgs false
set_option linter.unusedVariables false
namespace Go.AM
open Go.Proofs.Tryz
def knob0 : List D := [.c (.int .u8 0), .c (.int .u8 0), .c (.int .u8 0), .c (.int .u8 0), .c (.int .u8 0), .c (.int .u8 0), .c (.int .u8 0), .c (.int .u8 0), .c (.int .u8 0), .c (.int .u8 0), .c (.int .u8 0), .c (.int .u8 0)]
theorem p67z : PF prog 9 [.g knob0] (.g (confL conf0)) := by
  refine PF_of' (Kx nf) (N := 90) (rs := [.cell 2 23]) func9 rfl rfl rfl rfl (Nat.le_of_ble_eq_true rfl) fun B hN => ?_
  refine aw_seq fun K h1 => ?_
  refine rg hN ?_
  simp only [knob0, go_sem, ↓reduceIte, reduceCtorEq, Nat.reduceAdd, Nat.reduceMul, Nat.reduceLT, Nat.reduceEqDiff, Nat.reduceLeDiff, Nat.reduceBNe, Int.reduceToNat, Int.reduceLE, Int.reduceLT, Int.reduceNatCast', Int.reduceEq]
  refine h1 _ ?_; clear h1
  refine aw_seq fun K h2 => ?_
  refine rg hN ?_
  simp only [knob0, go_sem, ↓reduceIte, reduceCtorEq, Nat.reduceAdd, Nat.reduceMul, Nat.reduceLT, Nat.reduceEqDiff, Nat.reduceLeDiff, Nat.reduceBNe, Int.reduceToNat, Int.reduceLE, Int.reduceLT, Int.reduceNatCast', Int.reduceEq]
  refine h2 _ ?_; clear h2
  refine aw_seq fun K h3 => ?_
  refine rg hN ?_
  simp only [knob0, go_sem, ↓reduceIte, reduceCtorEq, Nat.reduceAdd, Nat.reduceMul, Nat.reduceLT, Nat.reduceEqDiff, Nat.reduceLeDiff, Nat.reduceBNe, Int.reduceToNat, Int.reduceLE, Int.reduceLT, Int.reduceNatCast', Int.reduceEq]
  refine h3 _ ?_; clear h3
  refine aw_seq fun K h4 => ?_
  refine rg hN ?_
  simp only [knob0, go_sem, ↓reduceIte, reduceCtorEq, Nat.reduceAdd, Nat.reduceMul, Nat.reduceLT, Nat.reduceEqDiff, Nat.reduceLeDiff, Nat.reduceBNe, Int.reduceToNat, Int.reduceLE, Int.reduceLT, Int.reduceNatCast', Int.reduceEq]
  refine h4 _ ?_; clear h4
  refine aw_seq fun K h5 => ?_
  refine aw_seq fun K h6 => ?_
  refine rg hN ?_
  simp only [knob0, go_sem, ↓reduceIte, reduceCtorEq, Nat.reduceAdd, Nat.reduceMul, Nat.reduceLT, Nat.reduceEqDiff, Nat.reduceLeDiff, Nat.reduceBNe, Int.reduceToNat, Int.reduceLE, Int.reduceLT, Int.reduceNatCast', Int.reduceEq]
  refine h6 _ ?_; clear h6
  refine awp_cond rfl ?_ ?_ <;> intro hc
  · exact absurd hc (by decide)
  · refine awp_skip ?_
    refine h5 _ ?_; clear h5
    refine aw_seq fun K h9 => ?_
    refine rg hN ?_
    simp only [knob0, go_sem, ↓reduceIte, reduceCtorEq, Nat.reduceAdd, Nat.reduceMul, Nat.reduceLT, Nat.reduceEqDiff, Nat.reduceLeDiff, Nat.reduceBNe, Int.reduceToNat, Int.reduceLE, Int.reduceLT, Int.reduceNatCast', Int.reduceEq]
    refine h9 _ ?_; clear h9
    refine awp_ret (ret_of ?_)
    simp only [knob0, go_sem, ↓reduceIte, reduceCtorEq, Nat.reduceAdd, Nat.reduceMul, Nat.reduceLT, Nat.reduceEqDiff, Nat.reduceLeDiff, Nat.reduceBNe, Int.reduceToNat, Int.reduceLE, Int.reduceLT, Int.reduceNatCast', Int.reduceEq]
    rfl
theorem e93 (c : ConfS) (hq : confR c = true) : PE prog 4 [.d (.g (confL c))] [] (.t [.r 4002 0, .d (dI 0)]) [(4002, .blk 55 (dl (logD c 0)))] := by
  refine PE_of (Kx nf) (N := 10) (rs := [.tmp 2, .tmp 3]) func4 rfl rfl rfl rfl (Nat.le_of_ble_eq_true rfl) rfl fun B hN => ?_
  refine aw_seq fun K h1 => ?_
  refine rg hN ?_
  simp only [confL, go_sem, ↓reduceIte, reduceCtorEq, Nat.reduceAdd, Nat.reduceMul, Nat.reduceLT, Nat.reduceEqDiff, Nat.reduceLeDiff, Nat.reduceBNe]
  refine h1 _ ?_; clear h1
  refine aw_seq fun K h2 => ?_
  refine aw_seq fun K h3 => ?_
  refine rg hN ?_
  simp only [go_sem, ↓reduceIte, reduceCtorEq, Nat.reduceAdd, Nat.reduceMul, Nat.reduceLT, Nat.reduceEqDiff, Nat.reduceLeDiff, Nat.reduceBNe]
  refine call_pf (p178 c) rfl ?_
  rw [hq]
  simp only [go_sem, ↓reduceIte, reduceCtorEq, Nat.reduceAdd, Nat.reduceMul, Nat.reduceLT, Nat.reduceEqDiff, Nat.reduceLeDiff, Nat.reduceBNe]
  refine h3 _ ?_; clear h3
  refine awp_cond rfl ?_ ?_ <;> intro hc
  · cases hc
  · refine awp_skip ?_
    refine h2 _ ?_; clear h2
    refine aw_seq fun K h4 => ?_
    refine rg hN ?_
    simp only [go_sem, ↓reduceIte, reduceCtorEq, Nat.reduceAdd, Nat.reduceMul, Nat.reduceLT, Nat.reduceEqDiff, Nat.reduceLeDiff, Nat.reduceBNe]
    refine h4 _ ?_; clear h4
    refine awp_ret (retE_of ?_)
    simp only [go_sem, ↓reduceIte, reduceCtorEq, Nat.reduceAdd, Nat.reduceMul, Nat.reduceLT, Nat.reduceEqDiff, Nat.reduceLeDiff, Nat.reduceBNe]
    rfl
theorem p93 (c : ConfS) (hq : confR c = false) : PF prog 4 [.g (confL c)] (.t [.c (.pointer none), dI 1]) := by
  refine PF_of' (Kx nf) (N := 10) (rs := [.tmp 2, .tmp 3]) func4 rfl rfl rfl rfl (Nat.le_of_ble_eq_true rfl) fun B hN => ?_
  refine aw_seq fun K h1 => ?_
  refine rg hN ?_
  simp only [confL, go_sem, ↓reduceIte, reduceCtorEq, Nat.reduceAdd, Nat.reduceMul, Nat.reduceLT, Nat.reduceEqDiff, Nat.reduceLeDiff, Nat.reduceBNe]
  refine h1 _ ?_; clear h1
  refine aw_seq fun K h2 => ?_
  refine aw_seq fun K h3 => ?_
  refine rg hN ?_
  simp only [go_sem, ↓reduceIte, reduceCtorEq, Nat.reduceAdd, Nat.reduceMul, Nat.reduceLT, Nat.reduceEqDiff, Nat.reduceLeDiff, Nat.reduceBNe]
  refine call_pf (p178 c) rfl ?_
  rw [hq]
  simp only [go_sem, ↓reduceIte, reduceCtorEq, Nat.reduceAdd, Nat.reduceMul, Nat.reduceLT, Nat.reduceEqDiff, Nat.reduceLeDiff, Nat.reduceBNe]
  refine h3 _ ?_; clear h3
  refine awp_cond rfl ?_ ?_ <;> intro hc
  · refine aw_seq fun K h4 => ?_
    refine rg hN ?_
    simp only [go_sem, ↓reduceIte, reduceCtorEq, Nat.reduceAdd, Nat.reduceMul, Nat.reduceLT, Nat.reduceEqDiff, Nat.reduceLeDiff, Nat.reduceBNe]
    refine h4 _ ?_; clear h4
    refine awp_ret (ret_of ?_)
    simp only [go_sem, ↓reduceIte, reduceCtorEq, Nat.reduceAdd, Nat.reduceMul, Nat.reduceLT, Nat.reduceEqDiff, Nat.reduceLeDiff, Nat.reduceBNe]
  · cases hc
theorem conf0R : confR conf0 = true := by decide
theorem p95 : PF prog 6 [] (dB true) := by
  refine PF_of' (Kx nf) (N := 33) (rs := [.tmp 0]) func6 rfl rfl rfl rfl (Nat.le_of_ble_eq_true rfl) fun B hN => ?_
  refine aw_seq fun K h10 => ?_
  refine rg hN ?_
  simp only [go_sem, ↓reduceIte, reduceCtorEq, Nat.reduceAdd, Nat.reduceMul, Nat.reduceLT, Nat.reduceEqDiff, Nat.reduceLeDiff, Nat.reduceBNe]
  refine h10 _ ?_; clear h10
  refine aw_seq fun K h11 => ?_
  refine rg hN ?_
  simp only [go_sem, ↓reduceIte, reduceCtorEq, Nat.reduceAdd, Nat.reduceMul, Nat.reduceLT, Nat.reduceEqDiff, Nat.reduceLeDiff, Nat.reduceBNe]
  refine call_pf p67z rfl ?_
  simp only [go_sem, ↓reduceIte, reduceCtorEq, Nat.reduceAdd, Nat.reduceMul, Nat.reduceLT, Nat.reduceEqDiff, Nat.reduceLeDiff, Nat.reduceBNe]
  refine call_pe (e93 conf0 conf0R) (fun _ => 2002) rfl rfl trivial ⟨fun _ => rfl, trivial⟩ ?_
  simp only [go_sem, ↓reduceIte, reduceCtorEq, Nat.reduceAdd, Nat.reduceMul, Nat.reduceLT, Nat.reduceEqDiff, Nat.reduceLeDiff, Nat.reduceBNe]
  refine h11 _ ?_; clear h11
  refine aw_seq fun K h12 => ?_
  refine aw_seq fun K h13 => ?_
  refine rg hN ?_
  simp only [go_sem, ↓reduceIte, reduceCtorEq, Nat.reduceAdd, Nat.reduceMul, Nat.reduceLT, Nat.reduceEqDiff, Nat.reduceLeDiff, Nat.reduceBNe]
  refine h13 _ ?_; clear h13
  refine awp_cond rfl ?_ ?_ <;> intro hc
  · cases hc
  · refine awp_skip ?_
    refine h12 _ ?_; clear h12
    refine aw_seq fun K h15 => ?_
    refine rg hN ?_
    simp only [go_sem, ↓reduceIte, reduceCtorEq, Nat.reduceAdd, Nat.reduceMul, Nat.reduceLT, Nat.reduceEqDiff, Nat.reduceLeDiff, Nat.reduceBNe]
    refine call_pe1 (e97 conf0) 2002 rfl rfl ?_
    simp only [go_sem, ↓reduceIte, reduceCtorEq, Nat.reduceAdd, Nat.reduceMul, Nat.reduceLT, Nat.reduceEqDiff, Nat.reduceLeDiff, Nat.reduceBNe]
    refine call_pe1 (e97m conf0) 2002 rfl rfl ?_
    simp only [go_sem, ↓reduceIte, reduceCtorEq, Nat.reduceAdd, Nat.reduceMul, Nat.reduceLT, Nat.reduceEqDiff, Nat.reduceLeDiff, Nat.reduceBNe]
    refine h15 _ ?_; clear h15
    refine aw_seq fun K h16 => ?_
    refine rg hN ?_
    simp only [go_sem, ↓reduceIte, reduceCtorEq, Nat.reduceAdd, Nat.reduceMul, Nat.reduceLT, Nat.reduceEqDiff, Nat.reduceLeDiff, Nat.reduceBNe]
    refine call_pe1 (e96m conf0 [dI 9, dI 0, dI 0, dI 0, dS .empty, .l 1 []] rfl) 2002 rfl rfl ?_
    simp only [go_sem, ↓reduceIte, reduceCtorEq, Nat.reduceAdd, Nat.reduceMul, Nat.reduceLT, Nat.reduceEqDiff, Nat.reduceLeDiff, Nat.reduceBNe]
    refine h16 _ ?_; clear h16
    refine awp_ret (ret_of ?_)
    simp only [go_sem, ↓reduceIte, reduceCtorEq, Nat.reduceAdd, Nat.reduceMul, Nat.reduceLT, Nat.reduceEqDiff, Nat.reduceLeDiff, Nat.reduceBNe]
theorem p21 (c : ConfS) : PF prog 3 [.g (confL c)] (dB true) := by
  refine PF_of' (Kx nf) (N := 30) (rs := [.tmp 2]) func3 rfl rfl rfl rfl (Nat.le_of_ble_eq_true rfl) fun B hN => ?_
  refine aw_seq fun K h17 => ?_
  refine rg hN ?_
  simp only [confL, go_sem, ↓reduceIte, reduceCtorEq, Nat.reduceAdd, Nat.reduceMul, Nat.reduceLT, Nat.reduceEqDiff, Nat.reduceLeDiff, Nat.reduceBNe]
  refine h17 _ ?_; clear h17
  refine aw_seq fun K h18 => ?_
  refine rg hN ?_
  simp only [go_sem, ↓reduceIte, reduceCtorEq, Nat.reduceAdd, Nat.reduceMul, Nat.reduceLT, Nat.reduceEqDiff, Nat.reduceLeDiff, Nat.reduceBNe]
  by_cases hq : confR c = true
  · refine call_pe (e93 c hq) (fun _ => 2001) rfl rfl trivial ⟨fun _ => rfl, trivial⟩ ?_
    simp only [go_sem, ↓reduceIte, reduceCtorEq, Nat.reduceAdd, Nat.reduceMul, Nat.reduceLT, Nat.reduceEqDiff, Nat.reduceLeDiff, Nat.reduceBNe]
    refine h18 _ ?_; clear h18
    refine aw_seq fun K h19 => ?_
    refine aw_seq fun K h20 => ?_
    refine rg hN ?_
    simp only [go_sem, ↓reduceIte, reduceCtorEq, Nat.reduceAdd, Nat.reduceMul, Nat.reduceLT, Nat.reduceEqDiff, Nat.reduceLeDiff, Nat.reduceBNe]
    refine call_pf (p94 c) rfl ?_
    rw [hq]
    simp only [go_sem, ↓reduceIte, reduceCtorEq, Nat.reduceAdd, Nat.reduceMul, Nat.reduceLT, Nat.reduceEqDiff, Nat.reduceLeDiff, Nat.reduceBNe]
    refine h20 _ ?_; clear h20
    refine awp_cond rfl ?_ ?_ <;> intro hc
    · refine aw_seq fun K h21 => ?_
      refine rg hN ?_
      simp only [go_sem, ↓reduceIte, reduceCtorEq, Nat.reduceAdd, Nat.reduceMul, Nat.reduceLT, Nat.reduceEqDiff, Nat.reduceLeDiff, Nat.reduceBNe]
      refine call_pf p95 rfl ?_
      simp only [go_sem, ↓reduceIte, reduceCtorEq, Nat.reduceAdd, Nat.reduceMul, Nat.reduceLT, Nat.reduceEqDiff, Nat.reduceLeDiff, Nat.reduceBNe]
      refine h21 _ ?_; clear h21
      refine awp_ret (ret_of ?_)
      simp only [go_sem, ↓reduceIte, reduceCtorEq, Nat.reduceAdd, Nat.reduceMul, Nat.reduceLT, Nat.reduceEqDiff, Nat.reduceLeDiff, Nat.reduceBNe]
    · cases hc
  · have hq : confR c = false := by simpa using hq
    refine call_pf (p93 c hq) rfl ?_
    simp only [go_sem, ↓reduceIte, reduceCtorEq, Nat.reduceAdd, Nat.reduceMul, Nat.reduceLT, Nat.reduceEqDiff, Nat.reduceLeDiff, Nat.reduceBNe]
    refine h18 _ ?_; clear h18
    refine aw_seq fun K h19 => ?_
    refine aw_seq fun K h20 => ?_
    refine rg hN ?_
    simp only [go_sem, ↓reduceIte, reduceCtorEq, Nat.reduceAdd, Nat.reduceMul, Nat.reduceLT, Nat.reduceEqDiff, Nat.reduceLeDiff, Nat.reduceBNe]
    refine call_pf (p94 c) rfl ?_
    rw [hq]
    simp only [go_sem, ↓reduceIte, reduceCtorEq, Nat.reduceAdd, Nat.reduceMul, Nat.reduceLT, Nat.reduceEqDiff, Nat.reduceLeDiff, Nat.reduceBNe]
    refine h20 _ ?_; clear h20
    refine awp_cond rfl ?_ ?_ <;> intro hc
    · cases hc
    · refine awp_skip ?_
      refine h19 _ ?_; clear h19
      refine aw_seq fun K h22 => ?_
      refine rg hN ?_
      simp only [go_sem, ↓reduceIte, reduceCtorEq, Nat.reduceAdd, Nat.reduceMul, Nat.reduceLT, Nat.reduceEqDiff, Nat.reduceLeDiff, Nat.reduceBNe]
      refine call_pf p95 rfl ?_
      simp only [go_sem, ↓reduceIte, reduceCtorEq, Nat.reduceAdd, Nat.reduceMul, Nat.reduceLT, Nat.reduceEqDiff, Nat.reduceLeDiff, Nat.reduceBNe]
      refine h22 _ ?_; clear h22
      refine awp_ret (ret_of ?_)
      simp only [go_sem, ↓reduceIte, reduceCtorEq, Nat.reduceAdd, Nat.reduceMul, Nat.reduceLT, Nat.reduceEqDiff, Nat.reduceLeDiff, Nat.reduceBNe]
end Go.AM
