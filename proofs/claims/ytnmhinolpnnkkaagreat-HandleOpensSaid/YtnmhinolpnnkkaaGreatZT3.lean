import Derived.Test.YtnmhinolpnnkkaaGreatZT2
set_option maxRecDepth 100000
set_option linter.unusedSimpArgs false
set_option linter.unusedVariables false
namespace Go.AM
open Go.Proofs.Tryz
def btw (a b c : Int) : List D := [dI a, dI b, dI c]
def rows178 (c : ConfS) : List (List D) := [btw c.nodes 1 8, btw c.seg 20 65536, btw c.keep 0 1048576, btw c.count 1 1048576, btw c.batch 100 4096, btw c.most 1 8, btw c.window c.batch 65536, btw c.held 0 8, btw c.chunk 16 4096, btw c.pending 1 64, btw c.links 1 64, btw c.beat 1 64, btw c.retry c.beat 1024, btw c.lease 1 4096, btw c.top 1 1099511627776]
def ok178 (c : ConfS) : List Bool := [amongS c.nodes 1 8, amongS c.seg 20 65536, amongS c.keep 0 1048576, amongS c.count 1 1048576, amongS c.batch 100 4096, amongS c.most 1 8, amongS c.window c.batch 65536,
  amongS c.held 0 8, amongS c.chunk 16 4096, amongS c.pending 1 64, amongS c.links 1 64, amongS c.beat 1 64, amongS c.retry c.beat 1024, amongS c.lease 1 4096, amongS c.top 1 1099511627776]
def st178 (c : ConfS) (i : Nat) : AS := st [(54, .fl 3 (rows178 c)), (55, .d (dI (15 : Nat))), (56, .d (dI (i : Nat)))] []
def upTo (c : ConfS) (i : Nat) : Prop := i ≤ 15 ∧ ∀ j, j < i → (ok178 c)[j]? = some true
theorem row178 (c : ConfS) {i : Nat} (h : i < 15) : ∃ a b d, atD (rows178 c) (i : Int) = btw a b d ∧ (ok178 c)[i]? = some (amongS a b d) := by
  have hcase : i = 0 ∨ i = 1 ∨ i = 2 ∨ i = 3 ∨ i = 4 ∨ i = 5 ∨ i = 6 ∨ i = 7 ∨ i = 8 ∨ i = 9 ∨ i = 10 ∨ i = 11 ∨ i = 12 ∨ i = 13 ∨ i = 14 := by omega
  rcases hcase with rfl | rfl | rfl | rfl | rfl | rfl | rfl | rfl | rfl | rfl | rfl | rfl | rfl | rfl | rfl <;> exact ⟨_, _, _, rfl, rfl⟩
theorem len178 (c : ConfS) : (rows178 c).length = 15 := rfl
theorem w64 {x : Int} (h1 : -9223372036854775808 ≤ x) (h2 : x ≤ 9223372036854775807) : IntKind.i64.wrap x = x := by
  rw [IntKind.wrap_i64]; omega
theorem conf_no {c : ConfS} {i : Nat} {q : Bool} (h : (ok178 c)[i]? = some q) (hq : q = false) : confR c = false := by
  subst hq
  have h1 : false ∈ ok178 c := List.mem_of_getElem? h
  have h2 : confR c = (ok178 c).all id := by simp [confR, ok178, Bool.and_assoc]
  rw [h2, List.all_eq_false]
  exact ⟨false, h1, by simp⟩
theorem conf_yes {c : ConfS} (h : ∀ j, j < 15 → (ok178 c)[j]? = some true) : confR c = true := by
  have h2 : confR c = (ok178 c).all id := by simp [confR, ok178, Bool.and_assoc]
  rw [h2, List.all_eq_true]
  intro x hx
  obtain ⟨j, hj, rfl⟩ := List.mem_iff_getElem.1 hx
  have := h j (by simpa [ok178] using hj)
  rw [List.getElem?_eq_getElem hj] at this
  simpa using this
theorem p178 (c : ConfS) : PF prog 7 [.g (confL c)] (dB (confR c)) := by
  refine PF_of' (Kx nf) (N := 73) (rs := [.tmp 2]) func7 rfl rfl rfl rfl (Nat.le_of_ble_eq_true rfl) fun B hN => ?_
  refine aw_seq fun K h1 => ?_
  refine rg hN ?_
  simp only [confL, go_sem, ↓reduceIte, reduceCtorEq, Nat.reduceAdd, Nat.reduceMul, Nat.reduceLT, Nat.reduceEqDiff, Nat.reduceLeDiff, Nat.reduceBNe]
  refine h1 _ ?_; clear h1
  refine aw_seq fun K h2 => ?_
  refine aw_seq fun K h3 => ?_
  refine rg hN ?_
  simp only [go_sem, ↓reduceIte, reduceCtorEq, Nat.reduceAdd, Nat.reduceMul, Nat.reduceLT, Nat.reduceEqDiff, Nat.reduceLeDiff, Nat.reduceBNe]
  refine h3 _ ?_; clear h3
  refine awp_block ?_ -- 0
  refine awp_loop (ι := { i : Nat // upTo c i }) (fun i => st178 c i.1) (fun i => 15 - i.1) ⟨0, by omega, fun j hj => by omega⟩ (sub_of (by simp only [go_sem, ↓reduceIte, reduceCtorEq, Nat.reduceAdd, Nat.reduceMul, Nat.reduceLT, Nat.reduceEqDiff, Nat.reduceLeDiff, Nat.reduceBNe]; exact ⟨rfl, rfl⟩) (by simp only [go_sem, ↓reduceIte, reduceCtorEq, Nat.reduceAdd, Nat.reduceMul, Nat.reduceLT, Nat.reduceEqDiff, Nat.reduceLeDiff, Nat.reduceBNe]) rfl) fun i => ?_
  obtain ⟨i, hi, hu⟩ := i
  refine aw_seq fun K h4 => ?_
  refine rg hN ?_
  simp only [st178, go_sem, ↓reduceIte, reduceCtorEq, Nat.reduceAdd, Nat.reduceMul, Nat.reduceLT, Nat.reduceEqDiff, Nat.reduceLeDiff, Nat.reduceBNe]
  refine h4 _ ?_; clear h4
  refine aw_seq fun K h5 => ?_
  refine awp_cond rfl ?_ ?_ <;> intro hc
  · have hlt : i < 15 := by have := of_decide_eq_true hc; omega
    obtain ⟨a, b, d, hr, hok⟩ := row178 c hlt
    refine awp_skip ?_
    refine h5 _ ?_; clear h5
    refine aw_seq fun K h6 => ?_
    refine awp_block ?_ -- 1
    refine aw_seq fun K h7 => ?_
    refine rg hN ?_
    simp only [go_sem, ↓reduceIte, reduceCtorEq, Nat.reduceAdd, Nat.reduceMul, Nat.reduceLT, Nat.reduceEqDiff, Nat.reduceLeDiff, Nat.reduceBNe]
    refine ⟨by rw [len178]; omega, ?_⟩
    rw [hr]
    simp only [btw, go_sem, ↓reduceIte, reduceCtorEq, Nat.reduceAdd, Nat.reduceMul, Nat.reduceLT, Nat.reduceEqDiff, Nat.reduceLeDiff, Nat.reduceBNe]
    refine h7 _ ?_; clear h7
    refine aw_seq fun K h8 => ?_
    refine rg hN ?_
    simp only [go_sem, ↓reduceIte, reduceCtorEq, Nat.reduceAdd, Nat.reduceMul, Nat.reduceLT, Nat.reduceEqDiff, Nat.reduceLeDiff, Nat.reduceBNe]
    repeat' (first | (refine guardK_q rfl ?_ ?_ <;> intro hq <;> simp only [hq, go_sem, ↓reduceIte, reduceCtorEq, Nat.reduceAdd, Nat.reduceMul, Nat.reduceLT, Nat.reduceEqDiff, Nat.reduceLeDiff, Nat.reduceBNe]))
    all_goals refine h8 _ ?_; clear h8
    · refine awp_cond rfl ?_ ?_ <;> intro hc2
      · refine aw_seq fun K h9 => ?_
        refine rg hN ?_
        simp only [go_sem, ↓reduceIte, reduceCtorEq, Nat.reduceAdd, Nat.reduceMul, Nat.reduceLT, Nat.reduceEqDiff, Nat.reduceLeDiff, Nat.reduceBNe]
        refine h9 _ ?_; clear h9
        refine awp_ret (ret_of ?_)
        simp only [go_sem, ↓reduceIte, reduceCtorEq, Nat.reduceAdd, Nat.reduceMul, Nat.reduceLT, Nat.reduceEqDiff, Nat.reduceLeDiff, Nat.reduceBNe]
        rw [conf_no hok (by simp [amongS]; have := of_decide_eq_true hq; omega)]
      · cases hc2
    · refine awp_cond rfl ?_ ?_ <;> intro hc2
      · refine aw_seq fun K h9 => ?_
        refine rg hN ?_
        simp only [go_sem, ↓reduceIte, reduceCtorEq, Nat.reduceAdd, Nat.reduceMul, Nat.reduceLT, Nat.reduceEqDiff, Nat.reduceLeDiff, Nat.reduceBNe]
        refine h9 _ ?_; clear h9
        refine awp_ret (ret_of ?_)
        simp only [go_sem, ↓reduceIte, reduceCtorEq, Nat.reduceAdd, Nat.reduceMul, Nat.reduceLT, Nat.reduceEqDiff, Nat.reduceLeDiff, Nat.reduceBNe]
        rw [conf_no hok (by simp [amongS]; have := of_decide_eq_true hc2; omega)]
      · refine awp_skip ?_
        refine h6 _ ?_; clear h6
        refine rgE hN ?_
        simp only [go_sem, ↓reduceIte, reduceCtorEq, Nat.reduceAdd, Nat.reduceMul, Nat.reduceLT, Nat.reduceEqDiff, Nat.reduceLeDiff, Nat.reduceBNe]
        refine ⟨⟨i + 1, by omega, fun j hj => ?_⟩, sub_of (by simp only [go_sem, ↓reduceIte, reduceCtorEq, Nat.reduceAdd, Nat.reduceMul, Nat.reduceLT, Nat.reduceEqDiff, Nat.reduceLeDiff, Nat.reduceBNe]; rw [w64 (by omega) (by omega)]; rfl) (by simp only [go_sem, ↓reduceIte, reduceCtorEq, Nat.reduceAdd, Nat.reduceMul, Nat.reduceLT, Nat.reduceEqDiff, Nat.reduceLeDiff, Nat.reduceBNe]) rfl, by show 15 - (i + 1) < 15 - i; omega⟩
        · rcases Nat.lt_succ_iff_lt_or_eq.1 hj with h | rfl
          · exact hu j h
          · rw [hok]
            have h1 := of_decide_eq_false hq; have h2 := of_decide_eq_false hc2
            simp [amongS]; omega
  · refine awp_exit ?_
    refine h2 _ ?_
    refine aw_seq fun K h9 => ?_
    refine rg hN ?_
    simp only [go_sem, ↓reduceIte, reduceCtorEq, Nat.reduceAdd, Nat.reduceMul, Nat.reduceLT, Nat.reduceEqDiff, Nat.reduceLeDiff, Nat.reduceBNe]
    refine h9 _ ?_; clear h9
    refine awp_ret (ret_of ?_)
    simp only [go_sem, ↓reduceIte, reduceCtorEq, Nat.reduceAdd, Nat.reduceMul, Nat.reduceLT, Nat.reduceEqDiff, Nat.reduceLeDiff, Nat.reduceBNe]
    have : i = 15 := by have := of_decide_eq_false hc; omega
    subst this
    rw [conf_yes hu]
end Go.AM
