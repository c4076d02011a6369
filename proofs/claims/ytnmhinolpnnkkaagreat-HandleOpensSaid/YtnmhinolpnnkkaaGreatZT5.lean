import Derived.Test.YtnmhinolpnnkkaaGreatZT3
import Derived.Laws.LoneSync
set_option maxRecDepth 100000
set_option linter.unusedSimpArgs false
set_option linter.unusedVariables false
namespace Go.AM
open Go.Proofs.Tryz
theorem arr1 {vs : Array Value} (h : vs.size = 1) : vs = #[vs.getD 0 undef] := by
  obtain ⟨l⟩ := vs
  match l, h with
  | [a], _ => rfl
theorem arr3 {vs : Array Value} (h : vs.size = 3) : vs = #[vs.getD 0 undef, vs.getD 1 undef, vs.getD 2 undef] := by
  obtain ⟨l⟩ := vs
  match l, h with
  | [a, b, c], _ => rfl
abbrev dU (n : Int) : D := .c (.int .u32 n)
theorem hE_one (n : Nat) (e : HE) (m : Nat) : hE [(n, e)] m = if m = n then some e else none := rfl
theorem x303 (off : Nat) (t : TypeId) (ds : List D) (v : Int) (hc : ds[off]? = some (dU v)) : PX prog 21 (.r 0 off :: dl []) [(0, .blk t (dl ds))] (.d (dU v)) [(0, .blk t (dl ds))] := by
  intro w σ ρ vs hp hl hr
  obtain ⟨g, us, h1, h2, h3, h4, h5, h6⟩ := blk_ptr hp (n := 0) rfl (dl_get ds off _ hc) (hr 0 _ rfl)
  rw [arr1 hl, h2]
  refine ⟨_, w, σ, ρ, run_call_load func21 (by kernel_rfl) (by kernel_rfl) (by kernel_rfl) .u32 (by kernel_rfl) h5, hp, .d (.c _ rfl), ⟨rfl, rfl, rfl, Nat.le_refl _, fun b _ _ => ⟨rfl, rfl⟩, Names.le_refl ρ, fun n l b h1 h2 => .inr ⟨n, l, h1, h2⟩⟩⟩
theorem x309 (off : Nat) (t : TypeId) (ds : List D) (v y : Int) (hc : ds[off]? = some (dU v)) : PX prog 19 (.r 0 off :: dl [dU v, dU y]) [(0, .blk t (dl ds))] (.d (dB true)) [(0, .blk t (dl (putD ds off [dU y])))] := by
  intro w σ ρ vs hp hl hr
  obtain ⟨g, us, h1, h2, h3, h4, h5, h6⟩ := blk_ptr hp (n := 0) rfl (dl_get ds off _ hc) (hr 0 _ rfl)
  rw [arr3 hl, h2, rd_c (hr 1 _ rfl), rd_c (hr 2 _ rfl)]
  have hlt := (List.getElem?_eq_some_iff.1 (dl_get ds off _ hc)).1
  obtain ⟨k1, k2⟩ := HpOk.setCell hp (n := 0) (off := off) rfl h1 h3 h4 hlt (u := .int .u32 y) rfl (.d (.c _ rfl)) [(0, .blk t (dl (putD ds off [dU y])))] (fun m => by
    rw [hE_one]; unfold setH; split
    · rw [putD, ← dl_put]; rfl
    · rename_i q; rw [hE_one, if_neg q])
  exact ⟨_, _, σ, ρ, run_call_cas_hit func19 (by kernel_rfl) (by kernel_rfl) (by kernel_rfl) .u32 (by kernel_rfl) h5 h6, k1, .d (.c _ rfl), k2⟩
theorem x309m (off : Nat) (t : TypeId) (ds : List D) (v o y : Int) (hne : ¬ v = o) (hc : ds[off]? = some (dU v)) : PX prog 19 (.r 0 off :: dl [dU o, dU y]) [(0, .blk t (dl ds))] (.d (dB false)) [(0, .blk t (dl ds))] := by
  intro w σ ρ vs hp hl hr
  obtain ⟨g, us, h1, h2, h3, h4, h5, h6⟩ := blk_ptr hp (n := 0) rfl (dl_get ds off _ hc) (hr 0 _ rfl)
  rw [arr3 hl, h2, rd_c (hr 1 _ rfl), rd_c (hr 2 _ rfl)]
  exact ⟨_, w, σ, ρ, run_call_cas_miss func19 (by kernel_rfl) (by kernel_rfl) (by kernel_rfl) .u32 (by kernel_rfl) h5 h6 hne, hp, .d (.c _ rfl), ⟨rfl, rfl, rfl, Nat.le_refl _, fun b _ _ => ⟨rfl, rfl⟩, Names.le_refl ρ, fun n l b h1 h2 => .inr ⟨n, l, h1, h2⟩⟩⟩
theorem p310 (b : Bool) : PF prog 20 [dB b] (dU (if b then 1 else 0)) := by
  refine PF_of' (Kx nf) (N := 4) (rs := [.tmp 2]) func20 rfl rfl rfl rfl (Nat.le_of_ble_eq_true rfl) fun B hN => ?_
  refine aw_seq fun K h1 => ?_
  refine rg hN ?_
  simp only [go_sem, ↓reduceIte, reduceCtorEq, Nat.reduceAdd, Nat.reduceMul, Nat.reduceLT, Nat.reduceEqDiff, Nat.reduceLeDiff, Nat.reduceBNe]
  refine h1 _ ?_; clear h1
  refine aw_seq fun K h2 => ?_
  refine aw_seq fun K h3 => ?_
  refine rg hN ?_
  simp only [go_sem, ↓reduceIte, reduceCtorEq, Nat.reduceAdd, Nat.reduceMul, Nat.reduceLT, Nat.reduceEqDiff, Nat.reduceLeDiff, Nat.reduceBNe]
  refine h3 _ ?_; clear h3
  refine awp_cond rfl ?_ ?_ <;> intro hc
  · refine aw_seq fun K h4 => ?_
    refine rg hN ?_
    simp only [go_sem, ↓reduceIte, reduceCtorEq, Nat.reduceAdd, Nat.reduceMul, Nat.reduceLT, Nat.reduceEqDiff, Nat.reduceLeDiff, Nat.reduceBNe]
    refine h4 _ ?_; clear h4
    refine awp_ret (ret_of ?_)
    simp only [go_sem, ↓reduceIte, reduceCtorEq, Nat.reduceAdd, Nat.reduceMul, Nat.reduceLT, Nat.reduceEqDiff, Nat.reduceLeDiff, Nat.reduceBNe]
    simp [hc]
  · refine awp_skip ?_
    refine h2 _ ?_; clear h2
    refine aw_seq fun K h5 => ?_
    refine rg hN ?_
    simp only [go_sem, ↓reduceIte, reduceCtorEq, Nat.reduceAdd, Nat.reduceMul, Nat.reduceLT, Nat.reduceEqDiff, Nat.reduceLeDiff, Nat.reduceBNe]
    refine h5 _ ?_; clear h5
    refine awp_ret (ret_of ?_)
    simp only [go_sem, ↓reduceIte, reduceCtorEq, Nat.reduceAdd, Nat.reduceMul, Nat.reduceLT, Nat.reduceEqDiff, Nat.reduceLeDiff, Nat.reduceBNe]
    simp [hc]
theorem e192 (off : Nat) (t : TypeId) (ds : List D) (v : Int) (hc : ds[off]? = some (dU v)) : PE prog 13 (.r 0 off :: dl []) [(0, .blk t (dl ds))] (.d (dB (!decide (v = 0)))) [(0, .blk t (dl ds))] := by
  refine PE_of (Kx nf) (N := 8) (rs := [.tmp 2]) func13 rfl rfl rfl rfl (Nat.le_of_ble_eq_true rfl) okC_one fun B hN => ?_
  refine aw_seq fun K h1 => ?_
  refine rg hN ?_
  simp only [go_sem, ↓reduceIte, reduceCtorEq, Nat.reduceAdd, Nat.reduceMul, Nat.reduceLT, Nat.reduceEqDiff, Nat.reduceLeDiff, Nat.reduceBNe]
  refine h1 _ ?_; clear h1
  refine aw_seq fun K h2 => ?_
  refine rg hN ?_
  simp only [go_sem, ↓reduceIte, reduceCtorEq, Nat.reduceAdd, Nat.reduceMul, Nat.reduceLT, Nat.reduceEqDiff, Nat.reduceLeDiff, Nat.reduceBNe]
  refine call_px1 (x303 off t ds v hc) 0 rfl rfl ?_
  simp only [go_sem, ↓reduceIte, reduceCtorEq, Nat.reduceAdd, Nat.reduceMul, Nat.reduceLT, Nat.reduceEqDiff, Nat.reduceLeDiff, Nat.reduceBNe]
  refine h2 _ ?_; clear h2
  refine awp_ret (retE_of ?_)
  simp only [go_sem, ↓reduceIte, reduceCtorEq, Nat.reduceAdd, Nat.reduceMul, Nat.reduceLT, Nat.reduceEqDiff, Nat.reduceLeDiff, Nat.reduceBNe]
theorem e197 (off : Nat) (t : TypeId) (ds : List D) (a b : Bool) (hc : ds[off]? = some (dU (if a then 1 else 0))) : PE prog 12 (.r 0 off :: dl [dB a, dB b]) [(0, .blk t (dl ds))] (.d (dB true)) [(0, .blk t (dl (putD ds off [dU (if b then 1 else 0)])))] := by
  refine PE_of (Kx nf) (N := 15) (rs := [.tmp 6]) func12 rfl rfl rfl rfl (Nat.le_of_ble_eq_true rfl) okC_one fun B hN => ?_
  refine aw_seq fun K h3 => ?_
  refine rg hN ?_
  simp only [go_sem, ↓reduceIte, reduceCtorEq, Nat.reduceAdd, Nat.reduceMul, Nat.reduceLT, Nat.reduceEqDiff, Nat.reduceLeDiff, Nat.reduceBNe]
  refine h3 _ ?_; clear h3
  refine aw_seq fun K h4 => ?_
  refine rd hN ?_
  simp only [go_sem, ↓reduceIte, reduceCtorEq, Nat.reduceAdd, Nat.reduceMul, Nat.reduceLT, Nat.reduceEqDiff, Nat.reduceLeDiff, Nat.reduceBNe]
  refine call_pf (p310 a) rfl ?_
  simp only [go_sem, ↓reduceIte, reduceCtorEq, Nat.reduceAdd, Nat.reduceMul, Nat.reduceLT, Nat.reduceEqDiff, Nat.reduceLeDiff, Nat.reduceBNe]
  refine call_pf (p310 b) rfl ?_
  simp only [go_sem, ↓reduceIte, reduceCtorEq, Nat.reduceAdd, Nat.reduceMul, Nat.reduceLT, Nat.reduceEqDiff, Nat.reduceLeDiff, Nat.reduceBNe]
  refine call_px1 (x309 off t ds _ (if b then 1 else 0) hc) 0 rfl rfl ?_
  simp only [go_sem, ↓reduceIte, reduceCtorEq, Nat.reduceAdd, Nat.reduceMul, Nat.reduceLT, Nat.reduceEqDiff, Nat.reduceLeDiff, Nat.reduceBNe]
  refine ⟨by kernel_rfl, ?_⟩
  refine h4 _ ?_; clear h4
  refine awp_ret (retE_of ?_)
  simp only [go_sem, ↓reduceIte, reduceCtorEq, Nat.reduceAdd, Nat.reduceMul, Nat.reduceLT, Nat.reduceEqDiff, Nat.reduceLeDiff, Nat.reduceBNe]
def logD (c : ConfS) (cl : Int) : List D := confL c ++ ((ti55.zero.drop 15).take 27 ++ dU cl :: ti55.zero.drop 43)
theorem log42 (c : ConfS) (cl : Int) : (logD c cl)[42]? = some (dU cl) := rfl
theorem logPut (c : ConfS) (cl y : Int) : putD (logD c cl) 42 [dU y] = logD c y := rfl
theorem e97 (c : ConfS) : PE prog 10 (.r 0 0 :: dl []) [(0, .blk 55 (dl (logD c 0)))] (.d (dB true)) [(0, .blk 55 (dl (logD c 1)))] := by
  refine PE_of (Kx nf) (N := 7) (rs := [.tmp 2]) func10 rfl rfl rfl rfl (Nat.le_of_ble_eq_true rfl) okC_one fun B hN => ?_
  refine aw_seq fun K h5 => ?_
  refine rg hN ?_
  simp only [go_sem, ↓reduceIte, reduceCtorEq, Nat.reduceAdd, Nat.reduceMul, Nat.reduceLT, Nat.reduceEqDiff, Nat.reduceLeDiff, Nat.reduceBNe]
  refine h5 _ ?_; clear h5
  refine aw_seq fun K h6 => ?_
  refine rg hN ?_
  simp only [go_sem, ↓reduceIte, reduceCtorEq, Nat.reduceAdd, Nat.reduceMul, Nat.reduceLT, Nat.reduceEqDiff, Nat.reduceLeDiff, Nat.reduceBNe]
  refine call_pe1 (e197 42 55 (logD c 0) false true (log42 c 0)) 0 rfl rfl ?_
  rw [show putD (logD c 0) 42 [dU (if true then 1 else 0)] = logD c 1 from logPut c 0 1]
  simp only [go_sem, ↓reduceIte, reduceCtorEq, Nat.reduceAdd, Nat.reduceMul, Nat.reduceLT, Nat.reduceEqDiff, Nat.reduceLeDiff, Nat.reduceBNe]
  refine h6 _ ?_; clear h6
  refine awp_ret (retE_of ?_)
  simp only [go_sem, ↓reduceIte, reduceCtorEq, Nat.reduceAdd, Nat.reduceMul, Nat.reduceLT, Nat.reduceEqDiff, Nat.reduceLeDiff, Nat.reduceBNe]
end Go.AM
