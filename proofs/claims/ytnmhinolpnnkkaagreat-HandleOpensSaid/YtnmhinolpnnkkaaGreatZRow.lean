import Derived.Test.YtnmhinolpnnkkaaGreatZT7
import Derived.Test.YtnmhinolpnnkkaaGreatZamR
import Derived.Test.YtnmhinolpnnkkaaGreatRows
set_option maxRecDepth 100000
namespace Go.Proofs.YtnmhinolpnnkkaaGreat
open Go.ChangeShapes Go.WideShapes Go.ChangeAt Go.RowKit Go.AM
theorem wt3 {ds : List D} (h : Wt Tx 3 ds) : ∃ n, ds = [dI n] := by
  cases h with
  | int n hk _ => cases hk; exact ⟨n, rfl⟩
  | bool _ hk => cases hk
  | str _ hk => cases hk
  | slice _ hk => cases hk
  | struct hk => cases hk
  | arr hk => cases hk
theorem wtF3 : ∀ (n : Nat) {ds : List D}, WtF Tx (List.replicate n 3) ds → ∃ l : List Int, l.length = n ∧ ds = l.map dI
  | 0, ds, h => by cases h; exact ⟨[], rfl, rfl⟩
  | n + 1, ds, h => by
    rw [List.replicate_succ] at h
    cases h with
    | cons h r =>
      obtain ⟨m, rfl⟩ := wt3 h
      obtain ⟨l, h1, rfl⟩ := wtF3 n r
      exact ⟨m :: l, by simp [h1], rfl⟩
theorem wt99 {ds : List D} (h : Wt Tx 23 ds) : ∃ c, ds = confL c := by
  cases h with
  | int _ hk => cases hk
  | bool _ hk => cases hk
  | str _ hk => cases hk
  | slice _ hk => cases hk
  | arr hk => cases hk
  | struct hk h =>
    cases hk
    obtain ⟨l, h1, rfl⟩ := wtF3 15 h
    match l, h1 with
    | [a, b, c, d, e, f, g, h, i, j, k, l, m, n, o], _ => exact ⟨⟨a, b, c, d, e, f, g, h, i, j, k, l, m, n, o⟩, rfl⟩
theorem Tryz.own : ownKnob Tryz.prog.godebug = none := by kernel_rfl
theorem Tryz.laidOut : laidOutB Tryz.prog = true := by kernel_rfl
theorem h_lifted (os : Os) (started : os.Started) (H : Type) (enc : TypeId × Value → H) :
    ReturnsInHanded {} Tryz.checked os 3 .any (Rows.handleOpensSpec.pre6 enc Tryz.prog Tryz.f3 Rows.handleOpensRow.domain false) (Rows.handleOpensSpec.post enc Tryz.prog Tryz.f3 false true false false) := by
  refine returnsInHanded_of_change (C := Tryz.checked) Tryz.own started (by kernel_rfl) Tryz.func3
    (ChangeSpec.witness6 (enc := enc) (C := Tryz.checked) false ⟨#[], #[.agg (Array.replicate 15 (.int .i64 0))], []⟩ 8 (by kernel_rfl) (by kernel_rfl) (by kernel_rfl) (by kernel_rfl)) ?_
  intro W base args ds gs before hval0 hW hcnd _
  have hval : ∀ (j : Nat) t v, Tryz.f3.params[j]? = some t → args[j]? = some v → Value.okWide Tryz.prog W .any base t v := hval0
  have hW' := hW
  obtain ⟨p, q, hA0, hV, rfl, hfz, hnd⟩ := hW
  have hA : DataW.TrodAll enc Tryz.prog W 0 (fun _ => true) true Tryz.f3.params.toList args.toList ds p := hA0
  rw [Tryz.params3] at hA hval
  obtain ⟨v, d, rfl, rfl, hd⟩ := trodAll_one hA
  obtain ⟨rfl, rfl⟩ := trodVars_none hV
  obtain ⟨fuel, hf⟩ := hd
  obtain ⟨cs, rfl, hcs, _⟩ : ∃ cs, v = .agg cs ∧ cs.size = Tryz.prog.cellsOf 23 ∧ True := by
    have := hval 0 23 v rfl rfl
    unfold Value.okWide at this
    rw [(tok23.struct rfl).choose_spec.1] at this
    obtain ⟨cs, h1, h2, _⟩ := this
    exact ⟨cs, h1, h2, trivial⟩
  obtain ⟨ds, hwt, hrd⟩ := rd_of_trod (T := Tx) (look_ok tiT_ok) 8 fuel 23 _ _ (by kernel_rfl) hf
  obtain ⟨c, rfl⟩ := wt99 hwt
  have hlt : ∀ x ∈ p, x.block < W.heap.size := fun x hx => hW'.lt x (by simpa using hx)
  refine ((p21 c).2 W (cellSig W) #[.agg cs] (fun b o u h => h) rfl fun j e he => ?_).mono fun e W' he => ?_
  · cases j with
    | zero =>
      simp only [List.getElem?_cons_zero, Option.some.injEq] at he
      subst he
      exact .g (by have := hrd.1; simpa [Value.cells] using this.symm) (fun j hj => hrd.2.1 _ (by simp [Value.cells])) fun j d hd => by
        have := hrd.2.2 j d hd
        simpa [Value.cells, Array.getD_eq_getD_getElem?, List.getD_eq_getElem?_getD] using this
    | succ j => simp at he
  · obtain ⟨v1, σ', rfl, hb, _, _, hr⟩ := he
    cases hr
    exact ⟨_, rfl, [d], [], p ++ [], [], p, [], hW', trodAll_mk1 (shut_bool Tryz.underlying4 true), trodAll_mk1 (Below.trod Tryz.laidOut (by kernel_rfl) (of_decide_eq_true (by kernel_rfl)) ⟨fuel, hf⟩ hb hlt), rfl, hb.frame _, fun h => by cases h⟩
end Go.Proofs.YtnmhinolpnnkkaaGreat
