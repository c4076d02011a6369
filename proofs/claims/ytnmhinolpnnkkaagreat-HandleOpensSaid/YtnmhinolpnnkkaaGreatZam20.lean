/- The abstract machine, part 20: ends, what is forgotten, contracts with effects. -/
import Derived.Test.YtnmhinolpnnkkaaGreatZam19
set_option linter.unusedSimpArgs false
set_option linter.unusedVariables false
namespace Go.AM
open Go.RowKit Go.Lib
variable {P : Program} {T : Tab}

/-! ### Ends -/
def retP (T : Tab) (rs : List ResultVar) (res : D) (α : AS) : Prop := match outs T α rs with | some ds => packD ds = res | none => False
theorem ret_of {rs : List ResultVar} {res : D} {α : AS} (h : retP T rs res α) : retQ T rs res .ret α := by
  unfold retP at h
  split at h
  · rename_i ds hd; exact ⟨ds, hd, h.symm⟩
  · exact h.elim
theorem end_of {rs : List ResultVar} {res : D} {α : AS} (h : retP T rs res α) : retQ T rs res .normal α := ret_of h

/-! ### What is forgotten -/
def fitL (l : List (Nat × AV)) : List (Nat × AV) → Prop
  | [] => True
  | (t, x) :: r => Wk (frL l t) x ∧ fitL l r
def fitH (hs : List (Nat × Option HE)) : List (Nat × Option HE) → Prop
  | [] => True
  | (n, e) :: r => hL hs n = e ∧ fitH hs r
def okHE (p : Nat → Bool) : Option HE → Bool | some e => e.ok p | none => true
def okS (hs : List (Nat × Option HE)) (l' : List (Nat × AV)) (hs' : List (Nat × Option HE)) : Bool :=
  l'.all (fun p => p.2.ok (hasN hs')) && hs'.all (fun p => okHE (hasN hs') p.2) && hs.all fun p => decide (1000 ≤ p.1) || p.2.isNone || hasN hs' p.1
theorem hL_mem : ∀ {hs : List (Nat × Option HE)} {n : Nat} {e : HE}, hL hs n = some e → (n, some e) ∈ hs
  | [], n, e, h => by simp [hL] at h
  | (m, e0) :: r, n, e, h => by
    rw [hL] at h
    split at h
    · rename_i q; subst q; subst h; simp
    · exact List.mem_cons_of_mem _ (hL_mem h)
theorem sub_of {l l' : List (Nat × AV)} {hs hs' : List (Nat × Option HE)} (h1 : fitL l l') (h2 : fitH hs hs') (h3 : okS hs l' hs' = true) : Sub (st l hs) (st l' hs') := by
  simp only [okS, Bool.and_eq_true, List.all_eq_true] at h3
  obtain ⟨⟨o1, o2⟩, o3⟩ := h3
  refine Sub_st (fun t => ?_) (fun n e hn => ⟨?_, ?_⟩) fun n hn hq => ?_
  · clear h2 o2 o3
    induction l' with
    | nil => exact ⟨.inl rfl, rfl⟩
    | cons p r ih =>
      obtain ⟨a, x⟩ := p
      rw [frL]
      split
      · rename_i e; subst e; exact ⟨h1.1, o1 (t, x) (by simp)⟩
      · exact ih h1.2 fun p hp => o1 p (by simp [hp])
  · have : ∀ (h' : List (Nat × Option HE)), fitH hs h' → hL h' n = some e → hL hs n = some e := by
      intro h'
      induction h' with
      | nil => intro _ h; simp [hL] at h
      | cons p r ih =>
        obtain ⟨a, x⟩ := p
        intro hf h
        rw [hL] at h
        split at h
        · rename_i q; subst q; rw [hf.1, h]
        · exact ih hf.2 h
    exact this hs' h2 hn
  · have := o2 _ (hL_mem hn)
    simpa [okHE] using this
  · show hL hs n = none
    cases hx : hL hs n with
    | none => rfl
    | some e =>
      have := o3 _ (hL_mem hx)
      simp [hasN, hq] at this
      omega
section
theorem wk_d (x y : D) : Wk (.d x) (.d y) = (x = y) := by
  simp only [Wk, eq_iff_iff]; constructor
  · rintro (h | h | ⟨_, _, h, _⟩) <;> simp_all
  · intro h; exact .inr (.inl (by rw [h]))
theorem wk_fd (sz sz' : Nat) (x y : List (List D)) : Wk (.fl sz x) (.d (.l sz' y)) = (sz = sz' ∧ x = y) := by
  simp only [Wk, eq_iff_iff]; constructor
  · rintro (h | h | ⟨_, _, h, h'⟩) <;> simp_all
  · rintro ⟨rfl, rfl⟩; exact .inr (.inr ⟨_, _, rfl, rfl⟩)
theorem wk_ff (sz sz' : Nat) (x y : List (List D)) : Wk (.fl sz x) (.fl sz' y) = (sz = sz' ∧ x = y) := by
  simp only [Wk, eq_iff_iff]; constructor
  · rintro (h | h | ⟨_, _, h, h'⟩) <;> simp_all
  · rintro ⟨rfl, rfl⟩; exact .inr (.inl rfl)
theorem wk_s (n k n' k' : Nat) : Wk (.s n k) (.s n' k') = (n = n' ∧ k = k') := by
  simp only [Wk, eq_iff_iff]; constructor
  · rintro (h | h | ⟨_, _, h, h'⟩) <;> simp_all
  · rintro ⟨rfl, rfl⟩; exact .inr (.inl rfl)
theorem wk_r (n k n' k' : Nat) : Wk (.r n k) (.r n' k') = (n = n' ∧ k = k') := by
  simp only [Wk, eq_iff_iff]; constructor
  · rintro (h | h | ⟨_, _, h, h'⟩) <;> simp_all
  · rintro ⟨rfl, rfl⟩; exact .inr (.inl rfl)
theorem wk_j (x : AV) : Wk x .j = True := by simp [Wk]
theorem wk_same (x : AV) : Wk x x = True := by simp [Wk.refl]
end

/-! ### Contracts with effects -/
def outA (T : Tab) (α : AS) : ResultVar → Option AV
  | .tmp t => some (α.fr t)
  | .cell p ty => match α.fr p with
    | .r n 0 => match α.H n with
      | some (.blk _ cells) => if (T ty).k.agg = true ∧ (T ty).size = cells.length ∧ (T ty).size ≠ 0 then some (norm (.g cells)) else none
      | _ => none
    | _ => none
def outsA (T : Tab) (α : AS) : List ResultVar → Option (List AV)
  | [] => some []
  | r :: rs => match outA T α r, outsA T α rs with
    | some d, some ds => some (d :: ds)
    | _, _ => none
def packA : List AV → AV | [d] => d | ds => norm (.t ds)
def retE (T : Tab) (rs : List ResultVar) (x : AV) (hs' : List (Nat × HE)) : Exit → AS → Prop
  | .normal, α => ∃ ys, outsA T α rs = some ys ∧ packA ys = x ∧ ∀ p ∈ hs', α.H p.1 = some p.2
  | .ret, α => ∃ ys, outsA T α rs = some ys ∧ packA ys = x ∧ ∀ p ∈ hs', α.H p.1 = some p.2
  | _, _ => False
def allH (α : AS) : List (Nat × HE) → Prop
  | [] => True
  | (n, e) :: r => α.H n = some e ∧ allH α r
theorem allH_mem {α : AS} : ∀ {l : List (Nat × HE)}, allH α l → ∀ p ∈ l, α.H p.1 = some p.2
  | [], _, p, hp => by simp at hp
  | (n, e) :: r, h, p, hp => by
    rcases List.mem_cons.1 hp with q | q
    · subst q; exact h.1
    · exact allH_mem h.2 p q
def retPE (T : Tab) (rs : List ResultVar) (x : AV) (hs' : List (Nat × HE)) (α : AS) : Prop := (match outsA T α rs with | some ys => packA ys = x | none => False) ∧ allH α hs'
theorem retE_of {rs : List ResultVar} {x : AV} {hs' : List (Nat × HE)} {α : AS} (h : retPE T rs x hs' α) : retE T rs x hs' .ret α := by
  obtain ⟨h, h2⟩ := h
  split at h
  · rename_i ds hd; exact ⟨ds, hd, h, allH_mem h2⟩
  · exact h.elim
theorem endE_of {rs : List ResultVar} {x : AV} {hs' : List (Nat × HE)} {α : AS} (h : retPE T rs x hs' α) : retE T rs x hs' .normal α := retE_of h
def paramsA : Nat → List AV → List (Nat × AV)
  | _, [] => []
  | i, d :: ds => (i, d) :: paramsA (i + 1) ds
theorem paramsA_get : ∀ (ds : List AV) (i t : Nat), frL (paramsA i ds) t = if i ≤ t then (match ds[t - i]? with | some d => d | none => .j) else .j
  | [], i, t => by simp [paramsA, frL]
  | d :: ds, i, t => by
    rw [paramsA, frL]
    by_cases h : t = i
    · subst h; simp
    · rw [if_neg h, paramsA_get ds (i + 1) t]
      by_cases h2 : i ≤ t
      · rw [if_pos h2, if_pos (by omega), show t - i = (t - (i + 1)) + 1 by omega, List.getElem?_cons_succ]
      · rw [if_neg h2, if_neg (by omega)]
def toH (hs : List (Nat × HE)) : List (Nat × Option HE) := hs.map fun p => (p.1, some p.2)
theorem hL_toH : ∀ (hs : List (Nat × HE)) (n : Nat), hL (toH hs) n = hE hs n
  | [], n => rfl
  | (m, e) :: r, n => by
    show hL ((m, some e) :: toH r) n = _
    rw [hL, hE, hL_toH r n]
/-- The lists of a contract are fit: names that are handed in are small, all that is spoken of is listed. -/
def okC (hs : List (Nat × HE)) (x : AV) (hs' : List (Nat × HE)) : Bool :=
  hs.all (fun p => decide (p.1 < 1000) && inE hs' p.1) && x.ok (inE hs') && hs'.all fun p => p.2.ok (inE hs')
theorem PE_of (cx : Cx P) {f : FuncId} {fn : Func} {c : Code} {as : List AV} {hs hs' : List (Nat × HE)} {x : AV} {rs : List ResultVar} {N : Nat} (hf : P.funcs[f]? = some fn) (hb : fn.body = some c) (hn : (fn.name == "runtime.NumGoroutine") = false)
    (hrs : fn.results.toList = rs) (hNN : fn.ntmps = N) (hN : as.length ≤ N) (hok : okC hs x hs' = true) (h : ∀ B : Base, B.N = N → awp P B c (retE cx.T rs x hs') (st (paramsA 0 as) (toH hs))) : PE P f as hs x hs' := by
  subst hrs hNN
  simp only [okC, Bool.and_eq_true, List.all_eq_true, decide_eq_true_eq] at hok
  obtain ⟨⟨o1, o2⟩, o3⟩ := hok
  refine ⟨⟨fn, hf, hn, by rw [hb]; rfl⟩, fun w σ ρ vs hp hl hr => ?_⟩
  refine calls_of_wp hf hb (Code.wp_mono (fun e a w' hq => ?_) (h ⟨w, σ, fun b => ∃ m l0, ρ m = some l0 ∧ l0.block = some b, fn.ntmps, ρ⟩ rfl _ w ⟨σ, ρ, ?_⟩))
  · obtain ⟨α, ⟨σ', ρ', hi⟩, hq⟩ := hq
    have key : (∃ ys, outsA cx.T α fn.results.toList = some ys ∧ packA ys = x ∧ ∀ p ∈ hs', α.H p.1 = some p.2) → a.defers = [] ∧ ∃ v, (results fn a.tmps).run P w' = .ok v w' ∧
        ∃ v1 σ' ρ', Ending.returned v = .returned v1 ∧ HpOk σ' ρ' w' (hE hs') ∧ RdA σ' ρ' x v1 ∧ Done σ ρ w σ' ρ' w' := by
      rintro ⟨ys, h1, h2, h3⟩
      have outs1 : ∀ {r : ResultVar} {y : AV}, outA cx.T α r = some y → ∃ v, (rv a.tmps r).run P w' = .ok v w' ∧ RdA σ' ρ' y v := by
        intro r y hy
        cases r with
        | tmp t => simp only [outA, Option.some.injEq] at hy; subst hy; exact ⟨a.tmps.getD t undef, by simp [rv], hi.fr t⟩
        | cell p ty =>
          simp only [outA] at hy
          split at hy <;> first | (cases hy; done) | skip
          rename_i n hp'
          split at hy <;> first | (cases hy; done) | skip
          rename_i t cells hH
          split at hy <;> first | (cases hy; done) | skip
          rename_i hq2
          obtain ⟨ha, hs2, hz⟩ := hq2
          simp only [Option.some.injEq] at hy; subst hy
          have hr2 := hi.fr p
          rw [hp'] at hr2
          obtain ⟨g, us, q1, q2, q3, q4, q5, q6⟩ := hi.hok n _ hH
          have hv : a.tmps.getD p undef = .pointer (some ⟨g, 0, none⟩) := by
            generalize a.tmps.getD p undef = v at hr2
            cases hr2 with | r hr2 =>
            rw [q1] at hr2
            cases hr2; rfl
          obtain ⟨dd, u1, u2⟩ := (cx.hT ty hz).row ha
          refine ⟨.agg us, ?_, norm_rd (.g q3 q4 q5)⟩
          simp only [rv, hv, asAddr, Sem.run_bind, Sem.run_pure, Result.andThen_ok]
          have := run_loadVar_mid (P := P) w' g 0 ty us.toList dd (fun j v hv => by
            rw [cell_of_row w' g _ us t (0, 0) q2, Nat.zero_add]; simpa using hv) u1 u2 (by rw [(cx.hT ty hz).size']; simp; omega)
          simpa using this
      have outsL : ∀ {rs : List ResultVar} {ys : List AV}, outsA cx.T α rs = some ys → ∃ vs : List Value, (rs.mapM (rv a.tmps)).run P w' = .ok vs w' ∧ vs.length = ys.length ∧ ∀ (j : Nat) (y : AV), ys[j]? = some y → RdA σ' ρ' y (vs.getD j undef) := by
        intro rs
        induction rs with
        | nil => intro ys hy; simp [outsA] at hy; subst hy; exact ⟨[], by simp, rfl, fun j d hj => by simp at hj⟩
        | cons r rs ih =>
          intro ys hy
          simp only [outsA] at hy
          split at hy <;> first | (cases hy; done) | skip
          rename_i d0 ds0 g1 g2
          simp only [Option.some.injEq] at hy
          subst hy
          obtain ⟨v, e1, e2⟩ := outs1 g1
          obtain ⟨vs, e3, e4, e5⟩ := ih g2
          refine ⟨v :: vs, ?_, by simp [e4], fun j d hj => ?_⟩
          · rw [List.mapM_cons]
            simp only [Sem.run_bind, e1, Result.andThen_ok, e3, Sem.run_pure]
          · cases j with
            | zero => simp at hj; subst hj; exact e2
            | succ j => exact e5 j d (by simpa using hj)
      obtain ⟨us, e1, e2, e3⟩ := outsL h1
      have hall : ∀ n e, hE hs' n = some e → α.H n = some e := fun n e he => h3 _ (hE_mem he)
      have hx : RdA σ' ρ' x (if h : us.toArray.size = 1 then us.toArray[0] else .tuple us.toArray) := by
        subst h2
        match ys, us, e2, e3 with
        | [d], [u], _, e3 => exact e3 0 d rfl
        | [], [], _, e3 => exact norm_rd (.t (vs := []) (us := #[]) rfl fun j d hj => by simp at hj)
        | d1 :: d2 :: ds', u1 :: u2 :: us, e2, e3 =>
          rw [dif_neg (by simp)]
          refine norm_rd (.t (by simpa using e2) fun j d hj => ?_)
          have := e3 j d hj
          simpa [Array.getD_eq_getD_getElem?, List.getD_eq_getElem?_getD] using this
      have keep : ∀ n l, keepN (inE hs') ρ' n = some l → ρ' n = some l ∧ inE hs' n = true := by
        intro n l hn
        unfold keepN at hn
        split at hn
        · exact ⟨hn, ‹_›⟩
        · cases hn
      refine ⟨hi.df, (if h : us.toArray.size = 1 then us.toArray[0] else .tuple us.toArray), ?_, _, σ', keepN (inE hs') ρ', rfl, ⟨hi.sig, fun n e hn => ?_, fun n hn => ?_, fun n m l l' b q1 q2 q3 => hi.inj n m l l' b q1 (keep n l q2).1 (keep m l' q3).1⟩, hx.keep o2,
        ⟨hi.os, hi.tape, hi.out, hi.size, fun b hb hS => ⟨hi.keep b hb ?_, hi.old b hb ?_⟩, Names.le_iff.2 fun n l hl' => ?_, fun n l b q1 q2 => hi.own n l b (keep n l q1).1 q2⟩⟩
      · rw [results_rv, ← Array.toArray_toList (xs := fn.results), List.mapM_toArray]
        simp only [Sem.run_bind, Sem.run_map, e1, Result.andThen_ok, Sem.run_pure]
      · have hn' : inE hs' n = true := by unfold inE; rw [hn]; rfl
        have g3 := hi.hok n e (hall n e hn)
        have g4 := o3 _ (hE_mem hn)
        cases e with
        | blk t cells =>
          obtain ⟨g, us, q1, q2, q3, q4, q5, q6⟩ := g3
          exact ⟨g, us, by rw [keepN, if_pos hn']; exact q1, q2, q3, q4, fun j x hx => (q5 j x hx).keep (avs_ok (by simpa [HE.ok] using g4) j x hx), q6⟩
        | row e sz k xs =>
          obtain ⟨v, us, q1, q2⟩ := g3
          exact ⟨v, us, by rw [keepN, if_pos hn']; exact q1, q2⟩
      · have : inE hs' n = false := by unfold inE; rw [hn]; rfl
        rw [keepN, this]; rfl
      · rintro ⟨m, l0, q1, q2⟩; exact hS m l0 q1 q2
      · rintro ⟨m, l0, q1, q2⟩; exact hS m l0 q1 q2
      · have g1 : inE hs n = true := by
          cases hq : hE hs n with
          | none => rw [hp.dom n hq] at hl'; cases hl'
          | some e => unfold inE; rw [hq]; rfl
        obtain ⟨e, g2⟩ := inE_some g1
        have g3 := o1 _ (hE_mem g2)
        rw [keepN, if_pos g3.2]
        exact hi.le n l g3.1 hl'
    cases e <;> first | exact hq.elim | exact key hq
  · have hsz : vs.size ≤ fn.ntmps := by omega
    refine ⟨fun t => ?_, by simp; omega, rfl, hp.sig, fun n e hn => hp.hok n e (by rw [← hL_toH]; exact hn), fun n hn => hp.dom n (by rw [← hL_toH]; exact hn), hp.inj, fun n l b h1 h2 => .inr ⟨n, l, h1, h2⟩, rfl, rfl, rfl, Nat.le_refl _, fun b _ _ => rfl, fun b _ _ => rfl, fun n l _ h => by rw [show ρ n = some l from h]; exact Loc.le_refl l⟩
    show RdA σ ρ (frL (paramsA 0 as) t) _
    rw [paramsA_get]
    simp only [Nat.zero_le, if_true, Nat.sub_zero]
    cases hd : as[t]? with
    | none => exact .j _
    | some d =>
      have ht := (List.getElem?_eq_some_iff.1 hd).1
      have e1 : (vs ++ Array.replicate (fn.ntmps - vs.size) undef).getD t undef = vs.getD t undef := by
        simp only [Array.getD_eq_getD_getElem?]
        rw [Array.getElem?_append_left (by omega)]
      rw [e1]
      exact hr t d hd
/-- The same for functions that only compute, all numbers told. -/
theorem PF_of' (cx : Cx P) {f : FuncId} {fn : Func} {c : Code} {ds : List D} {res : D} {rs : List ResultVar} {N : Nat} (hf : P.funcs[f]? = some fn) (hb : fn.body = some c) (hn : (fn.name == "runtime.NumGoroutine") = false)
    (hrs : fn.results.toList = rs) (hNN : fn.ntmps = N) (hN : ds.length ≤ N) (h : ∀ B : Base, B.N = N → awp P B c (retQ cx.T rs res) (st (params 0 ds) [])) : PF P f ds res := by
  subst hrs hNN
  exact PF_of cx hf hb hn hN h
attribute [go_sem] retP retPE outs out1 outsA outA packD packA resG resD resDs resGs fitL fitH wk_d wk_fd wk_ff wk_s wk_r wk_j wk_same paramsA toH ne_eq not_false_eq_true
end Go.AM
