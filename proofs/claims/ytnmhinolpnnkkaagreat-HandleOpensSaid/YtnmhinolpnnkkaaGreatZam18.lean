/- The abstract machine, part 18: a function's end and begin: contracts of functions that only compute. -/
import Derived.Test.YtnmhinolpnnkkaaGreatZam17
set_option linter.unusedSimpArgs false
set_option linter.unusedVariables false
namespace Go.AM
open Go.RowKit Go.Lib
variable {P : Program} {T : Tab}

def out1 (T : Tab) (α : AS) : ResultVar → Option D
  | .tmp t => resG α.H (α.fr t)
  | .cell p ty => match α.fr p with
    | .r n 0 => match α.H n with
      | some (.blk _ cells) => if (T ty).k.agg ∧ (T ty).size = cells.length ∧ (T ty).size ≠ 0 then (match resDs α.H cells with | some ds => some (.g ds) | none => none) else none
      | _ => none
    | _ => none
def outs (T : Tab) (α : AS) : List ResultVar → Option (List D)
  | [] => some []
  | r :: rs => match out1 T α r, outs T α rs with
    | some d, some ds => some (d :: ds)
    | _, _ => none
def packD : List D → D | [d] => d | ds => .t ds
def retQ (T : Tab) (rs : List ResultVar) (res : D) : Exit → AS → Prop
  | .normal, α => ∃ ds, outs T α rs = some ds ∧ res = packD ds
  | .ret, α => ∃ ds, outs T α rs = some ds ∧ res = packD ds
  | _, _ => False

def rv (tmps : Array Value) : ResultVar → Sem Value
  | .tmp t => pure (tmps.getD t undef)
  | .cell p t => do loadVar t (← asAddr (tmps.getD p undef))
theorem results_rv (fn : Func) (tmps : Array Value) : results fn tmps = (do let vs ← fn.results.mapM (rv tmps); pure (if h : vs.size = 1 then vs[0] else .tuple vs) : Sem Value) := by
  unfold results
  refine congrArg (fun f : ResultVar → Sem Value => (do let vs ← fn.results.mapM f; pure (if h : vs.size = 1 then vs[0] else .tuple vs) : Sem Value)) (funext fun r => ?_)
  cases r <;> rfl

section
variable {B : Base} {σ : Sig} {ρ : Names} {α : AS} {a : Act} {w : World}
theorem out1_run (hT : ∀ t, (T t).size ≠ 0 → TOk P t (T t)) (hi : Inv B σ ρ α a w) {r : ResultVar} {d : D} (h : out1 T α r = some d) :
    ∃ v, (rv a.tmps r).run P w = .ok v w ∧ Rd (frozen σ ρ w) d v := by
  cases r with
  | tmp t => exact ⟨a.tmps.getD t undef, by simp [rv], resG_rd hi (by simpa [out1] using h) (hi.fr t)⟩
  | cell p ty =>
    simp only [out1] at h
    split at h <;> first | (cases h; done) | skip
    rename_i n hp
    split at h <;> first | (cases h; done) | skip
    rename_i t cells hH
    split at h <;> first | (cases h; done) | skip
    rename_i hq
    obtain ⟨ha, hs, hz⟩ := hq
    split at h <;> first | (cases h; done) | skip
    rename_i ds hd
    simp only [Option.some.injEq] at h; subst h
    have hr := hi.fr p
    rw [hp] at hr
    obtain ⟨g, us, q1, q2, q3, q4, q5, q6⟩ := hi.hok n _ hH
    have hv : a.tmps.getD p undef = .pointer (some ⟨g, 0, none⟩) := by
      generalize a.tmps.getD p undef = v at hr
      cases hr with | r hr =>
      rw [q1] at hr
      cases hr; rfl
    obtain ⟨dd, u1, u2⟩ := (hT ty hz).row ha
    refine ⟨.agg us, ?_, .g ?_ q4 fun j d hj => ?_⟩
    · simp only [rv, hv, asAddr, Sem.run_bind, Sem.run_pure, Result.andThen_ok]
      have := run_loadVar_mid (P := P) w g 0 ty us.toList dd (fun j v hv => by
        rw [cell_of_row w g _ us t (0, 0) q2, Nat.zero_add]; simpa using hv) u1 u2 (by rw [(hT ty hz).size']; simp; omega)
      simpa using this
    · obtain ⟨h1, h2⟩ := resDs_get hd; omega
    · obtain ⟨h1, h2⟩ := resDs_get hd
      obtain ⟨y, hy, hyd⟩ := h2 j d hj
      exact resD_rd hi hyd (q5 j y hy)
theorem outs_run (hT : ∀ t, (T t).size ≠ 0 → TOk P t (T t)) (hi : Inv B σ ρ α a w) : ∀ {rs : List ResultVar} {ds : List D}, outs T α rs = some ds →
    ∃ vs : List Value, (rs.mapM (rv a.tmps)).run P w = .ok vs w ∧ vs.length = ds.length ∧ ∀ (j : Nat) (d : D), ds[j]? = some d → Rd (frozen σ ρ w) d (vs.getD j undef)
  | [], ds, h => by simp [outs] at h; subst h; exact ⟨[], by simp, rfl, fun j d hj => by simp at hj⟩
  | r :: rs, ds, h => by
    simp only [outs] at h
    split at h <;> first | (cases h; done) | skip
    rename_i d0 ds0 h1 h2
    simp only [Option.some.injEq] at h
    subst h
    obtain ⟨v, e1, e2⟩ := out1_run hT hi h1
    obtain ⟨vs, e3, e4, e5⟩ := outs_run hT hi h2
    refine ⟨v :: vs, ?_, by simp [e4], fun j d hj => ?_⟩
    · rw [List.mapM_cons]
      simp only [Sem.run_bind, e1, Result.andThen_ok, e3, Sem.run_pure]
    · cases j with
      | zero => simp at hj; subst hj; exact e2
      | succ j => exact e5 j d (by simpa using hj)
end

def params : Nat → List D → List (Nat × AV)
  | _, [] => []
  | i, d :: ds => (i, .d d) :: params (i + 1) ds
theorem params_get : ∀ (ds : List D) (i t : Nat), frL (params i ds) t = if i ≤ t then (match ds[t - i]? with | some d => .d d | none => .j) else .j
  | [], i, t => by simp [params, frL]
  | d :: ds, i, t => by
    rw [params, frL]
    by_cases h : t = i
    · subst h; simp
    · rw [if_neg h, params_get ds (i + 1) t]
      by_cases h2 : i ≤ t
      · rw [if_pos h2, if_pos (by omega), show t - i = (t - (i + 1)) + 1 by omega, List.getElem?_cons_succ]
      · rw [if_neg h2, if_neg (by omega)]

/-- A contract, by a walk of the body. -/
theorem PF_of (cx : Cx P) {f : FuncId} {fn : Func} {c : Code} {ds : List D} {res : D} (hf : P.funcs[f]? = some fn) (hb : fn.body = some c) (hn : (fn.name == "runtime.NumGoroutine") = false)
    (hN : ds.length ≤ fn.ntmps) (h : ∀ B : Base, B.N = fn.ntmps → awp P B c (retQ cx.T fn.results.toList res) (st (params 0 ds) [])) : PF P f ds res := by
  refine ⟨⟨fn, hf, hn, by rw [hb]; rfl⟩, fun w σ vs hs hl hr => ?_⟩
  have h0 : ∀ b, w.heap.size ≤ b → ∀ o, σ b o = none := by
    intro b hb o
    cases hq : σ b o with
    | none => rfl
    | some u => have := World.block_lt_of_cell? w _ (hs b o u hq); simp only at this; omega
  refine calls_of_wp hf hb (Code.wp_mono (fun e a w' hq => ?_) (h ⟨w, σ, fun _ => False, fn.ntmps, fun _ => none⟩ rfl _ w ⟨σ, fun _ => none, ?_⟩))
  · obtain ⟨α, ⟨σ', ρ, hi⟩, hq⟩ := hq
    have key : (∃ ds', outs cx.T α fn.results.toList = some ds' ∧ res = packD ds') → a.defers = [] ∧ ∃ v, (results fn a.tmps).run P w' = .ok v w' ∧ ∃ v1 σ', Ending.returned v = .returned v1 ∧ Below w.heap.size w w' ∧ (∀ b, b < w.heap.size → σ' b = σ b) ∧ SigOk σ' w' ∧ Rd σ' res v1 := by
      rintro ⟨ds', h1, rfl⟩
      obtain ⟨us, e1, e2, e3⟩ := outs_run cx.hT hi h1
      refine ⟨hi.df, (if h : us.toArray.size = 1 then us.toArray[0] else .tuple us.toArray), ?_, _, frozen σ' ρ w', rfl, ⟨hi.os, hi.tape, hi.out, hi.size, fun k hk => hi.keep k hk (fun h => h)⟩, frozen_old hi (fun _ h => h), frozen_sig hi, ?_⟩
      · rw [results_rv, ← Array.toArray_toList (xs := fn.results), List.mapM_toArray]
        simp only [Sem.run_bind, Sem.run_map, e1, Result.andThen_ok, Sem.run_pure]
      · match ds', us, e2, e3 with
        | [d], [u], _, e3 => exact e3 0 d rfl
        | [], [], _, e3 => exact .t rfl fun j d hj => by simp at hj
        | d1 :: d2 :: ds', u1 :: u2 :: us, e2, e3 =>
          rw [dif_neg (by simp)]
          refine .t (by simpa using e2) fun j d hj => ?_
          have := e3 j d hj
          simpa [Array.getD_eq_getD_getElem?, List.getD_eq_getElem?_getD] using this
    cases e <;> first | exact hq.elim | exact key hq
  · have hsz : vs.size ≤ fn.ntmps := by omega
    refine ⟨fun t => ?_, by simp; omega, rfl, hs, fun n e hn => by simp [st, hL] at hn, fun _ _ => rfl, fun n m l l' b _ h1 => (by cases h1), fun n l b h1 => (by cases h1), rfl, rfl, rfl, Nat.le_refl _, fun b _ _ => rfl, fun b _ _ => rfl, fun _ _ _ h => by cases h⟩
    show RdA σ _ (frL (params 0 ds) t) _
    rw [params_get]
    simp only [Nat.zero_le, if_true, Nat.sub_zero]
    cases hd : ds[t]? with
    | none => exact .j _
    | some d =>
      have ht := (List.getElem?_eq_some_iff.1 hd).1
      have e1 : (vs ++ Array.replicate (fn.ntmps - vs.size) undef).getD t undef = vs.getD t undef := by
        simp only [Array.getD_eq_getD_getElem?]
        rw [Array.getElem?_append_left (by omega)]
      rw [e1]
      exact .d (hr t d hd)
end Go.AM
