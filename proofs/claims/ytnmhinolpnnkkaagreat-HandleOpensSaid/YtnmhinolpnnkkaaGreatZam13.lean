/- The abstract machine, part 13: operations, regions, code, calls. -/
import Derived.Test.YtnmhinolpnnkkaaGreatZamC
set_option linter.unusedSimpArgs false
set_option linter.unusedVariables false
namespace Go.AM
open Go.RowKit Go.Lib

/-- What a walk goes by: the types, the structs that are compared, the appends that yield what never changes. -/
structure Cx (P : Program) where
  T : Tab
  hT : ∀ t, (T t).size ≠ 0 → TOk P t (T t)
  E : Eqs P
  mixed : P.follows .mixedOrders = true
  IM : Nat → Bool
variable {P : Program}

def gT (T : Tab) (t : TypeId) (x : Option PR) : Option PR := if (T t).size = 0 then none else x
def isSl : TK → Bool | .slice _ => true | _ => false
def isLen : TK → Bool | .str => true | _ => false
def plan (cx : Cx P) (nm : Nat) (o : Oper) (α : AS) : Option PR :=
  match o.op with
  | .move x => pMove cx.T o.type α x
  | .assign x => pMove cx.T o.type α x
  | .pick c x y => pPick α c x y
  | .alloc t => gT cx.T t (pAlloc cx.T nm t α)
  | .box t x => pBox cx.T nm t α x
  | .build t ps => gT cx.T t (pBuild cx.T t α ps)
  | .load t x => gT cx.T t (pLoad cx.T t α x)
  | .store t x y => match o.dst with | none => gT cx.T t (pStoreX cx.T t α x y) | some _ => none
  | .nilCheck x => pNil α x
  | .binOp op t x y _ => gT cx.T t (pBin cx.T cx.E.ok op t α x y)
  | .unOp op _ x => pUn op α x
  | .convert s t x => gT cx.T s (gT cx.T t (pConvA cx.T nm s t α x))
  | .makeFunc fn first caps => pFunc α fn first caps
  | .slice t x lo hi mx => gT cx.T t (if isLen (cx.T t).k then pSlice cx.T t α x lo hi mx else gT cx.T (cx.T t).k.elem (pSlice cx.T t α x lo hi mx))
  | .fieldAddr t x f => gT cx.T t (pFieldAddr cx.T t α x f)
  | .field t x f => gT cx.T t (pField cx.T t α x f)
  | .indexAddr t x i => gT cx.T t (gT cx.T (cx.T t).k.elem (pIndexAddr cx.T t α x i))
  | .index t x i => gT cx.T t (pIndex cx.T t α x i)
  | .extract x i => pExtract α x i
  | .call { callee := .builtin .len, args := ⟨[x]⟩, argTypes := ⟨[t]⟩ } => gT cx.T t (pLen cx.T t α x)
  | .call { callee := .builtin .min, args, .. } => pMM false α args.toList
  | .call { callee := .builtin .max, args, .. } => pMM true α args.toList
  | .call { callee := .builtin .append, args := ⟨[x, y]⟩, argTypes := ⟨[t, xt]⟩ } =>
    gT cx.T t (gT cx.T xt (gT cx.T (cx.T t).k.elem (if isSl (cx.T t).k then pApp cx.T (cx.IM nm) nm t xt α x y else none)))
  | .buildSlice t len ps => gT cx.T t (pBuildS cx.T t α len ps)
  | .makeSlice t l c => gT cx.T t (pMake cx.T nm t α l c)
  | _ => none

theorem gT_some {T : Tab} {t : TypeId} {x : Option PR} {pr : PR} (h : gT T t x = some pr) : (T t).size ≠ 0 ∧ x = some pr := by
  unfold gT at h
  split at h
  · cases h
  · exact ⟨‹_›, h⟩

theorem plan_ok (cx : Cx P) {nm : Nat} {o : Oper} {α : AS} {pr : PR} (h : plan cx nm o α = some pr) : Snd P o α pr := by
  unfold plan at h
  split at h <;> first | (cases h; done) | skip
  case h_1 x ho => exact pMove_ok (.inl ho) h
  case h_2 x ho => exact pMove_ok (.inr ho) h
  case h_3 c x y ho => exact pPick_ok ho h
  case h_4 t ho => exact pAlloc_ok cx.hT ho (gT_some h).1 (gT_some h).2
  case h_5 t x ho => exact pBox_ok cx.hT ho h
  case h_6 t ps ho => exact pBuild_ok cx.hT ho (gT_some h).1 (gT_some h).2
  case h_7 t x ho => exact pLoad_ok cx.hT ho (gT_some h).1 (gT_some h).2
  case h_8 t x y ho =>
    split at h
    · rename_i hd; exact pStoreX_ok cx.hT ho hd (gT_some h).1 (gT_some h).2
    · cases h
  case h_9 x ho => exact pNil_ok ho h
  case h_10 op t x y u ho => exact pBin_ok cx.hT cx.E ho (gT_some h).1 (gT_some h).2
  case h_11 op t x ho => exact pUn_ok ho h
  case h_12 s t x ho => exact pConvA_ok cx.hT ho (gT_some (gT_some h).2).1 (gT_some h).1 (gT_some (gT_some h).2).2
  case h_13 fn first caps ho => exact pFunc_ok ho h
  case h_14 t x lo hi mx ho =>
    obtain ⟨h1, h2⟩ := gT_some h
    split at h2
    · rename_i hl
      exact pSlice_ok cx.hT ho h1 (.inl (by revert hl; cases (cx.T t).k <;> simp [isLen])) h2
    · exact pSlice_ok cx.hT ho h1 (.inr (gT_some h2).1) (gT_some h2).2
  case h_15 t x f ho => exact pFieldAddr_ok cx.hT ho (gT_some h).1 (gT_some h).2
  case h_16 t x f ho => exact pField_ok cx.hT ho (gT_some h).1 (gT_some h).2
  case h_17 t x i ho => exact pIndexAddr_ok cx.hT ho (gT_some h).1 (gT_some (gT_some h).2).1 (gT_some (gT_some h).2).2
  case h_18 t x i ho => exact pIndex_ok cx.hT ho (gT_some h).1 (gT_some h).2
  case h_19 x i ho => exact pExtract_ok ho h
  case h_20 x t ho => exact pLen_ok cx.hT ho (gT_some h).1 (gT_some h).2
  case h_21 args ts ho => exact pMM_ok (mx := false) ho h
  case h_22 args ts ho => exact pMM_ok (mx := true) ho h
  case h_23 x y t xt ho =>
    obtain ⟨h1, h2⟩ := gT_some h
    obtain ⟨h3, h4⟩ := gT_some h2
    obtain ⟨h5, h6⟩ := gT_some h4
    split at h6
    · rename_i hs
      exact pApp_ok cx.hT ho h1 h3 h5 (by revert hs; cases (cx.T t).k <;> simp [isSl]) h6
    · cases h6
  case h_24 t len ps ho => exact pBuildS_ok cx.hT ho (gT_some h).1 (gT_some h).2
  case h_25 t l c ho => exact pMake_ok cx.hT ho (gT_some h).1 (gT_some h).2

/-! ### Calls of functions that only compute -/
def FnOk (P : Program) (f : FuncId) : Prop := ∃ fn, P.funcs[f]? = some fn ∧ (fn.name == "runtime.NumGoroutine") = false ∧ fn.body.isNone = false
def SigOk (σ : Sig) (w : World) : Prop := ∀ b o u, σ b o = some u → w.cell? ⟨b, o, none⟩ = some u
/-- Called with values that read as 'ds', the function returns what reads as 'res'; nothing that was there has changed. -/
def PF (P : Program) (f : FuncId) (ds : List D) (res : D) : Prop := FnOk P f ∧ ∀ (w : World) (σ : Sig) (vs : Array Value), SigOk σ w → vs.size = ds.length → (∀ (j : Nat) (d : D), ds[j]? = some d → Rd σ d (vs.getD j undef)) →
  Calls P f vs w fun e w' => ∃ v σ', e = .returned v ∧ Below w.heap.size w w' ∧ (∀ b, b < w.heap.size → σ' b = σ b) ∧ SigOk σ' w' ∧ Rd σ' res v

theorem run_callFunc {f : FuncId} (h : FnOk P f) (args : Array Value) (w : World) : (callFunc f args).run P w = .ok (.enter f args) w := by
  obtain ⟨fn, h1, h2, h3⟩ := h
  have h2' : fn.name ≠ "runtime.NumGoroutine" := by simpa using h2
  have h3' : fn.body ≠ none := by intro h; rw [h] at h3; cases h3
  unfold callFunc
  simp [program, Sem.run, h1, h2', h3']

/-- The function that a value is, and what it has captured. -/
def fnOf : AV → Option (FuncId × List AV)
  | .d (.c (.func (.func f) ⟨[]⟩ ⟨[]⟩)) => some (f, [])
  | .d (.f (.func f) caps) => some (f, caps.map .d)
  | .f (.func f) caps => some (f, caps)
  | _ => none
theorem fnOf_val {σ : Sig} {ρ : Names} {x : AV} {f : FuncId} {caps : List AV} (h : fnOf x = some (f, caps)) {v : Value} (r : RdA σ ρ x v) :
    ∃ us : Array Value, v = .func (.func f) #[] us ∧ us.size = caps.length ∧ ∀ (j : Nat) (y : AV), caps[j]? = some y → RdA σ ρ y (us.getD j undef) := by
  unfold fnOf at h
  split at h <;> first | (cases h; done) | skip
  · simp only [Option.some.injEq, Prod.mk.injEq] at h
    obtain ⟨rfl, rfl⟩ := h
    exact ⟨#[], rd_c r, rfl, fun j y hy => by simp at hy⟩
  · simp only [Option.some.injEq, Prod.mk.injEq] at h
    obtain ⟨rfl, rfl⟩ := h
    cases r with | d r =>
    cases r with | f hl hh =>
    refine ⟨_, rfl, by simpa using hl, fun j y hy => ?_⟩
    simp only [List.getElem?_map, Option.map_eq_some_iff] at hy
    obtain ⟨d, hd, rfl⟩ := hy
    exact .d (hh j d hd)
  · simp only [Option.some.injEq, Prod.mk.injEq] at h
    obtain ⟨rfl, rfl⟩ := h
    cases r with | f hl hh => exact ⟨_, rfl, hl, hh⟩

def argsA (T : Tab) (α : AS) (args : List Operand) (ts : List TypeId) : List AV := args.zipIdx.map fun p => evT T α (ts.getD p.2 0) p.1
theorem call_exec {σ : Sig} {ρ : Names} {o : Oper} {fo : Operand} {args : Array Operand} {ts : Array TypeId} (ho : o.op = .call { callee := .value fo, args, argTypes := ts }) {a : Act} {w : World} {f : FuncId} {us : Array Value} (hf : a.eval fo = .func (.func f) #[] us) (h : FnOk P f) :
    (execOp a.eval o).run P w = .ok (.enter f (args.map a.eval ++ us)) w := by
  simp only [execOp, ho, resolve, hf, Deferred.ofValue, Sem.run_bind, Sem.run_pure, Result.andThen_ok, invoke, Array.empty_append, run_callFunc h]

theorem grownBy_of_below {w w' : World} (h : Below w.heap.size w w') : w.grownBy w' none := ⟨h.os, h.tape, h.output, h.size, fun k hk _ => h.block k hk⟩

theorem call_ok (T : Tab) {o : Oper} {α : AS} {fo : Operand} {args : Array Operand} {ts : Array TypeId} (ho : o.op = .call { callee := .value fo, args, argTypes := ts }) {f : FuncId} {caps : List AV} (hf : fnOf (α.ev fo) = some (f, caps))
    {ds : List D} {res : D} (hd : toDs (argsA T α args.toList ts.toList ++ caps) = some ds) (h : PF P f ds res) : Snd P o α ⟨True, .d res, [], []⟩ := by
  intro B a w hdst ⟨σ, ρ, hi⟩ _
  obtain ⟨us, hv, hl, hu⟩ := fnOf_val hf (ev_rd hi fo)
  obtain ⟨hfn, hp⟩ := h
  obtain ⟨d1, d2⟩ := toDs_get hd
  unfold Oper.wp
  rw [call_exec (σ := σ) (ρ := ρ) ho hv hfn]
  simp only [Oper.upon]
  have hlen : (argsA T α args.toList ts.toList).length = args.size := by simp [argsA]
  refine (hp w σ (args.map a.eval ++ us) hi.sig (by rw [d1]; simp [hlen, hl]) fun j d hj => ?_).mono fun e w' he => ?_
  · obtain ⟨x, hx, hxd⟩ := d2 j d hj
    refine toD_rd (ρ := ρ) hxd ?_
    rw [List.getElem?_append] at hx
    split at hx
    · rename_i hlt
      have hlt' : j < args.size := by omega
      have e1 : (args.map a.eval ++ us).getD j undef = a.eval args[j] := by
        simp [Array.getD, hlt', show j < args.size + us.size by omega, Array.getElem_append_left, hlt']
      rw [e1]
      simp only [argsA, List.getElem?_map, List.getElem?_zipIdx, Option.map_map] at hx
      rw [List.getElem?_eq_getElem (by simpa using hlt')] at hx
      simp only [Option.map_some, Option.some.injEq, Function.comp] at hx
      subst hx
      have := evT_rd (T := T) hi (ts.toList.getD (0 + j) 0) args[j]
      simpa using this
    · rename_i hge
      have e1 : (args.map a.eval ++ us).getD j undef = us.getD (j - args.size) undef := by
        simp only [Array.getD_eq_getD_getElem?]
        rw [Array.getElem?_append_right (by simp; omega)]
        simp
      rw [e1]
      rw [hlen] at hx
      exact hu _ _ hx
  · obtain ⟨v, σ', rfl, hb, ho', hs', hr⟩ := he
    have hi' := hi.grow0 (σ' := σ') (grownBy_of_below hb) ho' (fun b oo u _ hs => hs' b oo u hs)
    exact ⟨σ', ρ, hi'.put hdst (.d hr)⟩
end Go.AM
