/- The abstract machine, part 4: more operations that leave the world alone. -/
import Derived.Test.YtnmhinolpnnkkaaGreatZam3
set_option linter.unusedSimpArgs false
set_option linter.unusedVariables false
namespace Go.AM
open Go.RowKit
variable {P : Program} {T : Tab}

def evT (T : Tab) (α : AS) (ty : TypeId) (x : Operand) : AV :=
  match x with
  | .const (.slice none 0 0) => .fl (T ((T ty).k.elem)).size []
  | x => α.ev x
theorem evT_rd {B : Base} {σ : Sig} {ρ : Names} {α : AS} {a : Act} {w : World} (h : Inv B σ ρ α a w) (ty : TypeId) (x : Operand) : RdA σ ρ (evT T α ty x) (a.eval x) := by
  unfold evT
  split
  · exact .fl (.nil _ _ _)
  · exact ev_rd h x

theorem snd_run {o : Oper} {α : AS} {c : Prop} {x : AV} {rn : List Nat} (f : Act → Sem Value) (ho : ∀ (a : Act) (w : World), (execOp a.eval o).run P w = (do let v ← f a; pure (.value v) : Sem Next).run P w)
    (h : c → ∀ (B : Base) (σ : Sig) (ρ : Names) (a : Act) (w : World), Inv B σ ρ α a w → ∃ v, (f a).run P w = .ok v w ∧ RdA σ ρ x v) : Snd P o α ⟨c, x, rn, []⟩ :=
  snd_val fun hc B σ ρ a w hi => by
    obtain ⟨v, h1, h2⟩ := h hc B σ ρ a w hi
    exact ⟨v, by rw [ho]; simp [h1], h2⟩

/-! ### Comparisons of structs, of pointers with nil, and all other binary operators -/
def eqV : Value → Value → Option Bool
  | .int k a, .int k' b => if k = k' then some (decide (a = b)) else none
  | .string a, .string b => some (decide (a = b))
  | .bool a, .bool b => some (a == b)
  | _, _ => none
def eqVs : List Value → List Value → Option Bool
  | [], [] => some true
  | x :: xs, y :: ys => match eqV x y, eqVs xs ys with
    | some a, some b => some (a && b)
    | _, _ => none
  | _, _ => none
def unC : D → Value | .c v => v | _ => undef
/-- Structs of this type are compared cell by cell. -/
def EqOk (P : Program) (t : TypeId) : Prop := ∀ (us vs : List Value) (b : Bool), eqVs us vs = some b → ∀ (ox oy : Operand) (w : World),
  (do eqGuard .eql t ox oy (.agg us.toArray) (.agg vs.toArray); binOp .eql t (.agg us.toArray) (.agg vs.toArray) : Sem Value).run P w = .ok (.bool b) w ∧
  (do eqGuard .neq t ox oy (.agg us.toArray) (.agg vs.toArray); binOp .neq t (.agg us.toArray) (.agg vs.toArray) : Sem Value).run P w = .ok (.bool !b) w
structure Eqs (P : Program) where
  ok : TypeId → Bool
  h : ∀ t, ok t = true → EqOk P t
def allC : List D → Bool
  | [] => true
  | .c _ :: r => allC r
  | _ => false
theorem rdc {σ : Sig} {u v : Value} (h : Rd σ (.c u) v) : v = u := by cases h; rfl
theorem run_equal_bool {t : TypeId} (h : P.underlying t = some .bool) (a b : Bool) (w : World) : (Op.equal t (.bool a) (.bool b)).run P w = .ok (a == b) w := by
  show (Op.equalIn (9999 + 1) t (.bool a) (.bool b)).run P w = _
  rw [Op.equalIn, Sem.run_bind, run_underlying h]
  rfl
theorem run_equal_nil {t e : TypeId} (h : P.underlying t = some (.pointer e)) (b : Option Addr) (w : World) : (Op.equal t (.pointer none) (.pointer b)).run P w = .ok b.isNone w := by
  show (Op.equalIn (9999 + 1) t (.pointer none) (.pointer b)).run P w = _
  rw [Op.equalIn, Sem.run_bind, run_underlying h]
  rfl
theorem run_equal_nil' {t e : TypeId} (h : P.underlying t = some (.pointer e)) (b : Addr) (w : World) : (Op.equal t (.pointer (some b)) (.pointer none)).run P w = .ok false w := by
  show (Op.equalIn (9999 + 1) t (.pointer (some b)) (.pointer none)).run P w = _
  rw [Op.equalIn, Sem.run_bind, run_underlying h]
  rfl
theorem allC_vals {σ : Sig} {cs : List D} {us : Array Value} (h : allC cs = true) (r : Rd σ (.g cs) (.agg us)) : us = (cs.map unC).toArray := by
  cases r with | g hl ho hh =>
  apply Array.ext
  · simpa using hl
  · intro j h1 h2
    have hj : j < cs.length := by omega
    have hc : ∀ (cs : List D) (j : Nat) (hj : j < cs.length), allC cs = true → ∃ v, cs[j] = .c v := by
      intro cs
      induction cs with
      | nil => intro j hj; simp at hj
      | cons x xs ih =>
        intro j hj ha
        cases x <;> simp only [allC, Bool.false_eq_true] at ha
        cases j with
        | zero => exact ⟨_, rfl⟩
        | succ j => exact ih j (by simpa using hj) ha
    obtain ⟨v, hv⟩ := hc cs j hj h
    have := rdc (hh j _ (by rw [List.getElem?_eq_getElem hj, hv]))
    have e : us.getD j undef = us[j] := by simp [Array.getD, h1]
    rw [← e, this]
    simp [hv, unC]

def isNil : AV → Bool | .d (.c (.pointer none)) => true | _ => false
def nonNil : AV → Bool | .r _ _ | .d (.p _) => true | .d (.c (.pointer (some _))) => true | _ => false
def isPtr : TK → Bool | .ptr _ => true | _ => false
def isNilV : Value → Bool | .pointer none => true | _ => false
def isPtrV : Value → Bool | .pointer _ => true | _ => false
def pBin (T : Tab) (E : TypeId → Bool) (op : BinOp) (t : TypeId) (α : AS) (x y : Operand) : Option PR :=
  match α.ev x, α.ev y with
  | .d (.c (.bool a)), .d (.c (.bool b)) => match op, (T t).k with
    | .eql, .bool => pv (.d (.c (.bool (a == b))))
    | .neq, .bool => pv (.d (.c (.bool (!(a == b)))))
    | _, _ => none
  | .d (.c u), .d (.c v) => match abin op u v with
    | some (c, r) => pc c (.d (.c r))
    | none => if isPtr (T t).k ∧ isNilV u ∧ isPtrV v then
        match op with
        | .eql => pv (.d (.c (.bool (isNilV v))))
        | .neq => pv (.d (.c (.bool (!isNilV v))))
        | _ => none
      else none
  | .d (.g cs), .d (.g ds) => if E t ∧ allC cs ∧ allC ds then
      match eqVs (cs.map unC) (ds.map unC), op with
      | some b, .eql => pv (.d (.c (.bool b)))
      | some b, .neq => pv (.d (.c (.bool (!b))))
      | _, _ => none
    else none
  | a, b => if isPtr (T t).k ∧ nonNil a ∧ isNil b then
      match op with
      | .eql => pv (.d (.c (.bool false)))
      | .neq => pv (.d (.c (.bool true)))
      | _ => none
    else none

theorem ev_g {B : Base} {σ : Sig} {ρ : Names} {α : AS} {a : Act} {w : World} (h : Inv B σ ρ α a w) {x : Operand} {cs : List D} (hx : α.ev x = .d (.g cs)) (hc : allC cs = true) : a.eval x = .agg (cs.map unC).toArray := by
  have h1 := ev_rd h x
  rw [hx] at h1
  cases h1 with | d h1 =>
  generalize a.eval x = v at h1 ⊢
  have h2 := h1
  cases h1 with | g hl ho hh => rw [allC_vals hc h2]

theorem bin_run {o : Oper} {op : BinOp} {t u : TypeId} {x y : Operand} (ho : o.op = .binOp op t x y u) (a : Act) (w : World) :
    (execOp a.eval o).run P w = (do let v ← (do eqGuard op t x y (a.eval x) (a.eval y); binOp op t (a.eval x) (a.eval y) : Sem Value); pure (.value v) : Sem Next).run P w := by
  simp [execOp, ho]
theorem TOk.ptr {t : TypeId} {ti : TI} (h : TOk P t ti) (hk : isPtr ti.k = true) : ∃ e, P.underlying t = some (.pointer e) := by
  obtain ⟨d, h1, h2⟩ := h.desc'
  cases hq : ti.k <;> rw [hq] at hk h2 <;> simp [isPtr] at hk
  cases d <;> simp [descK] at h2
  exact ⟨_, h1⟩
theorem TOk.bool {t : TypeId} {ti : TI} (h : TOk P t ti) (hk : ti.k = .bool) : P.underlying t = some .bool := by
  obtain ⟨d, h1, h2⟩ := h.desc'
  rw [hk] at h2
  cases d <;> simp [descK] at h2
  rw [h1]
theorem nonNil_ptr {σ : Sig} {ρ : Names} {x : AV} {v : Value} (h : nonNil x = true) (r : RdA σ ρ x v) : ∃ a, v = .pointer (some a) := by
  cases r with
  | d hr => cases hr with
    | c v hv => cases v <;> simp [nonNil] at h
                rename_i a; cases a <;> simp at h
                exact ⟨_, rfl⟩
    | p => exact ⟨_, rfl⟩
    | _ => simp [nonNil] at h
  | r => exact ⟨_, rfl⟩
  | _ => simp [nonNil] at h
theorem isNil_eq {x : AV} (h : isNil x = true) : x = .d (.c (.pointer none)) := by
  unfold isNil at h; split at h
  · rfl
  · cases h

theorem pBin_ok (hT : ∀ t, (T t).size ≠ 0 → TOk P t (T t)) (E : Eqs P) {o : Oper} {α : AS} {op : BinOp} {t u : TypeId} {x y : Operand} (ho : o.op = .binOp op t x y u) (hz : (T t).size ≠ 0)
    {pr : PR} (h : pBin T E.ok op t α x y = some pr) : Snd P o α pr := by
  unfold pBin at h
  split at h
  · rename_i a b ha hb
    split at h <;> first | (cases h; done) | skip
    all_goals
      rename_i hk
      simp only [pv, Option.some.injEq] at h; subst h
      refine snd_run _ (bin_run ho) fun _ B σ ρ ac w hi => ⟨_, ?_, .d (.c _ rfl)⟩
      rw [ev_c hi ha, ev_c hi hb]
      simp [eqGuard, binOp, run_equal_bool ((hT t hz).bool hk)]
  · rename_i u v _ ha hb
    split at h
    · rename_i c r hab
      simp only [pc, Option.some.injEq] at h; subst h
      refine snd_run _ (bin_run ho) fun hc B σ ρ ac w hi => ⟨r, ?_, .d (.c _ ?_)⟩
      · rw [ev_c hi ha, ev_c hi hb]; exact abin_ok hab hc _ _ _ _
      · revert hab
        cases u <;> cases v <;> simp only [abin, reduceCtorEq, false_implies]
        · cases op <;> simp only [intBin] <;> (try split) <;> simp only [Option.some.injEq, Prod.mk.injEq, reduceCtorEq, false_implies, and_imp] <;> intros <;> subst_vars <;> rfl
        · cases op <;> simp only [strBin, Option.some.injEq, Prod.mk.injEq, reduceCtorEq, false_implies, and_imp] <;> intros <;> subst_vars <;> rfl
    · split at h <;> first | (cases h; done) | skip
      rename_i hq
      obtain ⟨hp, hu, hv⟩ := hq
      obtain ⟨e, he⟩ := (hT t hz).ptr hp
      have hu' : u = .pointer none := by unfold isNilV at hu; split at hu <;> simp_all
      have hv' : ∃ q, v = .pointer q := by unfold isPtrV at hv; split at hv <;> simp_all
      obtain ⟨q, hv'⟩ := hv'
      subst hu'; subst hv'
      split at h <;> first | (cases h; done) | skip
      all_goals
        simp only [pv, Option.some.injEq] at h; subst h
        refine snd_run _ (bin_run ho) fun _ B σ ρ ac w hi => ⟨_, ?_, .d (.c _ rfl)⟩
        rw [ev_c hi ha, ev_c hi hb]
        cases q <;> simp [eqGuard, binOp, run_equal_nil he, isNilV]
  · rename_i cs ds ha hb
    split at h <;> first | (cases h; done) | skip
    rename_i hq
    obtain ⟨hE, hca, hcb⟩ := hq
    split at h <;> first | (cases h; done) | skip
    all_goals
      rename_i b he
      simp only [pv, Option.some.injEq] at h; subst h
      refine snd_run _ (bin_run ho) fun _ B σ ρ ac w hi => ⟨_, ?_, .d (.c _ rfl)⟩
      rw [ev_g hi ha hca, ev_g hi hb hcb]
      first | exact (E.h t hE _ _ _ he x y w).1 | exact (E.h t hE _ _ _ he x y w).2
  · split at h <;> first | (cases h; done) | skip
    rename_i hq
    obtain ⟨hp, hn, hl⟩ := hq
    obtain ⟨e, he⟩ := (hT t hz).ptr hp
    split at h <;> first | (cases h; done) | skip
    all_goals
      simp only [pv, Option.some.injEq] at h; subst h
      refine snd_run _ (bin_run ho) fun _ B σ ρ ac w hi => ⟨_, ?_, .d (.c _ rfl)⟩
      obtain ⟨ad, hv⟩ := nonNil_ptr hn (ev_rd hi x)
      rw [hv, ev_c hi (isNil_eq hl)]
      simp [eqGuard, binOp, run_equal_nil' he]

/-! ### unary operators, conversions of numbers and texts -/
def pUn (op : UnOp) (α : AS) (x : Operand) : Option PR :=
  match op, α.ev x with
  | .not, .d (.c (.bool b)) => pv (.d (.c (.bool (!b))))
  | .neg, .d (.c (.int k n)) => pv (.d (.c (.int k (k.wrap (0 - n)))))
  | .xor, .d (.c (.int k n)) => pv (.d (.c (.int k (bitsOp .xor k (if k.signed then -1 else k.max) n))))
  | _, _ => none
theorem pUn_ok {o : Oper} {α : AS} {op : UnOp} {t : TypeId} {x : Operand} (ho : o.op = .unOp op t x) {pr : PR} (h : pUn op α x = some pr) : Snd P o α pr := by
  unfold pUn at h
  split at h <;> first | (cases h; done) | skip
  all_goals
    rename_i hx
    simp only [pv, Option.some.injEq] at h; subst h
    refine snd_val fun _ B σ ρ ac w hi => ⟨_, ?_, .d (.c _ rfl)⟩
    simp [execOp, ho, ev_c hi hx, Op.unary, Op.intArith, Op.intBits, bitsOp]
    try rfl

def pConv (T : Tab) (src dst : TypeId) (α : AS) (x : Operand) : Option PR :=
  match (T dst).k, α.ev x with
  | .int k, .d (.c (.int _ n)) => pv (.d (.c (.int k (k.wrap n))))
  | .str, .d (.c (.string s)) => pv (.d (.c (.string s)))
  | _, _ => none
theorem pConv_ok (hT : ∀ t, (T t).size ≠ 0 → TOk P t (T t)) {o : Oper} {α : AS} {src dst : TypeId} {x : Operand} (ho : o.op = .convert src dst x) (hz : (T dst).size ≠ 0) (hs : (T src).size ≠ 0)
    {pr : PR} (h : pConv T src dst α x = some pr) : Snd P o α pr := by
  unfold pConv at h
  obtain ⟨ds, hds, _⟩ := (hT src hs).desc'
  split at h <;> first | (cases h; done) | skip
  all_goals
    rename_i hk hx
    simp only [pv, Option.some.injEq] at h; subst h
    refine snd_run (fun a => convert src dst (a.eval x)) (fun a w => by simp [execOp, ho]) fun _ B σ ρ ac w hi => ⟨_, ?_, .d (.c _ rfl)⟩
    rw [ev_c hi hx]
    first
      | (have hu := (hT dst hz).int hk
         unfold convert
         rw [Sem.run_bind, run_underlying hds]
         simp only [Result.andThen_ok, Sem.run_bind, run_underlying hu]
         cases ds <;> rfl)
      | (have hu := (hT dst hz).str hk
         unfold convert
         rw [Sem.run_bind, run_underlying hds]
         simp only [Result.andThen_ok, Sem.run_bind, run_underlying hu]
         cases ds <;> rfl)
end Go.AM
