/- The abstract machine, part 3: operations that leave the world alone. -/
import Derived.Test.YtnmhinolpnnkkaaGreatZam2
set_option linter.unusedSimpArgs false
set_option linter.unusedVariables false
namespace Go.AM
open Go.RowKit

def constOk : Value → Bool | .agg us => us.all (·.oneCell') | .tuple _ => false | _ => true
def constD : Value → D | .agg us => .g (us.toList.map .c) | v => .c v
def AS.ev (α : AS) : Operand → AV
  | .tmp t => α.fr t
  | .const v => if constOk v then .d (constD v) else .j
  | .func f => .d (.c (.func (.func f) #[] #[]))
  | .global g => .d (.c (.pointer (some ⟨g, 0, none⟩)))

theorem const_rd (σ : Sig) {v : Value} (h : constOk v = true) : Rd σ (constD v) v := by
  cases v <;> try (exact .c _ rfl)
  · rename_i us
    simp only [constOk, Array.all_eq_true_iff_forall_mem] at h
    refine .g (by simp) (fun j hj => h _ (Array.getElem_mem hj)) fun j d hd => ?_
    simp only [List.getElem?_map, Option.map_eq_some_iff, Array.getElem?_toList] at hd
    obtain ⟨u, hu, rfl⟩ := hd
    obtain ⟨hj, rfl⟩ := Array.getElem?_eq_some_iff.1 hu
    simp only [Array.getD, hj, dif_pos]
    exact .c _ (h _ (Array.getElem_mem hj))
  · simp [constOk] at h

theorem ev_rd {B : Base} {σ : Sig} {ρ : Names} {α : AS} {a : Act} {w : World} (h : Inv B σ ρ α a w) (x : Operand) : RdA σ ρ (α.ev x) (a.eval x) := by
  cases x with
  | tmp t => exact h.fr t
  | const v =>
    simp only [AS.ev, Act.eval]
    split
    · exact .d (const_rd σ ‹_›)
    · exact .j v
  | global g => exact .d (.c _ rfl)
  | func f => exact .d (.c _ rfl)

/-- What an operation comes to: under which condition, what it yields, which names it reads, what it writes. -/
structure PR where
  c : Prop
  x : AV
  rn : List Nat
  wn : List (Nat × Option HE)
def updH (H : Nat → Option HE) : List (Nat × Option HE) → Nat → Option HE
  | [] => H
  | (n, e) :: r => updH (setH H n e) r
def pv (x : AV) : Option PR := some ⟨True, x, [], []⟩
def pc (c : Prop) (x : AV) : Option PR := some ⟨c, x, [], []⟩

variable {P : Program} {T : Tab}

def noQ : Exit → Act → World → Prop := fun _ _ _ => False
def Snd (P : Program) (o : Oper) (α : AS) (pr : PR) : Prop := ∀ (B : Base) (a : Act) (w : World), (∀ d, o.dst = some d → d < B.N) → R B α a w → pr.c →
  o.wp P a w (fun a' w' => R B ⟨putF α.fr o.dst pr.x, updH α.H pr.wn⟩ a' w') noQ

theorem wp_noQ {o : Oper} {a : Act} {w : World} {K K' : Act → World → Prop} {Q : Exit → Act → World → Prop} (h : ∀ a w, K a w → K' a w) (hh : o.wp P a w K noQ) : o.wp P a w K' Q := by
  unfold Oper.wp at *
  generalize (execOp a.eval o).run P w = r at *
  cases r with
  | ok n w' =>
    cases n <;> simp only [Oper.upon] at hh ⊢ <;>
      first
        | exact h _ _ hh
        | exact hh.elim
        | exact Calls.mono hh (fun e w'' he => by
            cases e with
            | returned v => exact h _ _ he
            | panicked c => exact he.elim
            | outgrown => exact he.elim fun _ he => he.elim fun _ he => he.elim)
        | exact Rows.mono hh (fun _ _ he => h _ _ he)
  | halt x w' => cases x <;> simp only [Oper.upon] at hh ⊢ <;> exact hh.elim

theorem snd_val {o : Oper} {α : AS} {c : Prop} {x : AV} {rn : List Nat}
    (h : c → ∀ (B : Base) (σ : Sig) (ρ : Names) (a : Act) (w : World), Inv B σ ρ α a w → ∃ v, (execOp a.eval o).run P w = .ok (.value v) w ∧ RdA σ ρ x v) : Snd P o α ⟨c, x, rn, []⟩ := by
  intro B a w hd ⟨σ, ρ, hi⟩ hc
  obtain ⟨v, hr, hx⟩ := h hc B σ ρ a w hi
  unfold Oper.wp
  rw [hr]
  exact ⟨σ, ρ, hi.put hd hx⟩

/-! ### move, assign, pick, extract, makeFunc -/
def pMove (T : Tab) (ty : TypeId) (α : AS) (x : Operand) : Option PR :=
  match x with
  | .const (.slice none 0 0) => pv (.fl (T ((T ty).k.elem)).size [])
  | x => pv (α.ev x)
theorem pMove_ok {o : Oper} {α : AS} {x : Operand} (ho : o.op = .move x ∨ o.op = .assign x) {pr : PR} (h : pMove T o.type α x = some pr) : Snd P o α pr := by
  unfold pMove at h
  split at h
  · simp only [pv, Option.some.injEq] at h; subst h
    refine snd_val fun _ B σ ρ a w hi => ⟨.slice none 0 0, ?_, .fl (.nil _ _ _)⟩
    rcases ho with ho | ho <;> simp [execOp, ho, Act.eval]
  · simp only [pv, Option.some.injEq] at h; subst h
    refine snd_val fun _ B σ ρ a w hi => ⟨a.eval x, ?_, ev_rd hi x⟩
    rcases ho with ho | ho <;> simp [execOp, ho]

def pPick (α : AS) (c x y : Operand) : Option PR :=
  match α.ev c with
  | .d (.c (.bool q)) => match α.ev x, α.ev y with
    | .d (.c (.bool u)), .d (.c (.bool v)) => pv (.d (.c (.bool (if q then u else v))))
    | a, b => pv (if q then a else b)
  | _ => none
theorem rd_bool {σ : Sig} {ρ : Names} {b : Bool} {v : Value} (h : RdA σ ρ (.d (.c (.bool b))) v) : v = .bool b := by
  cases h with | d h => cases h; rfl
theorem rd_c {σ : Sig} {ρ : Names} {u v : Value} (h : RdA σ ρ (.d (.c u)) v) : v = u := by
  cases h with | d h => cases h; rfl
theorem ev_c {B : Base} {σ : Sig} {ρ : Names} {α : AS} {a : Act} {w : World} (h : Inv B σ ρ α a w) {x : Operand} {u : Value} (hx : α.ev x = .d (.c u)) : a.eval x = u := by
  have h1 := ev_rd h x
  rw [hx] at h1
  exact rd_c h1
theorem pPick_ok {o : Oper} {α : AS} {c x y : Operand} (ho : o.op = .pick c x y) {pr : PR} (h : pPick α c x y = some pr) : Snd P o α pr := by
  unfold pPick at h
  split at h
  · rename_i q hq
    have run : ∀ (a : Act) (w : World), a.eval c = .bool q → (execOp a.eval o).run P w = .ok (.value (if q then a.eval x else a.eval y)) w := by
      intro a w hc
      simp [execOp, ho, hc, asBool]
    split at h
    · rename_i u v hu hv
      simp only [pv, Option.some.injEq] at h; subst h
      refine snd_val fun _ B σ ρ a w hi => ⟨_, run a w (ev_c hi hq), ?_⟩
      rw [ev_c hi hu, ev_c hi hv]
      cases q <;> exact .d (.c _ rfl)
    · simp only [pv, Option.some.injEq] at h; subst h
      refine snd_val fun _ B σ ρ a w hi => ⟨_, run a w (ev_c hi hq), ?_⟩
      cases q <;> exact ev_rd hi _
  · cases h

def pExtract (α : AS) (x : Operand) (i : Nat) : Option PR :=
  match α.ev x with
  | .t vs => match vs[i]? with | some y => pv y | none => none
  | .d (.t ds) => match ds[i]? with | some y => pv (.d y) | none => none
  | _ => none
theorem getD_of {us : Array Value} {j : Nat} (h : j < us.size) : us[j]? = some (us.getD j undef) := by simp [Array.getD, h]
theorem run_extract (us : Array Value) (i : Nat) (h : i < us.size) (w : World) : (Instr.extract (.tuple us) i).run P w = .ok (us.getD i undef) w := by
  unfold Instr.extract
  simp only
  rw [getD_of h]
  rfl
theorem pExtract_ok {o : Oper} {α : AS} {x : Operand} {i : Nat} (ho : o.op = .extract x i) {pr : PR} (h : pExtract α x i = some pr) : Snd P o α pr := by
  unfold pExtract at h
  split at h
  · rename_i vs hq
    split at h
    · rename_i y hy
      simp only [pv, Option.some.injEq] at h; subst h
      refine snd_val fun _ B σ ρ a w hi => ?_
      have hx := ev_rd hi x
      rw [hq] at hx
      generalize hv : a.eval x = v at hx
      cases hx with | @t _ us hl hh =>
      have hj := (List.getElem?_eq_some_iff.1 hy).1
      exact ⟨us.getD i undef, by simp only [execOp, ho, hv, Sem.run_bind, run_extract us i (by omega), Result.andThen_ok, Sem.run_pure], hh i y hy⟩
    · cases h
  · rename_i vs hq
    split at h
    · rename_i y hy
      simp only [pv, Option.some.injEq] at h; subst h
      refine snd_val fun _ B σ ρ a w hi => ?_
      have hx := ev_rd hi x
      rw [hq] at hx
      generalize hv : a.eval x = v at hx
      cases hx with | d hx =>
      cases hx with | @t _ us hl hh =>
      have hj := (List.getElem?_eq_some_iff.1 hy).1
      exact ⟨us.getD i undef, by simp only [execOp, ho, hv, Sem.run_bind, run_extract us i (by omega), Result.andThen_ok, Sem.run_pure], .d (hh i y hy)⟩
    · cases h
  · cases h

def pFunc (α : AS) (fn : Fn) (first caps : Array Operand) : Option PR := if first.size = 0 then pv (norm (.f fn (caps.toList.map α.ev))) else none
theorem pFunc_ok {o : Oper} {α : AS} {fn : Fn} {first caps : Array Operand} (ho : o.op = .makeFunc fn first caps) {pr : PR} (h : pFunc α fn first caps = some pr) : Snd P o α pr := by
  unfold pFunc at h
  split at h
  · rename_i h0
    simp only [pv, Option.some.injEq] at h; subst h
    have : first = #[] := by simpa using h0
    subst this
    refine snd_val fun _ B σ ρ a w hi => ⟨.func fn #[] (caps.map a.eval), by simp [execOp, ho, Instr.makeFunc], norm_rd (.f (by simp) fun j x hx => ?_)⟩
    simp only [List.getElem?_map, Option.map_eq_some_iff, Array.getElem?_toList] at hx
    obtain ⟨y, hy, rfl⟩ := hx
    obtain ⟨hj, rfl⟩ := Array.getElem?_eq_some_iff.1 hy
    simp [Array.getD, hj]
    exact ev_rd hi _
  · cases h

/-! ### Numbers, texts -/
def bitsOp (op : BinOp) (k : IntKind) (x y : Int) : Int :=
  k.wrap ((match op with
    | .and => BitVec.ofInt k.bits x &&& BitVec.ofInt k.bits y
    | .or => BitVec.ofInt k.bits x ||| BitVec.ofInt k.bits y
    | .xor => BitVec.ofInt k.bits x ^^^ BitVec.ofInt k.bits y
    | _ => BitVec.ofInt k.bits x &&& ~~~BitVec.ofInt k.bits y : BitVec k.bits).toNat)
def bless (x y : ByteArray) : Bool := Op.bytesLess x.data.toList y.data.toList
def intBin (op : BinOp) (k : IntKind) (a b : Int) : Option (Prop × Value) :=
  match op with
  | .add => some (True, .int k (k.wrap (a + b)))
  | .sub => some (True, .int k (k.wrap (a - b)))
  | .mul => some (True, .int k (k.wrap (a * b)))
  | .quo => some (b ≠ 0, .int k (k.wrap (a.tdiv b)))
  | .rem => some (b ≠ 0, .int k (a.tmod b))
  | .and | .or | .xor | .andNot => some (True, .int k (bitsOp op k a b))
  | .eql => some (True, .bool (decide (a = b)))
  | .neq => some (True, .bool (!decide (a = b)))
  | .lss => some (True, .bool (decide (a < b)))
  | .leq => some (True, .bool (decide (a ≤ b)))
  | .gtr => some (True, .bool (decide (b < a)))
  | .geq => some (True, .bool (decide (b ≤ a)))
  | _ => none
def strBin (op : BinOp) (a b : ByteArray) : Option (Prop × Value) :=
  match op with
  | .add => some (a.size + b.size ≤ 9223372036854775807, .string (a ++ b))
  | .eql => some (True, .bool (decide (a = b)))
  | .neq => some (True, .bool (!decide (a = b)))
  | .lss => some (True, .bool (bless a b))
  | .leq => some (True, .bool (bless a b || decide (a = b)))
  | .gtr => some (True, .bool (!(bless a b || decide (a = b))))
  | .geq => some (True, .bool (!bless a b))
  | _ => none
def isShift : BinOp → Bool | .shl | .shr => true | _ => false
def abin (op : BinOp) (x y : Value) : Option (Prop × Value) :=
  match x, y with
  | .int k a, .int k' b => match op with
    | .shl => some (0 ≤ b, .int k (k.wrap (a * 2 ^ min b.toNat k.bits)))
    | .shr => some (0 ≤ b, .int k (a.fdiv (2 ^ min b.toNat k.bits)))
    | op => if k = k' then intBin op k a b else none
  | .string a, .string b => strBin op a b
  | _, _ => none

theorem toList_eq (a : ByteArray) : a.toList = a.data.toList := ByteArray.toList_eq a
theorem toList_beq (a b : ByteArray) : (a.toList == b.toList) = decide (a = b) := by
  rw [toList_eq, toList_eq, Bool.eq_iff_iff]
  simp only [beq_iff_eq, decide_eq_true_eq]
  constructor
  · intro h
    cases a; cases b
    simpa using h
  · rintro rfl; rfl
theorem data_beq (a b : ByteArray) : (a.data == b.data) = decide (a = b) := by
  rw [Bool.eq_iff_iff]
  simp only [beq_iff_eq, decide_eq_true_eq]
  constructor
  · intro h
    cases a; cases b
    simpa using h
  · rintro rfl; rfl
theorem abin_ok {op : BinOp} {x y : Value} {c : Prop} {v : Value} (h : abin op x y = some (c, v)) (hc : c) (t : TypeId) (ox oy : Operand) (w : World) :
    (do eqGuard op t ox oy x y; binOp op t x y : Sem Value).run P w = .ok v w := by
  cases x <;> cases y <;> simp only [abin, reduceCtorEq] at h
  · rename_i k a k' b
    by_cases hk : k = k'
    · subst hk
      cases op <;> simp only [intBin, if_true, Option.some.injEq, Prod.mk.injEq, reduceCtorEq] at h
      all_goals obtain ⟨rfl, rfl⟩ := h
      all_goals first
        | (have : ¬ (_ : Int) < 0 := Int.not_lt.2 hc
           simp [eqGuard, binOp, Op.shift, this]; done)
        | (simp [eqGuard, binOp, Op.intArith, Op.intDiv, Op.intBits, Op.intCmp, bitsOp, hc]; done)
        | (simp [eqGuard, binOp, Op.intArith, Op.intDiv, Op.intBits, Op.intCmp, bitsOp, hc] <;> rfl)
    · cases op <;> simp only [if_neg hk, Option.some.injEq, Prod.mk.injEq, reduceCtorEq] at h
      all_goals obtain ⟨rfl, rfl⟩ := h
      all_goals
        have : ¬ (_ : Int) < 0 := Int.not_lt.2 hc
        simp [eqGuard, binOp, Op.shift, this]
  · rename_i s1 s2
    cases op <;> simp only [strBin, Option.some.injEq, Prod.mk.injEq, reduceCtorEq] at h
    all_goals obtain ⟨rfl, rfl⟩ := h
    case add =>
      have h63 : ¬ ((s1.size + s2.size : Nat) : Int) > IntKind.i64.max := by
        have : IntKind.i64.max = 9223372036854775807 := by decide
        omega
      simp only [eqGuard, binOp, Op.stringOp, h63]
      simp
    all_goals simp [eqGuard, binOp, Op.stringOp, toList_eq, bless, data_beq]
end Go.AM
