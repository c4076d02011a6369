/- The abstract machine, part 1: data, readings, abstract states, and how a world bears them. -/
import Derived.Below
import Derived.Deep.MidRow
import Derived.Laws.AppendOwn
import Derived.Maps.AppendAt
import Derived.Tactics
import Derived.WalkKit
namespace Go.AM
open Go.RowKit

/-- Immutable data. -/
inductive D where
  | c (v : Value)
  | l (sz : Nat) (xs : List (List D))
  | p (cs : List D)
  | g (cs : List D)
  | t (ds : List D)
  | f (fn : Fn) (caps : List D)
  deriving Inhabited

abbrev Sig := Nat → Nat → Option Value

/-- A value reads as a datum, over cells that never change. -/
inductive Rd (σ : Sig) : D → Value → Prop
  | c (v : Value) (h : v.oneCell' = true) : Rd σ (.c v) v
  | nil (sz : Nat) (a : Option Addr) (c : Nat) : Rd σ (.l sz []) (.slice a 0 c)
  | l {sz : Nat} {xs : List (List D)} {b o c n : Nat} (u : Nat → Nat → Value) (hn : n = xs.length) (hc : n ≤ c)
      (hz : ∀ (i : Nat) (x : List D), xs[i]? = some x → x.length = sz)
      (h1 : ∀ i j, i < n → j < sz → σ b (o + (i * sz + j)) = some (u i j))
      (ho : ∀ i j, i < n → j < sz → (u i j).oneCell' = true)
      (h2 : ∀ (i : Nat) (x : List D), xs[i]? = some x → ∀ (j : Nat) (d : D), x[j]? = some d → Rd σ d (u i j)) : Rd σ (.l sz xs) (.slice (some ⟨b, o, none⟩) n c)
  | p {cs : List D} {b o : Nat} (u : Nat → Value) (h1 : ∀ j, j < cs.length → σ b (o + j) = some (u j))
      (ho : ∀ j, j < cs.length → (u j).oneCell' = true)
      (h2 : ∀ (j : Nat) (d : D), cs[j]? = some d → Rd σ d (u j)) : Rd σ (.p cs) (.pointer (some ⟨b, o, none⟩))
  | g {cs : List D} {us : Array Value} (hl : us.size = cs.length) (ho : ∀ j (h : j < us.size), (us[j]).oneCell' = true)
      (h : ∀ (j : Nat) (d : D), cs[j]? = some d → Rd σ d (us.getD j undef)) : Rd σ (.g cs) (.agg us)
  | t {ds : List D} {us : Array Value} (hl : us.size = ds.length) (h : ∀ (j : Nat) (d : D), ds[j]? = some d → Rd σ d (us.getD j undef)) : Rd σ (.t ds) (.tuple us)
  | f {fn : Fn} {caps : List D} {us : Array Value} (hl : us.size = caps.length) (h : ∀ (j : Nat) (d : D), caps[j]? = some d → Rd σ d (us.getD j undef)) : Rd σ (.f fn caps) (.func fn #[] us)

theorem Rd.mono {σ σ' : Sig} (h : ∀ b o u, σ b o = some u → σ' b o = some u) {d : D} {v : Value} (r : Rd σ d v) : Rd σ' d v := by
  induction r with
  | c v hv => exact .c v hv
  | nil sz a c => exact .nil sz a c
  | l u hn hc hz h1 ho _ ih => exact .l u hn hc hz (fun i j hi hj => h _ _ _ (h1 i j hi hj)) ho ih
  | p u h1 ho _ ih => exact .p u (fun j hj => h _ _ _ (h1 j hj)) ho ih
  | g hl ho _ ih => exact .g hl ho ih
  | t hl _ ih => exact .t hl ih
  | f hl _ ih => exact .f hl ih

/-- Abstract values: data, and what speaks of the blocks that may still change, by their names. -/
inductive AV where
  | d (x : D)
  | fl (sz : Nat) (xs : List (List D))
  | s (n k : Nat)
  | r (n off : Nat)
  | e (n k sz i j : Nat)
  | g (cs : List AV)
  | t (vs : List AV)
  | f (fn : Fn) (caps : List AV)
  | j
  deriving Inhabited

/-- What stands behind a name: a block of cells; a row that grows (its generation, element type, cells of an element, what it holds). -/
inductive HE where
  | blk (t : TypeId) (cells : List AV)
  | row (e : TypeId) (sz k : Nat) (xs : List (List D))
  deriving Inhabited

/-- Where it lies: a block's number; a row's generation and its value. -/
inductive Loc where
  | blk (g : Nat)
  | row (k : Nat) (v : Value)

abbrev Names := Nat → Option Loc

/-- The block of a slice that has room. -/
def rowBlock : Value → Option Nat
  | .slice (some a) _ (_ + 1) => some a.block
  | _ => none

def Loc.block : Loc → Option Nat
  | .blk g => some g
  | .row _ v => rowBlock v

/-- A slice of one's own: without room, or a whole block's head. -/
def RowAt (w : World) (e : TypeId) (sz : Nat) (v : Value) (n : Nat) (us : List Value) : Prop :=
  us.length = n * sz ∧ ((n = 0 ∧ ∃ a, v = .slice a 0 0) ∨
    ∃ g cap cur fr, v = .slice (some ⟨g, 0, none⟩) n (cap + 1) ∧ w.heap[g]? = some (.cells cur e fr) ∧ (fr = (0, 0) ∨ fr = (cur.size, cur.size + 1)) ∧
      n ≤ cap + 1 ∧ cap + 1 ≤ maxLen ∧ cur.size = (cap + 1) * sz ∧ cur.toList.take (n * sz) = us)

inductive RdA (σ : Sig) (ρ : Names) : AV → Value → Prop
  | d {x : D} {v : Value} (h : Rd σ x v) : RdA σ ρ (.d x) v
  | fl {sz : Nat} {xs : List (List D)} {a : Option Addr} {n : Nat} (h : Rd σ (.l sz xs) (.slice a n n)) : RdA σ ρ (.fl sz xs) (.slice a n n)
  | s {n k k' : Nat} {v0 v : Value} (hr : ρ n = some (.row k' v0)) (hk : k ≤ k') (h : k = k' → v = v0) (hs : v.oneCell' = true) : RdA σ ρ (.s n k) v
  | r {n off g : Nat} (hr : ρ n = some (.blk g)) : RdA σ ρ (.r n off) (.pointer (some ⟨g, off, none⟩))
  | e {n k k' sz i j : Nat} {v0 v : Value} (hr : ρ n = some (.row k' v0)) (hk : k ≤ k') (h : k = k' → ∃ g, rowBlock v0 = some g ∧ v = .pointer (some ⟨g, i * sz + j, none⟩)) (hs : v.oneCell' = true) : RdA σ ρ (.e n k sz i j) v
  | g {cs : List AV} {us : Array Value} (hl : us.size = cs.length) (ho : ∀ j (h : j < us.size), (us[j]).oneCell' = true)
      (h : ∀ (j : Nat) (x : AV), cs[j]? = some x → RdA σ ρ x (us.getD j undef)) : RdA σ ρ (.g cs) (.agg us)
  | t {vs : List AV} {us : Array Value} (hl : us.size = vs.length) (h : ∀ (j : Nat) (x : AV), vs[j]? = some x → RdA σ ρ x (us.getD j undef)) : RdA σ ρ (.t vs) (.tuple us)
  | f {fn : Fn} {caps : List AV} {us : Array Value} (hl : us.size = caps.length) (h : ∀ (j : Nat) (x : AV), caps[j]? = some x → RdA σ ρ x (us.getD j undef)) : RdA σ ρ (.f fn caps) (.func fn #[] us)
  | j (v : Value) : RdA σ ρ .j v

/-- The names' places go on: a row's generation rises, a block stays. -/
def Names.le (ρ ρ' : Names) : Prop := ∀ n l, ρ n = some l →
  match l with
  | .blk g => ρ' n = some (.blk g)
  | .row k v => ∃ k' v', ρ' n = some (.row k' v') ∧ k ≤ k' ∧ (k = k' → v = v')

theorem Names.le_refl (ρ : Names) : ρ.le ρ := fun n l h => by
  cases l with
  | blk g => exact h
  | row k v => exact ⟨k, v, h, Nat.le_refl _, fun _ => rfl⟩

theorem RdA.mono {σ σ' : Sig} {ρ ρ' : Names} (h : ∀ b o u, σ b o = some u → σ' b o = some u) (hρ : ρ.le ρ') {x : AV} {v : Value} (r : RdA σ ρ x v) : RdA σ' ρ' x v := by
  induction r with
  | d hr => exact .d (hr.mono h)
  | fl hr => exact .fl (hr.mono h)
  | @s n k k' v0 v hr hk hv hs =>
    obtain ⟨k2, v2, h2, h3, h4⟩ := hρ n _ hr
    exact .s h2 (Nat.le_trans hk h3) (fun e => by have e1 : k = k' := by omega
                                                  have e2 : k' = k2 := by omega
                                                  rw [hv e1, h4 e2]) hs
  | r hr => exact .r (hρ _ _ hr)
  | @e n k k' sz i j v0 v hr hk hv hs =>
    obtain ⟨k2, v2, h2, h3, h4⟩ := hρ n _ hr
    exact .e h2 (Nat.le_trans hk h3) (fun e => by have e1 : k = k' := by omega
                                                  have e2 : k' = k2 := by omega
                                                  rw [← h4 e2]; exact hv e1) hs
  | g hl ho _ ih => exact .g hl ho ih
  | t hl _ ih => exact .t hl ih
  | f hl _ ih => exact .f hl ih
  | j v => exact .j v

/-- The abstract state: temporaries, and what stands behind names. -/
structure AS where
  fr : Nat → AV
  H : Nat → Option HE

/-- A name's entry is borne by the world. -/
def HOk (σ : Sig) (ρ : Names) (w : World) (n : Nat) : HE → Prop
  | .blk t cells => ∃ g us, ρ n = some (.blk g) ∧ w.heap[g]? = some (.cells us t (0, 0)) ∧ us.size = cells.length ∧
      (∀ j (h : j < us.size), (us[j]).oneCell' = true) ∧ (∀ (j : Nat) (x : AV), cells[j]? = some x → RdA σ ρ x (us.getD j undef)) ∧ ∀ o, σ g o = none
  | .row e sz k xs => ∃ v us, ρ n = some (.row k v) ∧ RowAt w e sz v xs.length us ∧ (∀ u ∈ us, u.oneCell' = true) ∧
      (∀ (i : Nat) (x : List D), xs[i]? = some x → x.length = sz ∧ ∀ (j : Nat) (d : D), x[j]? = some d → Rd σ d (us.getD (i * sz + j) undef)) ∧ ∀ g, rowBlock v = some g → ∀ o, σ g o = none

/-- What a walk stands over: the world and the cells at its begin, the blocks that were handed in to be changed, how many temporaries. -/
structure Base where
  w0 : World
  σ0 : Sig
  S : Nat → Prop
  N : Nat
  ρ0 : Names

/-- A place has gone on. -/
def Loc.le : Loc → Option Loc → Prop
  | .blk g, x => x = some (.blk g)
  | .row k v, x => ∃ k' v', x = some (.row k' v') ∧ k ≤ k' ∧ (k = k' → v = v')
theorem Loc.le_refl (l : Loc) : l.le (some l) := by
  cases l with
  | blk g => rfl
  | row k v => exact ⟨k, v, rfl, Nat.le_refl _, fun _ => rfl⟩
theorem Loc.le_trans {l l' : Loc} {x : Option Loc} (h : l.le (some l')) (h' : l'.le x) : l.le x := by
  cases l with
  | blk g => simp only [Loc.le, Option.some.injEq] at h; subst h; exact h'
  | row k v =>
    obtain ⟨k1, v1, h1, h2, h3⟩ := h
    simp only [Option.some.injEq] at h1; subst h1
    obtain ⟨k2, v2, h4, h5, h6⟩ := h'
    exact ⟨k2, v2, h4, by omega, fun e => by rw [h3 (by omega), h6 (by omega)]⟩
/-- The names that were handed in go on. -/
def Keeps (ρ0 ρ : Names) : Prop := ∀ n l, n < 1000 → ρ0 n = some l → l.le (ρ n)
theorem Keeps.trans {ρ0 ρ ρ' : Names} (h : Keeps ρ0 ρ) (h' : ρ.le ρ') : Keeps ρ0 ρ' := by
  intro n l hn hl
  have h1 := h n l hn hl
  cases hr : ρ n with
  | none => rw [hr] at h1; cases l with
    | blk g => cases h1
    | row k v => obtain ⟨_, _, h2, _⟩ := h1; cases h2
  | some l' =>
    rw [hr] at h1
    refine Loc.le_trans (l' := l') h1 ?_
    have := h' n l' hr
    cases l' <;> exact this

structure Inv (B : Base) (σ : Sig) (ρ : Names) (α : AS) (a : Act) (w : World) : Prop where
  fr : ∀ t, RdA σ ρ (α.fr t) (a.tmps.getD t undef)
  sz : a.tmps.size = B.N
  df : a.defers = []
  sig : ∀ b o u, σ b o = some u → w.cell? ⟨b, o, none⟩ = some u
  hok : ∀ n e, α.H n = some e → HOk σ ρ w n e
  dom : ∀ n, α.H n = none → ρ n = none
  inj : ∀ n m l l' b, n ≠ m → ρ n = some l → ρ m = some l' → l.block = some b → l'.block ≠ some b
  own : ∀ n l b, ρ n = some l → l.block = some b → B.w0.heap.size ≤ b ∨ B.S b
  os : w.os = B.w0.os
  tape : w.tape = B.w0.tape
  out : w.output = B.w0.output
  size : B.w0.heap.size ≤ w.heap.size
  keep : ∀ b, b < B.w0.heap.size → ¬ B.S b → w.heap[b]? = B.w0.heap[b]?
  old : ∀ b, b < B.w0.heap.size → ¬ B.S b → σ b = B.σ0 b
  le : Keeps B.ρ0 ρ

def R (B : Base) (α : AS) (a : Act) (w : World) : Prop := ∃ σ ρ, Inv B σ ρ α a w

def putF (fr : Nat → AV) (dst : Option Tmp) (x : AV) : Nat → AV :=
  match dst with
  | some d => fun t => if t = d then x else fr t
  | none => fr
def setH (H : Nat → Option HE) (n : Nat) (e : Option HE) : Nat → Option HE := fun m => if m = n then e else H m
def AS.put (α : AS) (dst : Option Tmp) (x : AV) : AS := ⟨putF α.fr dst x, α.H⟩

theorem getD_put {a : Act} {dst : Option Tmp} {v : Value} {t : Nat} (h : ∀ d, dst = some d → d < a.tmps.size) :
    (a.put dst v).tmps.getD t undef = if dst = some t then v else a.tmps.getD t undef := by
  cases dst with
  | none => simp [Act.put]
  | some d =>
    have hd := h d rfl
    simp only [Act.put, Array.getD_eq_getD_getElem?, Array.getElem?_setIfInBounds]
    by_cases e : d = t
    · subst e; simp [hd]
    · simp [e]

theorem size_put (a : Act) (dst : Option Tmp) (v : Value) : (a.put dst v).tmps.size = a.tmps.size := by cases dst <;> simp [Act.put]
theorem defers_put (a : Act) (dst : Option Tmp) (v : Value) : (a.put dst v).defers = a.defers := by cases dst <;> rfl

/-- A temporary is written; all else stays. -/
theorem Inv.put {B : Base} {σ : Sig} {ρ : Names} {α : AS} {a : Act} {w : World} (h : Inv B σ ρ α a w) {dst : Option Tmp} {x : AV} {v : Value}
    (hd : ∀ d, dst = some d → d < B.N) (hr : RdA σ ρ x v) : Inv B σ ρ (α.put dst x) (a.put dst v) w :=
  { h with
    fr := fun t => by
      rw [getD_put (by rw [h.sz]; exact hd)]
      cases dst with
      | none => simpa [AS.put, putF] using h.fr t
      | some d =>
        by_cases e : d = t
        · subst e; simpa [AS.put, putF] using hr
        · have e' : t ≠ d := fun h => e h.symm
          simpa [AS.put, putF, e, e'] using h.fr t
    sz := by rw [size_put]; exact h.sz
    df := by rw [defers_put]; exact h.df }
end Go.AM
