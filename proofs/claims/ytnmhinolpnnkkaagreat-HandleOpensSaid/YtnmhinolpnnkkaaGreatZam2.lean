/- The abstract machine, part 2: types' tables, what an operation comes to. -/
import Derived.Test.YtnmhinolpnnkkaaGreatZam1
namespace Go.AM
open Go.RowKit

inductive TK where
  | bool | str | func | other
  | int (k : IntKind)
  | slice (e : TypeId)
  | struct (fs : List (Nat × TypeId))
  | arr (n : Nat) (e : TypeId)
  | ptr (e : TypeId)
  deriving Inhabited

structure TI where
  k : TK
  size : Nat
  bytes : Nat
  zero : List D
  deriving Inhabited

def TK.agg : TK → Bool | .struct _ | .arr _ _ => true | _ => false
def TK.elem : TK → TypeId | .slice e | .arr _ e | .ptr e => e | _ => 0
def TK.fields : TK → List (Nat × TypeId) | .struct fs => fs | _ => []
def descK : TypeDesc → TK
  | .bool => .bool
  | .string => .str
  | .int k => .int k
  | .slice e => .slice e
  | .struct fs => .struct (fs.toList.map fun f => (f.offset, f.type))
  | .array n e => .arr n e
  | .pointer e => .ptr e
  | .func .. => .func
  | _ => .other
/-- A zero cell's value. -/
def unz : D → Value
  | .c v => v
  | .l _ _ => .slice none 0 0
  | _ => undef
def zok : D → Bool
  | .c v => v.oneCell'
  | .l _ [] => true
  | _ => false

structure TOk (P : Program) (t : TypeId) (ti : TI) : Prop where
  info : (P.info? t).map (fun i => (i.size, i.bytes, i.zero.map fun z => z.cells.toList)) = some (ti.size, ti.bytes, some (ti.zero.map unz))
  desc : (P.underlying t).map descK = some ti.k
  zs : ti.zero.all zok = true
  zl : ti.zero.length = ti.size

abbrev Tab := TypeId → TI
def TabOk (P : Program) (T : Tab) : Prop := ∀ t, (T t).size ≠ 0 → TOk P t (T t)

section
variable {P : Program} {T : Tab}
theorem TOk.info' {t : TypeId} {ti : TI} (h : TOk P t ti) : ∃ i z, P.info? t = some i ∧ i.size = ti.size ∧ i.bytes = ti.bytes ∧ i.zero = some z ∧ z.cells.toList = ti.zero.map unz := by
  have := h.info
  cases hi : P.info? t with
  | none => simp [hi] at this
  | some i =>
    simp only [hi, Option.map_some, Option.some.injEq, Prod.mk.injEq] at this
    cases hz : i.zero with
    | none => simp [hz] at this
    | some z =>
      simp only [hz, Option.map_some, Option.some.injEq] at this
      exact ⟨i, z, rfl, this.1, this.2.1, hz, this.2.2⟩
theorem TOk.desc' {t : TypeId} {ti : TI} (h : TOk P t ti) : ∃ d, P.underlying t = some d ∧ descK d = ti.k := by
  have := h.desc
  cases hi : P.underlying t with
  | none => simp [hi] at this
  | some d => exact ⟨d, rfl, by simpa [hi] using this⟩
theorem TOk.slice {t e : TypeId} {ti : TI} (h : TOk P t ti) (hk : ti.k = .slice e) : P.underlying t = some (.slice e) := by
  obtain ⟨d, h1, h2⟩ := h.desc'
  rw [hk] at h2
  cases d <;> simp [descK] at h2
  rw [h1, h2]
theorem TOk.int {t : TypeId} {k : IntKind} {ti : TI} (h : TOk P t ti) (hk : ti.k = .int k) : P.underlying t = some (.int k) := by
  obtain ⟨d, h1, h2⟩ := h.desc'
  rw [hk] at h2
  cases d <;> simp [descK] at h2
  rw [h1, h2]
theorem TOk.str {t : TypeId} {ti : TI} (h : TOk P t ti) (hk : ti.k = .str) : P.underlying t = some .string := by
  obtain ⟨d, h1, h2⟩ := h.desc'
  rw [hk] at h2
  cases d <;> simp [descK] at h2
  rw [h1]
theorem TOk.arr {t e : TypeId} {n : Nat} {ti : TI} (h : TOk P t ti) (hk : ti.k = .arr n e) : P.underlying t = some (.array n e) := by
  obtain ⟨d, h1, h2⟩ := h.desc'
  rw [hk] at h2
  cases d <;> simp [descK] at h2
  rw [h1, h2.1, h2.2]
theorem TOk.struct {t : TypeId} {fs : List (Nat × TypeId)} {ti : TI} (h : TOk P t ti) (hk : ti.k = .struct fs) :
    ∃ gs : Array Field, P.underlying t = some (.struct gs) ∧ gs.toList.map (fun f => (f.offset, f.type)) = fs := by
  obtain ⟨d, h1, h2⟩ := h.desc'
  rw [hk] at h2
  cases d <;> simp [descK] at h2
  exact ⟨_, h1, h2⟩
theorem run_sizeOf' {t : TypeId} {ti : TI} (h : TOk P t ti) (w : World) : (sizeOf t).run P w = .ok ti.size w := by
  obtain ⟨i, z, h1, h2, _⟩ := h.info'
  simp [sizeOf, typeInfo, h1, h2]
theorem run_isAgg' {t : TypeId} {ti : TI} (h : TOk P t ti) (w : World) : (isAgg t).run P w = .ok ti.k.agg w := by
  obtain ⟨d, h1, h2⟩ := h.desc'
  rw [← h2]
  unfold isAgg
  rw [Sem.run_bind, run_underlying h1 w]
  cases d <;> simp [descK, TK.agg]
end

/-! ### Cells -/
/-- A zero cell: a nil slice has no room. -/
def zA : D → AV | .l sz xs => .fl sz xs | x => .d x

def D.cells : D → List D | .g cs => cs | x => [x]
def AV.cells : AV → List AV | .g cs => cs | .d (.g cs) => cs.map .d | x => [x]
def toD : AV → Option D
  | .d x => some x
  | .fl sz xs => some (.l sz xs)
  | _ => none
def toDs : List AV → Option (List D)
  | [] => some []
  | x :: xs => match toD x, toDs xs with
    | some d, some ds => some (d :: ds)
    | _, _ => none
/-- An aggregate or a tuple of data alone is a datum. -/
def norm : AV → AV
  | .g cs => match toDs cs with | some ds => .d (.g ds) | none => .g cs
  | .t cs => match toDs cs with | some ds => .d (.t ds) | none => .t cs
  | .f fn cs => match toDs cs with | some ds => .d (.f fn ds) | none => .f fn cs
  | x => x

theorem toD_rd {σ : Sig} {ρ : Names} {x : AV} {d : D} {v : Value} (h : toD x = some d) (r : RdA σ ρ x v) : Rd σ d v := by
  cases r <;> simp [toD] at h <;> subst h <;> assumption
theorem toDs_get {xs : List AV} {ds : List D} (h : toDs xs = some ds) : ds.length = xs.length ∧ ∀ (j : Nat) (d : D), ds[j]? = some d → ∃ x, xs[j]? = some x ∧ toD x = some d := by
  induction xs generalizing ds with
  | nil => simp [toDs] at h; subst h; simp
  | cons x xs ih =>
    simp only [toDs] at h
    cases h1 : toD x with
    | none => simp [h1] at h
    | some d0 =>
      cases h2 : toDs xs with
      | none => simp [h1, h2] at h
      | some ds0 =>
        simp only [h1, h2, Option.some.injEq] at h
        subst h
        obtain ⟨h3, h4⟩ := ih h2
        refine ⟨by simp [h3], fun j d hj => ?_⟩
        cases j with
        | zero => simp at hj; subst hj; exact ⟨x, by simp, h1⟩
        | succ j => simpa using h4 j d (by simpa using hj)
theorem norm_rd {σ : Sig} {ρ : Names} {x : AV} {v : Value} (r : RdA σ ρ x v) : RdA σ ρ (norm x) v := by
  cases r with
  | @g cs us hl ho h =>
    simp only [norm]
    split
    · rename_i ds hd
      obtain ⟨h1, h2⟩ := toDs_get hd
      refine .d (.g (by omega) ho fun j d hj => ?_)
      obtain ⟨x, hx, hxd⟩ := h2 j d hj
      exact toD_rd hxd (h j x hx)
    · exact .g hl ho h
  | @t cs us hl h =>
    simp only [norm]
    split
    · rename_i ds hd
      obtain ⟨h1, h2⟩ := toDs_get hd
      refine .d (.t (by omega) fun j d hj => ?_)
      obtain ⟨x, hx, hxd⟩ := h2 j d hj
      exact toD_rd hxd (h j x hx)
    · exact .t hl h
  | @f fn cs us hl h =>
    simp only [norm]
    split
    · rename_i ds hd
      obtain ⟨h1, h2⟩ := toDs_get hd
      refine .d (.f (by omega) fun j d hj => ?_)
      obtain ⟨x, hx, hxd⟩ := h2 j d hj
      exact toD_rd hxd (h j x hx)
    · exact .f hl h
  | d h => exact .d h
  | fl h => exact .fl h
  | s a b c d => exact .s a b c d
  | r a => exact .r a
  | e a b c d => exact .e a b c d
  | j v => exact .j v

/-- The cells of what is read. -/
theorem cells_rd {σ : Sig} {ρ : Names} {x : AV} {v : Value} (r : RdA σ ρ x v) (hj : x ≠ .j) (ht : ∀ vs, x ≠ .t vs) (ht' : ∀ ds, x ≠ .d (.t ds)) :
    v.cells.size = x.cells.length ∧ (∀ j (h : j < v.cells.size), (v.cells[j]).oneCell' = true) ∧ ∀ (j : Nat) (y : AV), x.cells[j]? = some y → RdA σ ρ y (v.cells.getD j undef) := by
  have one : ∀ {x : AV} {v : Value}, v.oneCell' = true → x.cells = [x] → RdA σ ρ x v → v.cells.size = x.cells.length ∧ (∀ j (h : j < v.cells.size), (v.cells[j]).oneCell' = true) ∧ ∀ (j : Nat) (y : AV), x.cells[j]? = some y → RdA σ ρ y (v.cells.getD j undef) := by
    intro x v ho hx hr
    have hv : v.cells = #[v] := by cases v <;> simp_all [Value.cells, Value.oneCell']
    rw [hv, hx]
    refine ⟨rfl, fun j h => by have : j = 0 := by simpa using h
                               subst this; exact ho, fun j y hy => ?_⟩
    have : j = 0 := by
      rcases Nat.lt_or_ge j 1 with h | h
      · omega
      · simp [List.getElem?_eq_none (show [x].length ≤ j by simpa using h)] at hy
    subst this
    simp at hy; subst hy; exact hr
  cases r with
  | d h =>
    cases h with
    | c v hv => exact one hv rfl (.d (.c v hv))
    | nil sz a c => exact one rfl rfl (.d (.nil sz a c))
    | l u hn hc hz h1 ho h2 => exact one rfl rfl (.d (.l u hn hc hz h1 ho h2))
    | p u h1 ho h2 => exact one rfl rfl (.d (.p u h1 ho h2))
    | g hl ho h =>
      refine ⟨by simpa [Value.cells, AV.cells] using hl, ho, fun j y hy => ?_⟩
      simp only [AV.cells, List.getElem?_map, Option.map_eq_some_iff] at hy
      obtain ⟨d, hd, rfl⟩ := hy
      exact .d (h j d hd)
    | t hl h => exact absurd rfl (ht' _)
    | f hl h => exact one rfl rfl (.d (.f hl h))
  | fl h => exact one rfl rfl (.fl h)
  | s a b c d => exact one d rfl (.s a b c d)
  | r a => exact one rfl rfl (.r a)
  | e a b c d => exact one d rfl (.e a b c d)
  | g hl ho h => exact ⟨by simpa [Value.cells, AV.cells] using hl, ho, h⟩
  | t hl h => exact absurd rfl (ht _)
  | f hl h => exact one rfl rfl (.f hl h)
  | j v => exact absurd rfl hj
end Go.AM
