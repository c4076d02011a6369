/- The abstract machine, part 7: loads, stores, new variables, structs that are built. -/
import Derived.Test.YtnmhinolpnnkkaaGreatZam6
set_option linter.unusedSimpArgs false
set_option linter.unusedVariables false
namespace Go.AM
open Go.RowKit
variable {P : Program} {T : Tab}

theorem TOk.row {t : TypeId} {ti : TI} (h : TOk P t ti) (hk : ti.k.agg = true) : ∃ d, P.underlying t = some d ∧ d.isRow = true := by
  obtain ⟨d, h1, h2⟩ := h.desc'
  refine ⟨d, h1, ?_⟩
  rw [← h2] at hk
  cases d <;> simp [descK, TK.agg] at hk <;> rfl
theorem TOk.size' {t : TypeId} {ti : TI} (h : TOk P t ti) : (P.info? t).map (·.size) = some ti.size := by
  obtain ⟨i, z, h1, h2, _⟩ := h.info'
  simp [h1, h2]

/-- A load of so many cells. -/
theorem run_load {t : TypeId} (h : TOk P t (T t)) {b o : Nat} {w : World} (cs : List Value) (hl : cs.length = if (T t).k.agg then (T t).size else 1)
    (hc : ∀ (j : Nat) (v : Value), cs[j]? = some v → w.cell? ⟨b, o + j, none⟩ = some v) :
    (Instr.loadAt t (.pointer (some ⟨b, o, none⟩))).run P w = .ok (if (T t).k.agg then .agg cs.toArray else cs.headD undef) w := by
  cases ha : (T t).k.agg
  · rw [ha] at hl
    simp only [Bool.false_eq_true, if_false] at hl ⊢
    match cs, hl with
    | [c], _ =>
      have h0 := hc 0 c rfl
      simp only [Instr.loadAt, Instr.sureAddr, Sem.run_bind, Sem.run_pure, Result.andThen_ok, loadVar, run_isAgg' h, ha]
      simp only [Nat.add_zero] at h0
      simp [load, Sem.run, h0]
  · rw [ha] at hl
    simp only [if_true] at hl ⊢
    obtain ⟨d, h1, h2⟩ := h.row ha
    exact run_loadAt_mid w b o t cs d (fun j v hv => hc j v hv) h1 h2 (by rw [h.size', hl])

/-- A row's element. -/
def atO (xs : List (List D)) (i : Nat) : Option (List D) := xs[i]?
def atD (xs : List (List D)) (n : Int) : List D := xs[n.toNat]?.getD []
def pLoad (T : Tab) (t : TypeId) (α : AS) (x : Operand) : Option PR :=
  match α.ev x with
  | .d (.p cs) => match partD T t cs 0 with | some d => pv (.d d) | none => none
  | .r n o => match α.H n with
    | some (.blk _ cells) => match partA T t cells o with | some y => some ⟨True, y, [n], []⟩ | none => none
    | _ => none
  | .e n k sz i j => match α.H n with
    | some (.row _ sz' k' xs) => if k = k' ∧ sz = sz' then
        match atO xs i with
        | some x => match partD T t x j with | some d => some ⟨True, .d d, [n], []⟩ | none => none
        | none => none
      else none
    | _ => none
  | _ => none

theorem load_cells {σ : Sig} {t : TypeId} (h : TOk P t (T t)) (hz : (T t).size ≠ 0) {cs : List D} {off : Nat} {d : D} (hd : partD T t cs off = some d) {b o : Nat} {w : World} (u : Nat → Value)
    (hc : ∀ j, j < cs.length → w.cell? ⟨b, o + j, none⟩ = some (u j)) (ho : ∀ j, j < cs.length → (u j).oneCell' = true) (hr : ∀ (j : Nat) (d : D), cs[j]? = some d → Rd σ d (u j)) :
    ∃ v, (Instr.loadAt t (.pointer (some ⟨b, o + off, none⟩))).run P w = .ok v w ∧ Rd σ d v := by
  unfold partD at hd
  split at hd
  · rename_i ha
    split at hd
    · rename_i hb
      simp only [Option.some.injEq] at hd; subst hd
      refine ⟨_, run_load h ((List.range (T t).size).map fun j => u (off + j)) (by simp [ha]) fun j v hv => ?_, ?_⟩
      · simp only [List.getElem?_map, Option.map_eq_some_iff] at hv
        obtain ⟨j', hj', rfl⟩ := hv
        have hlt : j < (T t).size := by
          have := (List.getElem?_eq_some_iff.1 hj').1; simpa using this
        rw [List.getElem?_range hlt] at hj'
        simp only [Option.some.injEq] at hj'; subst hj'
        rw [Nat.add_assoc]
        exact hc _ (by omega)
      · rw [if_pos ha]
        refine .g (by simp; omega) (fun j hj => ?_) fun j d hd => ?_
        · have hj' : j < (T t).size := by simpa using hj
          simp; exact ho _ (by omega)
        · rw [List.getElem?_take] at hd
          split at hd
          · rename_i hlt
            rw [List.getElem?_drop] at hd
            have : ((List.range (T t).size).map fun j => u (off + j)).toArray.getD j undef = u (off + j) := by simp [Array.getD, hlt]
            rw [this]
            exact hr _ _ hd
          · cases hd
    · cases hd
  · rename_i ha
    have hj := (List.getElem?_eq_some_iff.1 hd).1
    have ha' : (T t).k.agg = false := by simpa using ha
    refine ⟨_, run_load h [u off] (by simp [ha']) fun j v hv => ?_, ?_⟩
    · have : j = 0 := by
        have := (List.getElem?_eq_some_iff.1 hv).1; simpa using this
      subst this
      simp only [List.getElem?_cons_zero, Option.some.injEq] at hv; subst hv
      exact hc _ hj
    · simp only [ha', Bool.false_eq_true, if_false, List.headD]
      exact hr _ _ hd

theorem load_cellsA {σ : Sig} {ρ : Names} {t : TypeId} (h : TOk P t (T t)) (hz : (T t).size ≠ 0) {cs : List AV} {off : Nat} {d : AV} (hd : partA T t cs off = some d) {b o : Nat} {w : World} (u : Nat → Value)
    (hc : ∀ j, j < cs.length → w.cell? ⟨b, o + j, none⟩ = some (u j)) (ho : ∀ j, j < cs.length → (u j).oneCell' = true) (hr : ∀ (j : Nat) (d : AV), cs[j]? = some d → RdA σ ρ d (u j)) :
    ∃ v, (Instr.loadAt t (.pointer (some ⟨b, o + off, none⟩))).run P w = .ok v w ∧ RdA σ ρ d v := by
  unfold partA at hd
  split at hd
  · rename_i ha
    split at hd
    · rename_i hb
      simp only [Option.some.injEq] at hd; subst hd
      refine ⟨_, run_load h ((List.range (T t).size).map fun j => u (off + j)) (by simp [ha]) fun j v hv => ?_, ?_⟩
      · simp only [List.getElem?_map, Option.map_eq_some_iff] at hv
        obtain ⟨j', hj', rfl⟩ := hv
        have hlt : j < (T t).size := by
          have := (List.getElem?_eq_some_iff.1 hj').1; simpa using this
        rw [List.getElem?_range hlt] at hj'
        simp only [Option.some.injEq] at hj'; subst hj'
        rw [Nat.add_assoc]
        exact hc _ (by omega)
      · rw [if_pos ha]
        refine norm_rd (.g (by simp; omega) (fun j hj => ?_) fun j d hd => ?_)
        · have hj' : j < (T t).size := by simpa using hj
          simp; exact ho _ (by omega)
        · rw [List.getElem?_take] at hd
          split at hd
          · rename_i hlt
            rw [List.getElem?_drop] at hd
            have : ((List.range (T t).size).map fun j => u (off + j)).toArray.getD j undef = u (off + j) := by simp [Array.getD, hlt]
            rw [this]
            exact hr _ _ hd
          · cases hd
    · cases hd
  · rename_i ha
    have hj := (List.getElem?_eq_some_iff.1 hd).1
    have ha' : (T t).k.agg = false := by simpa using ha
    refine ⟨_, run_load h [u off] (by simp [ha']) fun j v hv => ?_, ?_⟩
    · have : j = 0 := by
        have := (List.getElem?_eq_some_iff.1 hv).1; simpa using this
      subst this
      simp only [List.getElem?_cons_zero, Option.some.injEq] at hv; subst hv
      exact hc _ hj
    · simp only [ha', Bool.false_eq_true, if_false, List.headD]
      exact hr _ _ hd

theorem row_cells {σ : Sig} {ρ : Names} {w : World} {n : Nat} {e : TypeId} {sz k : Nat} {xs : List (List D)} (h : HOk σ ρ w n (.row e sz k xs)) :
    ∃ v, ρ n = some (.row k v) ∧ ∀ g, rowBlock v = some g → ∃ u : Nat → Nat → Value, ∀ i x, xs[i]? = some x → x.length = sz ∧ (∀ j, j < x.length → w.cell? ⟨g, i * sz + j, none⟩ = some (u i j) ∧ (u i j).oneCell' = true) ∧ ∀ (j : Nat) (d : D), x[j]? = some d → Rd σ d (u i j) := by
  obtain ⟨v, us, h1, h2, h3, h4, h5⟩ := h
  refine ⟨v, h1, fun g hg => ⟨fun i j => us.getD (i * sz + j) undef, fun i x hx => ?_⟩⟩
  obtain ⟨h6, h7⟩ := h4 i x hx
  refine ⟨h6, fun j hj => ?_, h7⟩
  have hi := (List.getElem?_eq_some_iff.1 hx).1
  have hlt : i * sz + j < us.length := by
    rw [h2.1]
    have : (i + 1) * sz ≤ xs.length * sz := Nat.mul_le_mul_right _ hi
    rw [Nat.succ_mul] at this
    omega
  have e1 : us.getD (i * sz + j) undef = us[i * sz + j] := by rw [List.getD_eq_getElem?_getD, List.getElem?_eq_getElem hlt]; rfl
  refine ⟨?_, ?_⟩
  · have := h2.cells hg (i * sz + j) us[i * sz + j] (List.getElem?_eq_getElem hlt)
    rw [this]; exact congrArg some e1.symm
  · show (us.getD (i * sz + j) undef).oneCell' = true
    rw [e1]; exact h3 _ (List.getElem_mem hlt)

theorem pLoad_ok (hT : ∀ t, (T t).size ≠ 0 → TOk P t (T t)) {o : Oper} {α : AS} {t : TypeId} {x : Operand} (ho : o.op = .load t x) (hz : (T t).size ≠ 0)
    {pr : PR} (h : pLoad T t α x = some pr) : Snd P o α pr := by
  unfold pLoad at h
  have ht := hT t hz
  split at h <;> first | (cases h; done) | skip
  · rename_i cs hx
    split at h <;> first | (cases h; done) | skip
    rename_i d hd
    simp only [pv, Option.some.injEq] at h; subst h
    refine snd_run (fun a => Instr.loadAt t (a.eval x)) (fun a w => by simp only [execOp, ho]) fun _ B σ ρ ac w hi => ?_
    have hr := ev_rd hi x
    rw [hx] at hr
    generalize ac.eval x = v at hr
    cases hr with | d hr =>
    cases hr with | p u h1 ho' h2 =>
    obtain ⟨v, hv, hv2⟩ := load_cells ht hz hd u (fun j hj => hi.sig _ _ _ (h1 j hj)) ho' h2
    exact ⟨v, hv, .d hv2⟩
  · rename_i n off hx
    split at h <;> first | (cases h; done) | skip
    rename_i ty cells hH
    split at h <;> first | (cases h; done) | skip
    rename_i y hd
    simp only [Option.some.injEq] at h; subst h
    refine snd_run (fun a => Instr.loadAt t (a.eval x)) (fun a w => by simp only [execOp, ho]) fun _ B σ ρ ac w hi => ?_
    have hr := ev_rd hi x
    rw [hx] at hr
    obtain ⟨g, us, h1, h2, h3, h4, h5, h6⟩ := hi.hok n _ hH
    generalize ac.eval x = v at hr
    cases hr with | r hr =>
    rw [h1] at hr
    cases hr
    have := load_cellsA (σ := σ) (ρ := ρ) ht hz hd (b := g) (o := 0) (w := w) (fun j => us.getD j undef) (fun j hj => by
      rw [cell_of_row w g _ us ty (0, 0) h2, Nat.zero_add, getD_of (by omega)]) (fun j hj => by
      have e : us.getD j undef = us[j]'(by omega) := by simp [Array.getD, show j < us.size by omega]
      rw [e]; exact h4 _ _) h5
    rw [Nat.zero_add] at this
    exact this
  · rename_i n k sz i j hx
    split at h <;> first | (cases h; done) | skip
    rename_i ty sz' k' xs hH
    split at h <;> first | (cases h; done) | skip
    rename_i hk
    obtain ⟨rfl, rfl⟩ := hk
    split at h <;> first | (cases h; done) | skip
    rename_i el hel
    split at h <;> first | (cases h; done) | skip
    rename_i d hd
    simp only [Option.some.injEq] at h; subst h
    refine snd_run (fun a => Instr.loadAt t (a.eval x)) (fun a w => by simp only [execOp, ho]) fun _ B σ ρ ac w hi => ?_
    have hr := ev_rd hi x
    rw [hx] at hr
    obtain ⟨v0, q1, q2⟩ := row_cells (hi.hok n _ hH)
    generalize ac.eval x = v at hr
    cases hr with | e hr hk hv hs =>
    rw [q1] at hr
    obtain ⟨rfl, rfl⟩ : k = _ ∧ v0 = _ := by simpa using hr
    obtain ⟨gg, hg1, rfl⟩ := hv rfl
    obtain ⟨u, hu⟩ := q2 gg hg1
    obtain ⟨q3, q4, q5⟩ := hu i el hel
    obtain ⟨v, hv, hv2⟩ := load_cells (σ := σ) ht hz hd (u i) (fun j hj => (q4 j hj).1) (fun j hj => (q4 j hj).2) q5
    exact ⟨v, hv, .d hv2⟩

/-! ### New variables -/
theorem run_newVar (t : TypeId) (v : Value) (w : World) : (newVar t v).run P w = .ok ⟨w.heap.size, 0, none⟩ (w.alloc (.cells v.cells t)) := rfl
theorem run_newRow (t : TypeId) (us : Array Value) (w : World) : (newRow t us).run P w = .ok ⟨w.heap.size, 0, none⟩ (w.alloc (.cells us t)) := rfl

def flat : AV → Bool | .j | .t _ | .d (.t _) => false | _ => true
def pAlloc (T : Tab) (nm : Nat) (t : TypeId) (α : AS) : Option PR :=
  match α.H nm with
  | none => some ⟨True, .r nm 0, [nm], [(nm, some (.blk t ((T t).zero.map zA)))]⟩
  | some _ => none
def pBox (T : Tab) (nm : Nat) (t : TypeId) (α : AS) (x : Operand) : Option PR :=
  match α.H nm with
  | none => if flat (evT T α t x) then some ⟨True, .r nm 0, [nm], [(nm, some (.blk t (evT T α t x).cells))]⟩ else none
  | some _ => none

theorem zero_rd {t : TypeId} {ti : TI} (h : TOk P t ti) {z : Value} (hz : z.cells.toList = ti.zero.map unz) (σ : Sig) (ρ : Names) :
    z.cells.size = (ti.zero.map zA).length ∧ (∀ j (h : j < z.cells.size), (z.cells[j]).oneCell' = true) ∧ ∀ (j : Nat) (x : AV), (ti.zero.map zA)[j]? = some x → RdA σ ρ x (z.cells.getD j undef) := by
  have hzz : z.cells = (ti.zero.map unz).toArray := by rw [← hz]
  have hs := h.zs
  rw [List.all_eq_true] at hs
  have one : ∀ d ∈ ti.zero, (unz d).oneCell' = true ∧ RdA σ ρ (zA d) (unz d) := by
    intro d hd
    have := hs d hd
    cases d with
    | c v => exact ⟨this, .d (.c v this)⟩
    | l sz xs => cases xs with
      | nil => exact ⟨rfl, .fl (.nil _ _ _)⟩
      | cons x xs => simp [zok] at this
    | _ => simp [zok] at this
  rw [hzz]
  refine ⟨by simp, fun j hj => ?_, fun j x hx => ?_⟩
  · simp at hj ⊢
    exact (one _ (List.getElem_mem hj)).1
  · simp only [List.getElem?_map, Option.map_eq_some_iff] at hx
    obtain ⟨d, hd, rfl⟩ := hx
    obtain ⟨hj, rfl⟩ := List.getElem?_eq_some_iff.1 hd
    simp [Array.getD, hj]
    exact (one _ (List.getElem_mem hj)).2

theorem snd_world {o : Oper} {α : AS} {c : Prop} {x : AV} {rn : List Nat} {wn : List (Nat × Option HE)}
    (h : c → ∀ (B : Base) (σ : Sig) (ρ : Names) (a : Act) (w : World), Inv B σ ρ α a w → ∃ v w' σ' ρ', (execOp a.eval o).run P w = .ok (.value v) w' ∧ Inv B σ' ρ' ⟨α.fr, updH α.H wn⟩ a w' ∧ RdA σ' ρ' x v) : Snd P o α ⟨c, x, rn, wn⟩ := by
  intro B a w hd ⟨σ, ρ, hi⟩ hc
  obtain ⟨v, w', σ', ρ', h1, h2, h3⟩ := h hc B σ ρ a w hi
  unfold Oper.wp
  rw [h1]
  exact ⟨σ', ρ', h2.put hd h3⟩

theorem pAlloc_ok (hT : ∀ t, (T t).size ≠ 0 → TOk P t (T t)) {o : Oper} {α : AS} {t : TypeId} {nm : Nat} (ho : o.op = .alloc t) (hz : (T t).size ≠ 0)
    {pr : PR} (h : pAlloc T nm t α = some pr) : Snd P o α pr := by
  unfold pAlloc at h
  split at h <;> first | (cases h; done) | skip
  rename_i hH
  simp only [Option.some.injEq] at h; subst h
  obtain ⟨i, z, h1, h2, h3, h4, h5⟩ := (hT t hz).info'
  refine snd_world fun _ B σ ρ a w hi => ?_
  obtain ⟨q1, q2, q3⟩ := zero_rd (hT t hz) h5 σ ρ
  obtain ⟨ρ', hi', hm⟩ := hi.alloc (t := t) hH q1 q2 q3
  refine ⟨_, _, σ, ρ', ?_, hi', .r hm⟩
  simp [execOp, ho, Instr.alloc, zeroValue, typeInfo, h1, h4, run_newVar]
theorem pBox_ok (hT : ∀ t, (T t).size ≠ 0 → TOk P t (T t)) {o : Oper} {α : AS} {t : TypeId} {nm : Nat} {x : Operand} (ho : o.op = .box t x)
    {pr : PR} (h : pBox T nm t α x = some pr) : Snd P o α pr := by
  unfold pBox at h
  split at h <;> first | (cases h; done) | skip
  rename_i hH
  split at h <;> first | (cases h; done) | skip
  rename_i hf
  simp only [Option.some.injEq] at h; subst h
  refine snd_world fun _ B σ ρ a w hi => ?_
  have hr := evT_rd (T := T) hi t x
  have hn1 : evT T α t x ≠ .j := fun e => by rw [e] at hf; simp [flat] at hf
  have hn2 : ∀ vs, evT T α t x ≠ .t vs := fun vs e => by rw [e] at hf; simp [flat] at hf
  have hn3 : ∀ vs, evT T α t x ≠ .d (.t vs) := fun vs e => by rw [e] at hf; simp [flat] at hf
  obtain ⟨q1, q2, q3⟩ := cells_rd hr hn1 hn2 hn3
  obtain ⟨ρ', hi', hm⟩ := hi.alloc (t := t) hH q1 q2 q3
  refine ⟨_, _, σ, ρ', ?_, hi', .r hm⟩
  simp [execOp, ho, Instr.box, run_newVar]

/-! ### Stores -/
def toDsA : List AV → Option (List D)
  | [] => some []
  | x :: xs => match toD x, toDsA xs with
    | some d, some ds => some (d :: ds)
    | _, _ => none
def pStore (T : Tab) (t : TypeId) (α : AS) (x y : Operand) : Option PR :=
  match α.ev x with
  | .r n o => match α.H n with
    | some (.blk ty cells) => if flat (evT T α t y) ∧ (evT T α t y).cells.length = (T t).size ∧ o + (evT T α t y).cells.length ≤ cells.length then
        some ⟨True, .d (.c (.bool false)), [n], [(n, some (.blk ty (putCells cells o (evT T α t y).cells)))]⟩ else none
    | _ => none
  | _ => none
theorem Oper.skip_run {o : Oper} {a : Act} {w w' : World} (K : Act → World → Prop) (h : (execOp a.eval o).run P w = .ok .skip w') (hk : K (a.put o.dst undef) w') : o.wp P a w K noQ := by
  unfold Oper.wp; rw [h]; exact hk
theorem pStore_ok (hT : ∀ t, (T t).size ≠ 0 → TOk P t (T t)) {o : Oper} {α : AS} {t : TypeId} {x y : Operand} (ho : o.op = .store t x y) (hd0 : o.dst = none) (hz : (T t).size ≠ 0)
    {pr : PR} (h : pStore T t α x y = some pr) : Snd P o α pr := by
  unfold pStore at h
  split at h <;> first | (cases h; done) | skip
  rename_i n off hx
  split at h <;> first | (cases h; done) | skip
  rename_i ty cells hH
  split at h <;> first | (cases h; done) | skip
  rename_i hq
  obtain ⟨hf, hl, hfit⟩ := hq
  simp only [Option.some.injEq] at h; subst h
  intro B a w hd ⟨σ, ρ, hi⟩ hc
  have hr := evT_rd (T := T) hi t y
  have hn1 : evT T α t y ≠ .j := fun e => by rw [e] at hf; simp [flat] at hf
  have hn2 : ∀ vs, evT T α t y ≠ .t vs := fun vs e => by rw [e] at hf; simp [flat] at hf
  have hn3 : ∀ vs, evT T α t y ≠ .d (.t vs) := fun vs e => by rw [e] at hf; simp [flat] at hf
  obtain ⟨q1, q2, q3⟩ := cells_rd hr hn1 hn2 hn3
  obtain ⟨g, us, h1, h2, h3, h4, h5, h6⟩ := hi.hok n _ hH
  have hx2 := ev_rd hi x
  rw [hx] at hx2
  have hxe : a.eval x = .pointer (some ⟨g, off, none⟩) := by
    generalize a.eval x = v at hx2
    cases hx2 with | r hr2 =>
    rw [h1] at hr2
    cases hr2; rfl
  have hi' := hi.store (off := off) hH h1 h2 q1 hfit q2 q3
  refine Oper.skip_run (w' := w.setRow g (us.toList.take off ++ (a.eval y).cells.toList ++ us.toList.drop (off + (a.eval y).cells.toList.length)).toArray) _ ?_ ⟨σ, ρ, ?_⟩
  · have hst := run_storeCells_at P g off ty (a.eval y).cells.toList 0 us w h2 (by simp; omega) (fun v hv => by
      obtain ⟨j, hj, rfl⟩ := List.mem_iff_getElem.1 hv
      simpa using q2 j (by simpa using hj))
    have hs : (a.eval y).cells.size = (T t).size := by omega
    simp only [execOp, ho, hxe, Instr.storeAt, Instr.sureAddr, Sem.run_bind, Sem.run_pure, Result.andThen_ok, storeVar, run_sizeOf' (hT t hz), hs, ne_eq, not_true_eq_false, if_false]
    simp only [Nat.add_zero] at hst
    rw [hst]
    rfl
  · have e1 : a.put o.dst undef = a := by rw [hd0]; rfl
    have e2 : putF α.fr o.dst (AV.d (.c (.bool false))) = α.fr := by rw [hd0]; rfl
    rw [e1]
    show Inv B σ ρ ⟨putF α.fr o.dst (AV.d (.c (.bool false))), _⟩ _ _
    rw [e2]
    exact hi'
end Go.AM
