/- The abstract machine, part 9: lengths, min and max, structs and slices that are built, texts of bytes. -/
import Derived.Test.YtnmhinolpnnkkaaGreatZam8
set_option linter.unusedSimpArgs false
set_option linter.unusedVariables false
namespace Go.AM
open Go.RowKit
variable {P : Program} {T : Tab}

def pLen (T : Tab) (t : TypeId) (α : AS) (x : Operand) : Option PR :=
  match (T t).k, α.ev x with
  | .str, .d (.c (.string s)) => pv (.d (.c (.int .i64 s.size)))
  | .slice _, .d (.l _ xs) => pv (.d (.c (.int .i64 xs.length)))
  | .slice _, .fl _ xs => pv (.d (.c (.int .i64 xs.length)))
  | .slice _, .s n k => match α.H n with
    | some (.row _ _ k' xs) => if k = k' then some ⟨True, .d (.c (.int .i64 xs.length)), [n], []⟩ else none
    | _ => none
  | _, _ => none
theorem RowAt.form {w : World} {e : TypeId} {sz : Nat} {v : Value} {n : Nat} {us : List Value} (h : RowAt w e sz v n us) : ∃ a c, v = .slice a n c ∧ n ≤ c := by
  rcases h.2 with ⟨rfl, a, rfl⟩ | ⟨g, cap, cur, fr, rfl, _, _, h1, _⟩
  · exact ⟨a, 0, rfl, Nat.le_refl _⟩
  · exact ⟨_, _, rfl, h1⟩
theorem run_lenS {t e : TypeId} (h : P.underlying t = some (.slice e)) (a : Option Addr) (n c : Nat) (ts : Array TypeId) (ht : ts[0]? = some t) (ty : TypeId) (w : World) :
    (Builtin.len_ ts ty #[.slice a n c]).run P w = .ok (.int .i64 n) w := by
  unfold Builtin.len_
  simp [ht, run_underlying h, goInt]
theorem len_exec {o : Oper} {x : Operand} {ts : Array TypeId} (ho : o.op = .call { callee := .builtin .len, args := #[x], argTypes := ts }) (a : Act) (w : World) :
    (execOp a.eval o).run P w = (do let v ← Builtin.len_ ts o.type #[a.eval x]; pure (.value v) : Sem Next).run P w := by
  simp [execOp, ho, resolve, invoke, builtin]
theorem pLen_ok (hT : ∀ t, (T t).size ≠ 0 → TOk P t (T t)) {o : Oper} {α : AS} {t : TypeId} {x : Operand} (ho : o.op = .call { callee := .builtin .len, args := #[x], argTypes := #[t] }) (hz : (T t).size ≠ 0)
    {pr : PR} (h : pLen T t α x = some pr) : Snd P o α pr := by
  unfold pLen at h
  have ht := hT t hz
  split at h <;> first | (cases h; done) | skip
  · rename_i s hk hx
    simp only [pv, Option.some.injEq] at h; subst h
    refine snd_run _ (len_exec ho) fun _ B σ ρ a w hi => ⟨_, ?_, .d (.c _ rfl)⟩
    rw [ev_c hi hx]
    unfold Builtin.len_
    simp [run_underlying (ht.str hk), goInt]
  · rename_i e sz xs hk hx
    simp only [pv, Option.some.injEq] at h; subst h
    refine snd_run _ (len_exec ho) fun _ B σ ρ a w hi => ⟨_, ?_, .d (.c _ rfl)⟩
    have hr := ev_rd hi x
    rw [hx] at hr
    generalize a.eval x = v at hr ⊢
    cases hr with | d hr =>
    obtain ⟨ad, c, rfl, _⟩ := l_form hr
    exact run_lenS (ht.slice hk) _ _ _ _ rfl _ _
  · rename_i e sz xs hk hx
    simp only [pv, Option.some.injEq] at h; subst h
    refine snd_run _ (len_exec ho) fun _ B σ ρ a w hi => ⟨_, ?_, .d (.c _ rfl)⟩
    have hr := ev_rd hi x
    rw [hx] at hr
    generalize a.eval x = v at hr ⊢
    cases hr with | fl hr =>
    obtain ⟨ad, c, hv, _⟩ := l_form hr
    rw [hv]
    exact run_lenS (ht.slice hk) _ _ _ _ rfl _ _
  · rename_i e n k hk hx
    split at h <;> first | (cases h; done) | skip
    rename_i e' sz k' xs hH
    split at h <;> first | (cases h; done) | skip
    rename_i hkk
    subst hkk
    simp only [Option.some.injEq] at h; subst h
    refine snd_run _ (len_exec ho) fun _ B σ ρ a w hi => ⟨_, ?_, .d (.c _ rfl)⟩
    have hr := ev_rd hi x
    rw [hx] at hr
    obtain ⟨v0, us, q1, q2, _⟩ := hi.hok n _ hH
    generalize a.eval x = v at hr ⊢
    cases hr with | s hr hkk hv hs =>
    rw [q1] at hr
    obtain ⟨rfl, rfl⟩ : k = _ ∧ v0 = _ := by simpa using hr
    obtain rfl := hv rfl
    obtain ⟨ad, c, rfl, _⟩ := q2.form
    exact run_lenS (ht.slice hk) _ _ _ _ rfl _ _

/-! ### min and max of whole numbers -/
def intOfA : AV → Option (IntKind × Int) | .d (.c (.int k n)) => some (k, n) | _ => none
def pMM (mx : Bool) (α : AS) : List Operand → Option PR
  | [x, y] => match α.ev x, α.ev y with
    | .d (.c (.int k a)), .d (.c (.int _ b)) => pv (.d (.c (.int k (if mx then max a b else min a b))))
    | _, _ => none
  | [x, y, z] => match α.ev x, α.ev y, α.ev z with
    | .d (.c (.int k a)), .d (.c (.int _ b)), .d (.c (.int _ c)) => pv (.d (.c (.int k (if mx then max (max a b) c else min (min a b) c))))
    | _, _, _ => none
  | _ => none
theorem min2_run (k k' : IntKind) (a b : Int) (w : World) : (Builtin.min2 (.int k a) (.int k' b)).run P w = .ok (.int k (min a b)) w := by
  simp only [Builtin.min2, Sem.run_pure, Int.min_def]
  congr 2
  split <;> split <;> omega
theorem max2_run (k k' : IntKind) (a b : Int) (w : World) : (Builtin.max2 (.int k a) (.int k' b)).run P w = .ok (.int k (max a b)) w := by
  simp only [Builtin.max2, Sem.run_pure, Int.max_def]
  congr 2
  split <;> split <;> omega
theorem pMM_ok {o : Oper} {α : AS} {mx : Bool} {xs : Array Operand} {ts : Array TypeId} (ho : o.op = .call { callee := .builtin (if mx then .max else .min), args := xs, argTypes := ts })
    {pr : PR} (h : pMM mx α xs.toList = some pr) : Snd P o α pr := by
  obtain ⟨l⟩ := xs
  simp only at h
  unfold pMM at h
  split at h <;> first | (cases h; done) | skip
  · rename_i x y
    split at h <;> first | (cases h; done) | skip
    rename_i k a k' b hx hy
    simp only [pv, Option.some.injEq] at h; subst h
    refine snd_val fun _ B σ ρ ac w hi => ⟨_, ?_, .d (.c _ rfl)⟩
    cases mx
    · simp only [execOp, ho, resolve, invoke, builtin, Builtin.min_, List.map_toArray, List.map_cons, List.map_nil, ev_c hi hx, ev_c hi hy, Sem.run_bind, Sem.run_pure, Result.andThen_ok, Bool.false_eq_true, if_false, List.foldlM, min2_run]
    · simp only [execOp, ho, resolve, invoke, builtin, Builtin.max_, List.map_toArray, List.map_cons, List.map_nil, ev_c hi hx, ev_c hi hy, Sem.run_bind, Sem.run_pure, Result.andThen_ok, if_true, List.foldlM, max2_run]
  · rename_i x y z
    split at h <;> first | (cases h; done) | skip
    rename_i k a k' b k2 c hx hy hzz
    simp only [pv, Option.some.injEq] at h; subst h
    refine snd_val fun _ B σ ρ ac w hi => ⟨_, ?_, .d (.c _ rfl)⟩
    cases mx
    · simp only [execOp, ho, resolve, invoke, builtin, Builtin.min_, List.map_toArray, List.map_cons, List.map_nil, ev_c hi hx, ev_c hi hy, ev_c hi hzz, Sem.run_bind, Sem.run_pure, Result.andThen_ok, Bool.false_eq_true, if_false, List.foldlM, min2_run]
    · simp only [execOp, ho, resolve, invoke, builtin, Builtin.max_, List.map_toArray, List.map_cons, List.map_nil, ev_c hi hx, ev_c hi hy, ev_c hi hzz, Sem.run_bind, Sem.run_pure, Result.andThen_ok, if_true, List.foldlM, max2_run]

/-! ### Structs that are built -/
theorem foldl_put (off : Nat) : ∀ (l : List Value) (k : Nat) (cs : Array Value), off + k + l.length ≤ cs.size →
    ((l.zipIdx k).foldl (fun cs (x : Value × Nat) => cs.setIfInBounds (off + x.2) x.1) cs).toList = putCells cs.toList (off + k) l
  | [], k, cs, _ => by simp [putCells]
  | v :: l, k, cs, h => by
    simp only [List.length_cons] at h
    rw [List.zipIdx_cons, List.foldl_cons, foldl_put off l (k + 1) _ (by simp; omega)]
    apply List.ext_getElem?
    intro j
    rw [putCells_get (by simp; omega), putCells_get (by simp; omega)]
    simp only [Array.toList_setIfInBounds, List.getElem?_set, List.length_cons, Array.length_toList]
    by_cases h1 : j < off + k
    · have : ¬ off + k = j := by omega
      simp [h1, show j < off + (k + 1) by omega, this]
    · by_cases h2 : j = off + k
      · subst h2
        simp [show off + k < off + (k + 1) by omega, show off + k < cs.size by omega]
      · have h3 : ¬ j < off + (k + 1) := by omega
        have h4 : ¬ off + k = j := by omega
        have e : off + (k + 1) + l.length = off + k + (l.length + 1) := by omega
        simp only [h1, h3, h4, if_false, e]
        split
        · rw [show j - (off + k) = (j - (off + (k + 1))) + 1 by omega, List.getElem?_cons_succ]
        · rfl

def fillA (pl : Nat → Option (Nat × Nat)) : List AV → List (Nat × AV) → Option (List AV)
  | cells, [] => some cells
  | cells, (i, v) :: r => match pl i with
    | some (off, size) => if flat v ∧ v.cells.length = size ∧ off + size ≤ cells.length then fillA pl (putCells cells off v.cells) r else none
    | none => none
theorem flat_cells {σ : Sig} {ρ : Names} {x : AV} {v : Value} (hf : flat x = true) (r : RdA σ ρ x v) :
    v.cells.size = x.cells.length ∧ (∀ j (h : j < v.cells.size), (v.cells[j]).oneCell' = true) ∧ ∀ (j : Nat) (y : AV), x.cells[j]? = some y → RdA σ ρ y (v.cells.getD j undef) :=
  cells_rd r (fun e => by rw [e] at hf; simp [flat] at hf) (fun vs e => by rw [e] at hf; simp [flat] at hf) (fun vs e => by rw [e] at hf; simp [flat] at hf)
theorem getD_putCells {us ws : Array Value} {off : Nat} (h : off + ws.size ≤ us.size) (j : Nat) (d : Value) :
    (putCells us.toList off ws.toList).toArray.getD j d = if j < off then us.getD j d else if j < off + ws.size then ws.getD (j - off) d else us.getD j d := by
  have := putCells_get (cs := us.toList) (vs := ws.toList) (off := off) (by simpa using h) j
  rw [Array.getD_eq_getD_getElem?, List.getElem?_toArray, this]
  simp only [Array.length_toList]
  split
  · simp [Array.getD_eq_getD_getElem?]
  · split <;> simp [Array.getD_eq_getD_getElem?]
theorem oneCell_putCells {us ws : Array Value} {off : Nat} (h : off + ws.size ≤ us.size) (h1 : ∀ j (h : j < us.size), (us[j]).oneCell' = true) (h2 : ∀ j (h : j < ws.size), (ws[j]).oneCell' = true) :
    ∀ j (h : j < (putCells us.toList off ws.toList).toArray.size), ((putCells us.toList off ws.toList).toArray[j]).oneCell' = true := by
  intro j hj
  have hj' : j < (putCells us.toList off ws.toList).length := by simpa using hj
  have e : (putCells us.toList off ws.toList)[j]? = some ((putCells us.toList off ws.toList)[j]) := List.getElem?_eq_getElem hj'
  show ((putCells us.toList off ws.toList)[j]).oneCell' = true
  rw [putCells_get (by simpa using h)] at e
  have key : ∀ (l : Array Value) (i : Nat) (v : Value), (∀ j (h : j < l.size), (l[j]).oneCell' = true) → l.toList[i]? = some v → v.oneCell' = true := by
    intro l i v hl hv
    obtain ⟨hi, rfl⟩ := List.getElem?_eq_some_iff.1 hv
    exact hl i (by simpa using hi)
  split at e
  · exact key us _ _ h1 e
  · split at e
    · exact key ws _ _ h2 e
    · exact key us _ _ h1 e
theorem fillA_ok {σ : Sig} {ρ : Names} {pl : Nat → Option (Nat × Nat)} : ∀ (parts : List (Nat × AV)) (vals : List (Nat × Value)) (cells : List AV) (us : Array Value) (out : List AV),
    parts.length = vals.length → (∀ (k : Nat) (p : Nat × AV), parts[k]? = some p → ∃ v, vals[k]? = some (p.1, v) ∧ RdA σ ρ p.2 v) →
    us.size = cells.length → (∀ j (h : j < us.size), (us[j]).oneCell' = true) → (∀ (j : Nat) (x : AV), cells[j]? = some x → RdA σ ρ x (us.getD j undef)) →
    fillA pl cells parts = some out →
    ∃ us', Instr.fill pl us vals = some us' ∧ us'.size = out.length ∧ (∀ j (h : j < us'.size), (us'[j]).oneCell' = true) ∧ ∀ (j : Nat) (x : AV), out[j]? = some x → RdA σ ρ x (us'.getD j undef)
  | [], vals, cells, us, out, hl, hp, h1, h2, h3, h => by
    have : vals = [] := List.eq_nil_of_length_eq_zero (by simpa using hl.symm)
    subst this
    simp only [fillA, Option.some.injEq] at h; subst h
    exact ⟨us, rfl, h1, h2, h3⟩
  | (i, x) :: r, vals, cells, us, out, hl, hp, h1, h2, h3, h => by
    obtain ⟨v, hv, hr⟩ := hp 0 (i, x) rfl
    cases vals with
    | nil => simp at hv
    | cons q vals =>
      simp only [List.getElem?_cons_zero, Option.some.injEq] at hv
      subst hv
      simp only [fillA] at h
      split at h <;> first | (cases h; done) | skip
      rename_i off size hpl
      split at h <;> first | (cases h; done) | skip
      rename_i hq
      obtain ⟨hf, hs, hfit⟩ := hq
      obtain ⟨c1, c2, c3⟩ := flat_cells hf hr
      have hsz : off + v.cells.size ≤ us.size := by omega
      have e1 : (v.cells.zipIdx.foldl (fun cs (x : Value × Nat) => cs.setIfInBounds (off + x.2) x.1) us) = (putCells us.toList off v.cells.toList).toArray := by
        have := foldl_put off v.cells.toList 0 us (by simp; omega)
        rw [Nat.add_zero] at this
        rw [← this, ← Array.foldl_toList, Array.toList_zipIdx]
      have hsz' : off + v.cells.toList.length ≤ us.toList.length := by simpa using hsz
      obtain ⟨us', f1, f2⟩ := fillA_ok (σ := σ) (ρ := ρ) (pl := pl) r vals (putCells cells off x.cells) (putCells us.toList off v.cells.toList).toArray out (by simpa using hl)
        (fun k p hk => by simpa using hp (k + 1) p (by simpa using hk))
        (by rw [putCells_length (by omega)]; simp only [List.size_toArray]; rw [putCells_length hsz']; simpa using h1) (oneCell_putCells hsz h2 c2)
        (fun j y hy => by
          rw [putCells_get (by omega)] at hy
          rw [getD_putCells hsz]
          split at hy
          · rename_i hj; rw [if_pos hj]; exact h3 j y hy
          · rename_i hj
            rw [if_neg hj]
            split at hy
            · rename_i h4; rw [if_pos (by omega)]; exact c3 _ _ hy
            · rename_i h4; rw [if_neg (by omega)]; exact h3 j y hy) h
      refine ⟨us', ?_, f2⟩
      simp only [Instr.fill, hpl]
      rw [if_neg (by simp; omega)]
      have e2 : (v.cells.zipIdx.foldl (fun cs x => match x with | (c, j) => cs.setIfInBounds (off + j) c) us) = (putCells us.toList off v.cells.toList).toArray := by rw [← e1]
      rw [e2]
      exact f1

def sizesOf (T : Tab) (fs : List (Nat × TypeId)) : List (Nat × Nat) := fs.map fun f => (f.1, (T f.2).size)
def evParts (T : Tab) (α : AS) (ty : Nat → TypeId) (parts : List (Nat × Operand)) : List (Nat × AV) := parts.map fun p => (p.1, evT T α (ty p.1) p.2)
def pBuild (T : Tab) (t : TypeId) (α : AS) (parts : Array (Nat × Operand)) : Option PR :=
  match (T t).k with
  | .struct fs => if fs.all (fun f => (T f.2).size != 0) then
      match fillA (fun i => (sizesOf T fs)[i]?) ((T t).zero.map zA) (evParts T α (fun i => ((fs[i]?).map (·.2)).getD 0) parts.toList) with
      | some cs => pv (norm (.g cs))
      | none => none
    else none
  | .arr _ e => if (T e).size = 0 then none else
      match fillA (fun i => some (i * (T e).size, (T e).size)) ((T t).zero.map zA) (evParts T α (fun _ => e) parts.toList) with
      | some cs => pv (norm (.g cs))
      | none => none
  | _ => none
theorem mapM_sizes (hT : ∀ t, (T t).size ≠ 0 → TOk P t (T t)) (gs : Array Field) (h : ∀ f ∈ gs, (T f.type).size ≠ 0) (w : World) :
    (gs.mapM fun f => do pure (f.offset, ← sizeOf f.type) : Sem (Array (Nat × Nat))).run P w = .ok (gs.map fun f => (f.offset, (T f.type).size)) w := by
  obtain ⟨l⟩ := gs
  rw [List.mapM_toArray, Sem.run_map, List.map_toArray]
  have : ∀ (l : List Field), (∀ f ∈ l, (T f.type).size ≠ 0) → (l.mapM fun f => do pure (f.offset, ← sizeOf f.type) : Sem (List (Nat × Nat))).run P w = .ok (l.map fun f => (f.offset, (T f.type).size)) w := by
    intro l
    induction l with
    | nil => intro _; simp
    | cons f l ih =>
      intro h
      rw [List.mapM_cons]
      simp only [Sem.run_bind, run_sizeOf' (hT _ (h f (by simp))), ih (fun g hg => h g (by simp [hg])), Result.andThen_ok, Sem.run_pure, List.map_cons]
  rw [this l (fun f hf => h f (by simpa using hf))]
  rfl
theorem pBuild_ok (hT : ∀ t, (T t).size ≠ 0 → TOk P t (T t)) {o : Oper} {α : AS} {t : TypeId} {parts : Array (Nat × Operand)} (ho : o.op = .build t parts) (hz : (T t).size ≠ 0)
    {pr : PR} (h : pBuild T t α parts = some pr) : Snd P o α pr := by
  unfold pBuild at h
  split at h <;> first | (cases h; done) | skip
  · rename_i fs hk
    split at h <;> first | (cases h; done) | skip
    rename_i hfs
    split at h <;> first | (cases h; done) | skip
    rename_i cs hfill
    simp only [pv, Option.some.injEq] at h; subst h
    have ht := hT t hz
    obtain ⟨gs, hu, hgs⟩ := ht.struct hk
    obtain ⟨i, z, h1, h2, h3, h4, h5⟩ := ht.info'
    have hsz : ∀ f ∈ gs, (T f.type).size ≠ 0 := by
      intro f hf
      rw [List.all_eq_true] at hfs
      have := hfs (f.offset, f.type) (by rw [← hgs]; exact List.mem_map.2 ⟨f, by simpa using hf, rfl⟩)
      simpa using this
    refine snd_run (fun a => Instr.build t (parts.map fun p => (p.1, a.eval p.2))) (fun a w => by simp only [execOp, ho]) fun _ B σ ρ ac w hi => ?_
    obtain ⟨q1, q2, q3⟩ := zero_rd ht h5 σ ρ
    obtain ⟨us', f1, f2, f3, f4⟩ := fillA_ok (σ := σ) (ρ := ρ) (vals := (parts.map fun p => (p.1, ac.eval p.2)).toList) _ _ _ _ (by simp [evParts]) (fun k p hp => by
      simp only [evParts, List.getElem?_map, Option.map_eq_some_iff] at hp
      obtain ⟨q, hq, rfl⟩ := hp
      exact ⟨ac.eval q.2, by simp only [Array.toList_map, List.getElem?_map, hq, Option.map_some], evT_rd hi _ _⟩) q1 q2 q3 hfill
    refine ⟨_, ?_, norm_rd (.g f2 f3 f4)⟩
    unfold Instr.build
    have hpl : (fun (x : Nat) => (gs.map fun f => (f.offset, (T f.type).size))[x]?) = fun (i : Nat) => (sizesOf T fs)[i]? := by
      funext i
      rw [← hgs]
      simp [sizesOf, Array.getElem?_map]
      cases gs[i]? <;> rfl
    simp only [Sem.run_bind, zeroValue, typeInfo, program, Sem.run, h1, h4, Sem.run_pure, Result.andThen_ok, run_underlying hu, mapM_sizes hT gs hsz]
    rw [hpl, f1]
    rfl
  · rename_i n e hk
    split at h <;> first | (cases h; done) | skip
    rename_i hze
    split at h <;> first | (cases h; done) | skip
    rename_i cs hfill
    simp only [pv, Option.some.injEq] at h; subst h
    have ht := hT t hz
    obtain ⟨i, z, h1, h2, h3, h4, h5⟩ := ht.info'
    refine snd_run (fun a => Instr.build t (parts.map fun p => (p.1, a.eval p.2))) (fun a w => by simp only [execOp, ho]) fun _ B σ ρ ac w hi => ?_
    obtain ⟨q1, q2, q3⟩ := zero_rd ht h5 σ ρ
    obtain ⟨us', f1, f2, f3, f4⟩ := fillA_ok (σ := σ) (ρ := ρ) (vals := (parts.map fun p => (p.1, ac.eval p.2)).toList) _ _ _ _ (by simp [evParts]) (fun k p hp => by
      simp only [evParts, List.getElem?_map, Option.map_eq_some_iff] at hp
      obtain ⟨q, hq, rfl⟩ := hp
      exact ⟨ac.eval q.2, by simp only [Array.toList_map, List.getElem?_map, hq, Option.map_some], evT_rd hi _ _⟩) q1 q2 q3 hfill
    refine ⟨_, ?_, norm_rd (.g f2 f3 f4)⟩
    unfold Instr.build
    simp only [Sem.run_bind, zeroValue, typeInfo, program, Sem.run, h1, h4, Sem.run_pure, Result.andThen_ok, run_underlying (ht.arr hk), run_sizeOf' (hT e hze)]
    rw [f1]
    rfl
end Go.AM
