/- The abstract machine, part 12b: slices that are built or made, stores into rows. -/
import Derived.Test.YtnmhinolpnnkkaaGreatZam12
import Derived.Laws.MakeOwn
set_option linter.unusedSimpArgs false
set_option linter.unusedVariables false
namespace Go.AM
open Go.RowKit
variable {P : Program} {T : Tab}

theorem snd_runw {o : Oper} {α : AS} {c : Prop} {x : AV} {rn : List Nat} {wn : List (Nat × Option HE)} (f : Act → Sem Value) (hf : ∀ (a : Act) (w : World), (execOp a.eval o).run P w = (do let v ← f a; pure (.value v) : Sem Next).run P w)
    (h : c → ∀ (B : Base) (σ : Sig) (ρ : Names) (a : Act) (w : World), Inv B σ ρ α a w → ∃ v w' σ' ρ', (f a).run P w = .ok v w' ∧ Inv B σ' ρ' ⟨α.fr, updH α.H wn⟩ a w' ∧ RdA σ' ρ' x v) : Snd P o α ⟨c, x, rn, wn⟩ :=
  snd_world fun hc B σ ρ a w hi => by
    obtain ⟨v, w', σ', ρ', h1, h2, h3⟩ := h hc B σ ρ a w hi
    exact ⟨v, w', σ', ρ', by rw [hf, Sem.run_bind, h1]; rfl, h2, h3⟩

def chunk (sz : Nat) : Nat → List D → List (List D)
  | 0, _ => []
  | n + 1, ds => ds.take sz :: chunk sz n (ds.drop sz)
theorem chunk_len (sz : Nat) : ∀ n ds, (chunk sz n ds).length = n
  | 0, _ => rfl
  | n + 1, ds => by rw [chunk, List.length_cons, chunk_len sz n]
theorem chunk_get (sz : Nat) : ∀ (n : Nat) (ds : List D), ds.length = n * sz → ∀ (i : Nat) (x : List D), (chunk sz n ds)[i]? = some x → x.length = sz ∧ ∀ (j : Nat) (d : D), x[j]? = some d → ds[i * sz + j]? = some d
  | 0, ds, _, i, x, h => by simp [chunk] at h
  | n + 1, ds, hl, i, x, h => by
    rw [chunk] at h
    rw [Nat.succ_mul] at hl
    cases i with
    | zero =>
      simp only [List.getElem?_cons_zero, Option.some.injEq] at h
      subst h
      refine ⟨by simp; omega, fun j d hd => ?_⟩
      rw [List.getElem?_take] at hd
      split at hd
      · simpa using hd
      · cases hd
    | succ i =>
      simp only [List.getElem?_cons_succ] at h
      obtain ⟨h1, h2⟩ := chunk_get sz n (ds.drop sz) (by simp; omega) i x h
      refine ⟨h1, fun j d hd => ?_⟩
      have := h2 j d hd
      rw [List.getElem?_drop] at this
      rw [Nat.succ_mul, ← this]
      congr 1
      omega
def repA (n : Nat) (zs : List AV) : List AV := (List.replicate n zs).flatten
def pBuildS (T : Tab) (t : TypeId) (α : AS) (len : Nat) (parts : Array (Nat × Operand)) : Option PR :=
  match (T t).k with
  | .slice e => if (T e).size ≠ 0 ∧ len * (T e).size ≤ 16777216 then
      match fillA (fun i => some (i * (T e).size, (T e).size)) (repA len ((T e).zero.map zA)) (evParts T α (fun _ => e) parts.toList) with
      | some cs => match toDs cs with
        | some ds => if ds.length = len * (T e).size then pv (.fl (T e).size (chunk (T e).size len ds)) else none
        | none => none
      | none => none
    else none
  | _ => none
theorem repA_get (zs : List AV) : ∀ (n j : Nat) (x : AV), (repA n zs)[j]? = some x → j < n * zs.length ∧ zs[j % zs.length]? = some x := by
  intro n j x h
  induction n generalizing j with
  | zero => simp [repA] at h
  | succ n ih =>
    have : repA (n + 1) zs = zs ++ repA n zs := by simp [repA, List.replicate_succ]
    rw [this, List.getElem?_append] at h
    rw [Nat.succ_mul]
    split at h
    · rename_i hj
      exact ⟨by omega, by rw [Nat.mod_eq_of_lt hj]; exact h⟩
    · rename_i hj
      obtain ⟨h1, h2⟩ := ih _ h
      refine ⟨by omega, ?_⟩
      rw [Nat.mod_eq_sub_mod (by omega)]
      exact h2
theorem repA_len (zs : List AV) (n : Nat) : (repA n zs).length = n * zs.length := by
  induction n with
  | zero => simp [repA]
  | succ n ih =>
    have : repA (n + 1) zs = zs ++ repA n zs := by simp [repA, List.replicate_succ]
    rw [this, List.length_append, ih, Nat.succ_mul]; omega
theorem made_rd {t : TypeId} {ti : TI} (h : TOk P t ti) (hz0 : ti.size ≠ 0) {z : Value} (hz : z.cells.toList = ti.zero.map unz) (n : Nat) (σ : Sig) (ρ : Names) :
    (madeCells z.cells (n * ti.size)).size = (repA n (ti.zero.map zA)).length ∧ (∀ j (h : j < (madeCells z.cells (n * ti.size)).size), ((madeCells z.cells (n * ti.size))[j]).oneCell' = true) ∧
    ∀ (j : Nat) (x : AV), (repA n (ti.zero.map zA))[j]? = some x → RdA σ ρ x ((madeCells z.cells (n * ti.size)).getD j undef) := by
  obtain ⟨q1, q2, q3⟩ := zero_rd h hz σ ρ
  have hzs : z.cells.size = ti.size := by rw [q1, List.length_map, h.zl]
  have at' : ∀ j, j < n * ti.size → (madeCells z.cells (n * ti.size)).getD j undef = z.cells.getD (j % ti.size) undef := by
    intro j hj
    have hm : j % ti.size < z.cells.size := by rw [hzs]; exact Nat.mod_lt _ (by omega)
    have hm' : j % z.cells.size < z.cells.size := by rw [hzs] at hm ⊢; exact hm
    simp only [Array.getD, size_madeCells, hj, dif_pos, hm]
    simp only [madeCells, Array.getInternal_eq_getElem, Array.getElem_map, Array.getElem_range]
    rw [getElem!_pos z.cells (j % z.cells.size) hm']
    congr 1
    rw [hzs]
  refine ⟨by rw [size_madeCells, repA_len, List.length_map, h.zl], fun j hj => ?_, fun j x hx => ?_⟩
  · have hj' : j < n * ti.size := by rw [size_madeCells] at hj; exact hj
    have hm : j % ti.size < z.cells.size := by rw [hzs]; exact Nat.mod_lt _ (by omega)
    have e := at' j hj'
    simp only [Array.getD, hj, dif_pos, hm, Array.getInternal_eq_getElem] at e
    rw [e]; exact q2 _ hm
  · obtain ⟨h1, h2⟩ := repA_get _ _ _ _ hx
    rw [List.length_map, h.zl] at h1 h2
    rw [at' j h1]
    exact q3 _ _ h2
theorem map_range_made (z : Array Value) (n : Nat) : (Array.range n).map (fun x => z[x % z.size]!) = madeCells z n := rfl

theorem pBuildS_ok (hT : ∀ t, (T t).size ≠ 0 → TOk P t (T t)) {o : Oper} {α : AS} {t : TypeId} {len : Nat} {parts : Array (Nat × Operand)} (ho : o.op = .buildSlice t len parts) (hz : (T t).size ≠ 0)
    {pr : PR} (h : pBuildS T t α len parts = some pr) : Snd P o α pr := by
  unfold pBuildS at h
  split at h <;> first | (cases h; done) | skip
  rename_i e hk
  split at h <;> first | (cases h; done) | skip
  rename_i hsz
  obtain ⟨hze, hmax⟩ := hsz
  split at h <;> first | (cases h; done) | skip
  rename_i cs hfill
  split at h <;> first | (cases h; done) | skip
  rename_i ds hds
  split at h <;> first | (cases h; done) | skip
  rename_i hdl
  simp only [pv, Option.some.injEq] at h; subst h
  have ht := hT t hz
  have he := hT e hze
  obtain ⟨i, z, h1, h2, h3, h4, h5⟩ := he.info'
  refine snd_runw (fun a => Instr.buildSlice t len (parts.map fun p => (p.1, a.eval p.2))) (fun a w => by simp only [execOp, ho]) fun _ B σ ρ ac w hi => ?_
  obtain ⟨q1, q2, q3⟩ := made_rd he hze h5 len σ ρ
  obtain ⟨us', f1, f2, f3, f4⟩ := fillA_ok (σ := σ) (ρ := ρ) (vals := (parts.map fun p => (p.1, ac.eval p.2)).toList) _ _ _ _ (by simp [evParts]) (fun k p hp => by
    simp only [evParts, List.getElem?_map, Option.map_eq_some_iff] at hp
    obtain ⟨q, hq, rfl⟩ := hp
    exact ⟨ac.eval q.2, by simp only [Array.toList_map, List.getElem?_map, hq, Option.map_some], evT_rd hi _ _⟩) q1 q2 q3 hfill
  obtain ⟨d1, d2⟩ := toDs_get hds
  have hrun : (Instr.buildSlice t len (parts.map fun p => (p.1, ac.eval p.2))).run P w = .ok (.slice (some ⟨w.heap.size, 0, none⟩) len len) (w.alloc (.cells us' e)) := by
    have h24 : ¬ (len * (T e).size > 2 ^ 24) := by omega
    by_cases h0 : len * (T e).size = 0
    · have e0 : madeCells z.cells (len * (T e).size) = #[] := by rw [h0]; simp [madeCells]
      rw [e0] at f1
      rw [Array.toList_map] at f1
      have er : (Array.map (fun x => (default : Value)) (Array.range 0)) = #[] := by simp [Array.range_zero']
      simp [Instr.buildSlice, run_underlying (ht.slice hk), run_sizeOf' he, h0, newRow]
      rw [er, f1]
      rfl
    · have f1' := f1
      rw [← map_range_made] at f1'
      have h24' : ¬ (16777216 < len * (T e).size) := by omega
      simp only [Instr.buildSlice, Sem.run_bind, run_underlying (ht.slice hk), Result.andThen_ok, run_sizeOf' he, if_neg h24, if_neg h0, Sem.run_pure, zeroValue, typeInfo, program, Sem.run, h1, h4]
      simp only [f1']
      rfl
  by_cases hl0 : len = 0
  · subst hl0
    refine ⟨_, _, σ, ρ, hrun, hi.grow0 (grownBy_alloc' w _) (fun _ _ => rfl) (fun b o u hb hs => by rw [hi.new hb] at hs; cases hs), ?_⟩
    exact .fl (.nil _ _ _)
  · let σ' : Sig := fun b o => if b = w.heap.size then us'[o]? else σ b o
    have hσ : ∀ b, b < w.heap.size → σ' b = σ b := fun b hb => by funext o; simp [σ', show ¬ b = w.heap.size by omega]
    have hle : ∀ b o u, σ b o = some u → σ' b o = some u := fun b o u hs => by
      have := World.block_lt_of_cell? w _ (hi.sig b o u hs)
      rw [hσ b this]; exact hs
    refine ⟨_, _, σ', ρ, hrun, hi.grow0 (grownBy_alloc' w _) hσ (fun b o u hb hs => ?_), ?_⟩
    · by_cases hb' : b = w.heap.size
      · subst hb'
        simp only [σ', if_true] at hs
        rw [cell_of_row _ _ _ us' e (0, 0) (heap_alloc_new w _)]
        exact hs
      · simp only [σ', if_neg hb'] at hs
        rw [hi.new hb] at hs; cases hs
    · have hsz' : us'.size = len * (T e).size := by rw [f2, ← d1, hdl]
      have cl := chunk_len (T e).size len ds
      have key : Rd σ' (.l (T e).size (chunk (T e).size len ds)) (.slice (some ⟨w.heap.size, 0, none⟩) len len) := by
        refine .l (fun i j => us'.getD (i * (T e).size + j) undef) cl.symm (Nat.le_refl _) (fun i x hx => (chunk_get _ _ _ hdl i x hx).1) (fun i j hi' hj => ?_) (fun i j hi' hj => ?_) (fun i x hx j d hd => ?_)
        · have hlt : i * (T e).size + j < us'.size := by
            rw [hsz']
            have : (i + 1) * (T e).size ≤ len * (T e).size := Nat.mul_le_mul_right _ hi'
            rw [Nat.succ_mul] at this; omega
          simp only [σ', if_true, Nat.zero_add]
          exact getD_of hlt
        · have hlt : i * (T e).size + j < us'.size := by
            rw [hsz']
            have : (i + 1) * (T e).size ≤ len * (T e).size := Nat.mul_le_mul_right _ hi'
            rw [Nat.succ_mul] at this; omega
          have e1 : us'.getD (i * (T e).size + j) undef = us'[i * (T e).size + j] := by simp [Array.getD, hlt]
          rw [e1]; exact f3 _ _
        · have := (chunk_get _ _ _ hdl i x hx).2 j d hd
          obtain ⟨y, hy, hyd⟩ := d2 _ _ this
          exact (toD_rd hyd (f4 _ _ hy)).mono hle
      have := RdA.fl (ρ := ρ) (n := len) key
      exact this

/-! ### Slices that are made -/
def dOfZ (T : Tab) (e : TypeId) : List D := (T e).zero
def repD (n : Nat) (z : List D) : List (List D) := List.replicate n z
def pMake (T : Tab) (nm : Nat) (t : TypeId) (α : AS) (l c : Operand) : Option PR :=
  match (T t).k, α.ev l, α.ev c, α.H nm with
  | .slice e, .d (.c (.int _ a)), .d (.c (.int _ b)), none =>
    if (T e).size = 0 then none else some ⟨0 ≤ a ∧ a = b ∧ ((T e).bytes : Int) * a ≤ 281474976710656 ∧ a ≤ 9223372036854775807, .s nm 0, [nm], [(nm, some (.row e (T e).size 0 (repD a.toNat (T e).zero)))]⟩
  | _, _, _, _ => none
theorem rep_get {n i : Nat} {z x : List D} (h : (List.replicate n z)[i]? = some x) : i < n ∧ x = z := by
  rw [List.getElem?_replicate] at h
  split at h
  · rename_i q; exact ⟨q, by simpa using h.symm⟩
  · cases h
theorem zA_rd {σ : Sig} {ρ : Names} {d : D} {v : Value} (h : RdA σ ρ (zA d) v) : Rd σ d v := by
  cases d <;> simp only [zA] at h
  case l sz xs => cases h with | fl h => exact h
  all_goals (cases h with | d h => exact h)
theorem pMake_ok (hT : ∀ t, (T t).size ≠ 0 → TOk P t (T t)) {o : Oper} {α : AS} {t : TypeId} {nm : Nat} {l c : Operand} (ho : o.op = .makeSlice t l c) (hz : (T t).size ≠ 0)
    {pr : PR} (h : pMake T nm t α l c = some pr) : Snd P o α pr := by
  unfold pMake at h
  split at h <;> first | (cases h; done) | skip
  rename_i e k1 a k2 b hk hl hc hH
  split at h <;> first | (cases h; done) | skip
  rename_i hze
  simp only [Option.some.injEq] at h; subst h
  have ht := hT t hz
  have he := hT e hze
  obtain ⟨i, z, h1, h2, h3, h4, h5⟩ := he.info'
  refine snd_runw (fun ac => Instr.makeSlice t (ac.eval l) (ac.eval c)) (fun ac w => by simp only [execOp, ho]) fun hq B σ ρ ac w hi => ?_
  obtain ⟨q1, rfl, q3, q4⟩ := hq
  have hr := run_make (P := P) w t e i z (ht.slice hk) h1 h4 k1 k2 a a q1 (Int.le_refl _) (by rw [h3]; exact q3) q4
  rw [ev_c hi hl, ev_c hi hc]
  obtain ⟨m1, m2, m3⟩ := made_rd he hze h5 a.toNat σ ρ
  have hm : a ≤ maxLen := by simp [maxLen]; exact q4
  rw [h2] at hr
  have hrow : RowAt (w.alloc (.cells (madeCells z.cells (a.toNat * (T e).size)) e)) e (T e).size (.slice (some ⟨w.heap.size, 0, none⟩) a.toNat a.toNat) (List.replicate a.toNat (T e).zero).length (madeCells z.cells (a.toNat * (T e).size)).toList := by
    rw [List.length_replicate]
    refine ⟨by simp [size_madeCells], ?_⟩
    by_cases h0 : a.toNat = 0
    · left; exact ⟨h0, _, by rw [h0]⟩
    · right
      obtain ⟨n, hn⟩ := Nat.exists_eq_succ_of_ne_zero h0
      refine ⟨w.heap.size, n, _, (0, 0), by rw [hn], heap_alloc_new w _, .inl rfl, by omega, by omega, by rw [size_madeCells, hn], ?_⟩
      rw [List.take_of_length_le (by simp [size_madeCells])]
  have hE : Els σ (T e).size (List.replicate a.toNat (T e).zero) (madeCells z.cells (a.toNat * (T e).size)).toList := by
    refine ⟨by simp [size_madeCells], fun u hu => ?_, fun i x hx => ?_⟩
    · obtain ⟨j, hj, rfl⟩ := List.mem_iff_getElem.1 hu
      simpa using m2 j (by simpa using hj)
    · obtain ⟨hi', rfl⟩ := rep_get hx
      refine ⟨he.zl, fun j d hd => ?_⟩
      have hj := (List.getElem?_eq_some_iff.1 hd).1
      rw [he.zl] at hj
      have hlt : i * (T e).size + j < a.toNat * (T e).size := by
        have : (i + 1) * (T e).size ≤ a.toNat * (T e).size := Nat.mul_le_mul_right _ hi'
        rw [Nat.succ_mul] at this; omega
      have hg : (repA a.toNat ((T e).zero.map zA))[i * (T e).size + j]? = some (zA d) := by
        have hlt2 : i * (T e).size + j < (repA a.toNat ((T e).zero.map zA)).length := by rw [repA_len, List.length_map, he.zl]; exact hlt
        obtain ⟨x, hx2⟩ : ∃ x, (repA a.toNat ((T e).zero.map zA))[i * (T e).size + j]? = some x := ⟨_, List.getElem?_eq_getElem hlt2⟩
        obtain ⟨_, g2⟩ := repA_get _ _ _ _ hx2
        rw [hx2]
        rw [List.length_map, he.zl, Nat.mul_comm, Nat.mul_add_mod, Nat.mod_eq_of_lt hj] at g2
        simp only [List.getElem?_map, hd, Option.map_some] at g2
        exact g2.symm
      have := zA_rd (m3 _ _ hg)
      simpa [List.getD_eq_getElem?_getD, Array.getD_eq_getD_getElem?] using this
  obtain ⟨ρ', hi', hm'⟩ := hi.row_new (m := nm) hH hrow hE (grownBy_alloc' w _) (fun b hb => by
    cases hh : a.toNat with
    | zero => rw [hh] at hb; simp [rowBlock] at hb
    | succ n => rw [hh] at hb; simp [rowBlock] at hb; omega)
  exact ⟨_, _, σ, ρ', hr, hi', .s hm' (Nat.le_refl _) (fun _ => rfl) rfl⟩

/-! ### Stores into a row -/
def flatD : D → Bool | .t _ => false | _ => true
def pStoreE (T : Tab) (t : TypeId) (α : AS) (x y : Operand) : Option PR :=
  match α.ev x with
  | .e n k sz i j => match α.H n, toD (evT T α t y) with
    | some (.row e sz' k' xs), some d => match atO xs i with
      | some x0 => if k = k' ∧ sz = sz' ∧ flatD d = true ∧ d.cells.length = (T t).size ∧ j + d.cells.length ≤ sz then some ⟨True, .d (.c (.bool false)), [n], [(n, some (.row e sz k (xs.set i (putCells x0 j d.cells))))]⟩ else none
      | none => none
    | _, _ => none
  | _ => none
theorem rd_cells {σ : Sig} {d : D} {v : Value} (h : Rd σ d v) (hf : flatD d = true) : v.cells.size = d.cells.length ∧ (∀ u ∈ v.cells.toList, u.oneCell' = true) ∧ ∀ (j : Nat) (c : D), d.cells[j]? = some c → Rd σ c (v.cells.getD j undef) := by
  have one : ∀ {d : D} {v : Value}, v.oneCell' = true → d.cells = [d] → Rd σ d v → v.cells.size = d.cells.length ∧ (∀ u ∈ v.cells.toList, u.oneCell' = true) ∧ ∀ (j : Nat) (c : D), d.cells[j]? = some c → Rd σ c (v.cells.getD j undef) := by
    intro d v ho hd hr
    have hv : v.cells = #[v] := by cases v <;> simp_all [Value.cells, Value.oneCell']
    rw [hv, hd]
    refine ⟨rfl, fun u hu => by simp at hu; subst hu; exact ho, fun j c hc => ?_⟩
    cases j with
    | zero => simp at hc; subst hc; exact hr
    | succ j => simp at hc
  cases h with
  | c v hv => exact one hv rfl (.c v hv)
  | nil sz a c => exact one rfl rfl (.nil sz a c)
  | l u hn hc hz h1 ho h2 => exact one rfl rfl (.l u hn hc hz h1 ho h2)
  | p u h1 ho h2 => exact one rfl rfl (.p u h1 ho h2)
  | @g cs us hl ho h => exact ⟨hl, fun u hu => by
      obtain ⟨j, hj, rfl⟩ := List.mem_iff_getElem.1 hu
      exact ho j (by simpa [Value.cells] using hj), h⟩
  | t hl h => simp [flatD] at hf
  | f hl h => exact one rfl rfl (.f hl h)
theorem pStoreE_ok (hT : ∀ t, (T t).size ≠ 0 → TOk P t (T t)) {o : Oper} {α : AS} {t : TypeId} {x y : Operand} (ho : o.op = .store t x y) (hd0 : o.dst = none) (hz : (T t).size ≠ 0)
    {pr : PR} (h : pStoreE T t α x y = some pr) : Snd P o α pr := by
  unfold pStoreE at h
  split at h <;> first | (cases h; done) | skip
  rename_i n k sz i j hx
  split at h <;> first | (cases h; done) | skip
  rename_i e sz' k' xs d hH hd
  split at h <;> first | (cases h; done) | skip
  rename_i x0 hx0
  split at h <;> first | (cases h; done) | skip
  rename_i hq
  obtain ⟨rfl, rfl, hfl, hl, hfit⟩ := hq
  simp only [Option.some.injEq] at h; subst h
  intro B a w hdd ⟨σ, ρ, hi⟩ hc
  have hrd := toD_rd hd (evT_rd (T := T) hi t y)
  obtain ⟨c1, c2, c3⟩ := rd_cells hrd hfl
  obtain ⟨v0, us, q1, q2, q3, q4⟩ := (hi.hok n _ hH).row_els
  have hx2 := ev_rd hi x
  rw [hx] at hx2
  have hi_lt := (List.getElem?_eq_some_iff.1 hx0).1
  have hmul : (i + 1) * sz ≤ xs.length * sz := Nat.mul_le_mul_right _ hi_lt
  rw [Nat.succ_mul] at hmul
  have hxe : ∃ g, rowBlock v0 = some g ∧ a.eval x = .pointer (some ⟨g, i * sz + j, none⟩) := by
    generalize a.eval x = v at hx2
    cases hx2 with | e hr hk hv hs =>
    rw [q1] at hr
    obtain ⟨rfl, rfl⟩ : k = _ ∧ v0 = _ := by simpa using hr
    exact hv rfl
  obtain ⟨g, hg, hxe⟩ := hxe
  obtain ⟨h1, ⟨h2, aa, rfl⟩ | ⟨g', cap, cur, fr, rfl, p1, p2, p3, p4, p5, p6⟩⟩ := q2
  · simp [rowBlock] at hg
  simp only [rowBlock, Option.some.injEq] at hg
  subst hg
  have hN : xs.length * sz ≤ (cap + 1) * sz := Nat.mul_le_mul_right _ p3
  have hus : us.length = xs.length * sz := h1
  have hcl : (a.eval y).cells.toList.length = d.cells.length := by simpa using c1
  have hfit2 : i * sz + j + (a.eval y).cells.toList.length ≤ cur.size := by omega
  have hst := run_storeCells_fr (P := P) g' (i * sz + j) e fr (a.eval y).cells.toList 0 cur w p1 (by omega) (by rcases p2 with rfl | rfl <;> intro q hq <;> simp <;> omega) c2
  rw [Nat.add_zero] at hst
  have hputl : (putCells cur.toList (i * sz + j) (a.eval y).cells.toList).length = cur.size := by rw [putCells_length (by simp; omega)]; simp
  have htake : (putCells cur.toList (i * sz + j) (a.eval y).cells.toList).take (xs.length * sz) = putCells us (i * sz + j) (a.eval y).cells.toList := by
    apply List.ext_getElem?
    intro q
    rw [List.getElem?_take]
    split
    · rename_i hq
      rw [putCells_get (by simpa using hfit2), putCells_get (by omega), ← p6, List.getElem?_take, if_pos hq]
    · rename_i hq
      rw [List.getElem?_eq_none]
      rw [putCells_length (by omega)]
      omega
  have hrow : RowAt (w.setRow g' (putCells cur.toList (i * sz + j) (a.eval y).cells.toList).toArray) e sz (.slice (some ⟨g', 0, none⟩) xs.length (cap + 1)) xs.length (putCells us (i * sz + j) (a.eval y).cells.toList) := by
    refine ⟨by rw [putCells_length (by omega)]; exact h1, .inr ⟨g', cap, _, fr, rfl, setRow_heap w g' cur _ e fr p1, ?_, p3, p4, ?_, ?_⟩⟩
    · simp only [List.size_toArray, hputl]; exact p2
    · simp only [List.size_toArray, hputl]; exact p5
    · exact htake
  have hE : Els σ sz (xs.set i (putCells x0 j d.cells)) (putCells us (i * sz + j) (a.eval y).cells.toList) := by
    refine ⟨by rw [putCells_length (by omega), List.length_set]; exact h1, fun u hu => ?_, fun i' x' hx' => ?_⟩
    · simp only [putCells, List.mem_append] at hu
      rcases hu with (hu | hu) | hu
      · exact q3.2.1 u (List.mem_of_mem_take hu)
      · exact c2 u hu
      · exact q3.2.1 u (List.mem_of_mem_drop hu)
    · have hx0l := (q3.2.2 i x0 hx0).1
      have hi'_lt := (List.getElem?_eq_some_iff.1 hx').1
      rw [List.length_set] at hi'_lt
      rw [List.getElem?_set] at hx'
      have hmul' : (i' + 1) * sz ≤ xs.length * sz := Nat.mul_le_mul_right _ hi'_lt
      rw [Nat.succ_mul] at hmul'
      split at hx'
      · rename_i hii
        subst hii
        simp only [hi_lt, if_true, Option.some.injEq] at hx'
        subst hx'
        refine ⟨by rw [putCells_length (by omega)]; exact hx0l, fun q dq hdq => ?_⟩
        have hql := (List.getElem?_eq_some_iff.1 hdq).1
        rw [putCells_length (by omega)] at hql
        rw [putCells_get (by omega)] at hdq
        rw [List.getD_eq_getElem?_getD, putCells_get (by omega)]
        by_cases e1 : q < j
        · rw [if_pos e1] at hdq
          rw [if_pos (by omega), ← List.getD_eq_getElem?_getD]
          exact (q3.2.2 i x0 hx0).2 q dq hdq
        · rw [if_neg e1] at hdq
          rw [if_neg (by omega)]
          by_cases e2 : q < j + d.cells.length
          · rw [if_pos e2] at hdq
            rw [if_pos (by omega), show i * sz + q - (i * sz + j) = q - j by omega]
            have := c3 _ _ hdq
            simpa [Array.getD_eq_getD_getElem?] using this
          · rw [if_neg e2] at hdq
            rw [if_neg (by omega), ← List.getD_eq_getElem?_getD]
            exact (q3.2.2 i x0 hx0).2 q dq hdq
      · rename_i hii
        refine ⟨(q3.2.2 i' x' hx').1, fun q dq hdq => ?_⟩
        have hql := (List.getElem?_eq_some_iff.1 hdq).1
        rw [(q3.2.2 i' x' hx').1] at hql
        rw [List.getD_eq_getElem?_getD, putCells_get (by omega)]
        have hne : i' * sz + q < i * sz + j ∨ ¬ i' * sz + q < i * sz + j + (a.eval y).cells.toList.length := by
          rcases Nat.lt_or_gt_of_ne hii with h | h
          · right
            have : (i + 1) * sz ≤ i' * sz := Nat.mul_le_mul_right _ h
            rw [Nat.succ_mul] at this
            omega
          · left
            have : (i' + 1) * sz ≤ i * sz := Nat.mul_le_mul_right _ h
            rw [Nat.succ_mul] at this
            omega
        rcases hne with h | h
        · rw [if_pos h, ← List.getD_eq_getElem?_getD]; exact (q3.2.2 i' x' hx').2 q dq hdq
        · rw [if_neg (by omega), if_neg h, ← List.getD_eq_getElem?_getD]; exact (q3.2.2 i' x' hx').2 q dq hdq
  have hnone : ∀ o, σ g' o = none := (hi.named q1 (by simp [Loc.block, rowBlock])).2
  have hi' : Inv B σ ρ ⟨α.fr, setH α.H n (some (.row e sz k (xs.set i (putCells x0 j d.cells))))⟩ a (w.setRow g' (putCells cur.toList (i * sz + j) (a.eval y).cells.toList).toArray) := by
    refine hi.grow1 n (setRow_grown w g' _) (fun _ _ => rfl) (fun b o u hb hs => by rw [hi.new hb] at hs; cases hs) (fun _ _ => rfl) (fun m hm => setH_ne _ _ hm) (Names.le_refl ρ) (fun e' he => ?_) (fun he => ?_) (fun l b g1 g2 => .inr ⟨l, g1, g2⟩) (fun b hb => ?_)
    · rw [setH_same] at he
      cases he
      exact .of_row q1 (by rw [List.length_set]; exact hrow) hE fun g hg o => by
        simp only [rowBlock, Option.some.injEq] at hg; subst hg; exact hnone o
    · rw [setH_same] at he; cases he
    · simp only [Option.some.injEq] at hb; subst hb
      exact ⟨_, q1, by simp [Loc.block, rowBlock]⟩
  refine Oper.skip_run (w' := w.setRow g' (putCells cur.toList (i * sz + j) (a.eval y).cells.toList).toArray) _ ?_ ⟨σ, ρ, ?_⟩
  · have hs : (a.eval y).cells.size = (T t).size := by omega
    simp only [execOp, ho, hxe, Instr.storeAt, Instr.sureAddr, Sem.run_bind, Sem.run_pure, Result.andThen_ok, storeVar, run_sizeOf' (hT t hz), hs, ne_eq, not_true_eq_false, if_false]
    rw [hst]
    rfl
  · have e1 : a.put o.dst undef = a := by rw [hd0]; rfl
    have e2 : putF α.fr o.dst (AV.d (.c (.bool false))) = α.fr := by rw [hd0]; rfl
    rw [e1]
    show Inv B σ ρ ⟨putF α.fr o.dst (AV.d (.c (.bool false))), _⟩ _ _
    rw [e2]
    exact hi'

def stX (x : AV) (a b : Option PR) : Option PR := match x with | .e .. => a | _ => b
def pStoreX (T : Tab) (t : TypeId) (α : AS) (x y : Operand) : Option PR := stX (α.ev x) (pStoreE T t α x y) (pStore T t α x y)
theorem pStoreX_ok (hT : ∀ t, (T t).size ≠ 0 → TOk P t (T t)) {o : Oper} {α : AS} {t : TypeId} {x y : Operand} (ho : o.op = .store t x y) (hd0 : o.dst = none) (hz : (T t).size ≠ 0)
    {pr : PR} (h : pStoreX T t α x y = some pr) : Snd P o α pr := by
  unfold pStoreX stX at h
  split at h
  · exact pStoreE_ok hT ho hd0 hz h
  · exact pStore_ok hT ho hd0 hz h
end Go.AM
