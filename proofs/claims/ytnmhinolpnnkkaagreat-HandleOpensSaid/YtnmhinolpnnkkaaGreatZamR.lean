/- The abstract machine, part R: arguments that are read as data. -/
import Derived.Test.YtnmhinolpnnkkaaGreatZam21
import Derived.ProofKit
import Derived.OpenShut
set_option linter.unusedSimpArgs false
set_option linter.unusedVariables false
namespace Go.AM
open Go.RowKit Go.Lib
variable {P : Program} {T : Tab}

mutual
/-- Cells that are of a type. -/
inductive Wt (T : Tab) : TypeId → List D → Prop
  | bool {t : TypeId} (b : Bool) (hk : (T t).k = .bool) : Wt T t [.c (.bool b)]
  | int {t : TypeId} {k : IntKind} (n : Int) (hk : (T t).k = .int k) (hw : (Lit.int k n).wf = true) : Wt T t [.c (.int k n)]
  | str {t : TypeId} (s : ByteArray) (hk : (T t).k = .str) (hs : s.size ≤ maxLen) : Wt T t [.c (.string s)]
  | slice {t e : TypeId} (xs : List (List D)) (hk : (T t).k = .slice e) (hl : xs.length ≤ maxLen) (h : ∀ x, x ∈ xs → Wt T e x) : Wt T t [.l (T e).size xs]
  | struct {t : TypeId} {fs : List (Nat × TypeId)} {cs : List D} (hk : (T t).k = .struct fs) (h : WtF T (fs.map (·.2)) cs) : Wt T t cs
  | arr {t e : TypeId} {n : Nat} {cs : List D} (hk : (T t).k = .arr n e) (h : WtF T (List.replicate n e) cs) : Wt T t cs
inductive WtF (T : Tab) : List TypeId → List D → Prop
  | nil : WtF T [] []
  | cons {t : TypeId} {ts : List TypeId} {ds cs : List D} (h : Wt T t ds) (r : WtF T ts cs) : WtF T (t :: ts) (ds ++ cs)
end
def cellSig (w : World) : Sig := fun b o => w.cell? ⟨b, o, none⟩
def tiled (T : Tab) : Nat → List (Nat × TypeId) → Nat → Bool
  | o, [], total => o == total
  | o, (off, t) :: r, total => off == o && tiled T (o + (T t).size) r total
def plainT (T : Tab) : Nat → TypeId → Bool
  | 0, _ => false
  | n + 1, t => (T t).size != 0 && match (T t).k with
    | .bool => true
    | .str => true
    | .int _ => true
    | .slice e => plainT T n e
    | .struct fs => tiled T 0 fs (T t).size && fs.all fun f => plainT T n f.2
    | .arr m e => plainT T n e && m * (T e).size == (T t).size
    | _ => false
theorem TOk.cellsOf {t : TypeId} {ti : TI} (h : TOk P t ti) : P.cellsOf t = ti.size := by
  obtain ⟨i, z, h1, h2, _⟩ := h.info'
  simp [Program.cellsOf, h1, h2]
def RdL (σ : Sig) (ds : List D) (cs : List Value) : Prop := ds.length = cs.length ∧ (∀ c ∈ cs, c.oneCell' = true) ∧ ∀ (j : Nat) (d : D), ds[j]? = some d → Rd σ d (cs.getD j undef)
theorem RdL.append {σ : Sig} {ds es : List D} {cs fs : List Value} (h : RdL σ ds cs) (k : RdL σ es fs) : RdL σ (ds ++ es) (cs ++ fs) := by
  refine ⟨by rw [List.length_append, List.length_append, h.1, k.1], fun c hc => ?_, fun j d hd => ?_⟩
  · rcases List.mem_append.1 hc with q | q
    · exact h.2.1 c q
    · exact k.2.1 c q
  · rw [List.getElem?_append] at hd
    rw [List.getD_eq_getElem?_getD, List.getElem?_append]
    split at hd
    · rename_i q
      rw [if_pos (by rw [← h.1]; exact q), ← List.getD_eq_getElem?_getD]; exact h.2.2 j d hd
    · rename_i q
      rw [if_neg (by rw [← h.1]; exact q), ← List.getD_eq_getElem?_getD, ← h.1]; exact k.2.2 _ d hd
theorem RdL.one {σ : Sig} {d : D} {v : Value} (h : Rd σ d v) (ho : v.oneCell' = true) : RdL σ [d] [v] :=
  ⟨rfl, fun c hc => by simp at hc; subst hc; exact ho, fun j e he => by
    cases j with
    | zero => simp at he; subst he; exact h
    | succ j => simp at he⟩
section
variable {H : Type} {enc : TypeId × Value → H} {w : World} {spare : Nat → Bool} {held : Bool}
/-- Fields, one behind the other. -/
theorem rd_fields {σ : Sig} {cs : List Value} {rd : TypeId → List Value → Prop} (hrd : ∀ t vs, rd t vs → ∃ ds, Wt T t ds ∧ RdL σ ds vs) : ∀ (fs : List (Nat × TypeId)) (o : Nat), tiled T o fs cs.length = true → o ≤ cs.length →
    (∀ f ∈ fs, rd f.2 ((cs.drop f.1).take (T f.2).size)) → ∃ ds, WtF T (fs.map (·.2)) ds ∧ RdL σ ds (cs.drop o)
  | [], o, ht, ho, _ => by
    simp only [tiled, beq_iff_eq] at ht
    subst ht
    exact ⟨[], .nil, by simp [RdL]⟩
  | (off, t) :: r, o, ht, ho, h => by
    simp only [tiled, Bool.and_eq_true, beq_iff_eq] at ht
    obtain ⟨rfl, ht⟩ := ht
    obtain ⟨ds, h1, h2⟩ := hrd _ _ (h (off, t) (by simp))
    have hle : off + (T t).size ≤ cs.length := by
      have mono : ∀ (fs : List (Nat × TypeId)) (o n : Nat), tiled T o fs n = true → o ≤ n := by
        intro fs
        induction fs with
        | nil => intro o n h; simp only [tiled, beq_iff_eq] at h; omega
        | cons f r ih => intro o n h; simp only [tiled, Bool.and_eq_true, beq_iff_eq] at h; have := ih _ _ h.2; omega
      exact mono _ _ _ ht
    obtain ⟨es, h3, h4⟩ := rd_fields hrd r (off + (T t).size) ht hle fun f hf => h f (by simp [hf])
    refine ⟨ds ++ es, .cons h1 h3, ?_⟩
    have : cs.drop off = (cs.drop off).take (T t).size ++ cs.drop (off + (T t).size) := by
      rw [← List.drop_drop, List.take_append_drop]
    rw [this]
    exact h2.append h4
end
section
variable {H : Type} {enc : TypeId × Value → H} {w : World} {spare : Nat → Bool} {held : Bool}
theorem tiled_rep (T : Tab) (e : TypeId) : ∀ n k, tiled T (k * (T e).size) ((List.range' k n).map fun i => (i * (T e).size, e)) ((k + n) * (T e).size) = true
  | 0, k => by simp [tiled]
  | n + 1, k => by
    have := tiled_rep T e n (k + 1)
    rw [List.range'_succ, List.map_cons, tiled]
    simp only [beq_self_eq_true, Bool.true_and]
    rw [show k * (T e).size + (T e).size = (k + 1) * (T e).size by rw [Nat.succ_mul], show k + (n + 1) = k + 1 + n by omega]
    exact this
/-- What is read as plain data is data of the machine. -/
theorem rd_of_trod (hT : ∀ t, (T t).size ≠ 0 → TOk P t (T t)) : ∀ (n fuel : Nat) (t : TypeId) (cs : List Value) (x : DataW H × List MemPlace), plainT T n t = true → DataW.trod enc P w 0 spare held fuel t cs = some x →
    ∃ ds, Wt T t ds ∧ RdL (cellSig w) ds cs
  | 0, fuel, t, cs, x, hp, _ => by simp [plainT] at hp
  | n + 1, fuel, t, cs, x, hp, h => by
    unfold plainT at hp
    rw [Bool.and_eq_true] at hp
    obtain ⟨hz, hp⟩ := hp
    have hz' : (T t).size ≠ 0 := by simpa using hz
    have ht := hT t hz'
    split at hp
    · rename_i hk
      obtain ⟨b, rfl, _⟩ := DataW.trod_bool (ht.bool hk) h
      exact ⟨[.c (.bool b)], .bool b hk, .one (.c _ rfl) rfl⟩
    · rename_i hk
      obtain ⟨s, rfl, _, hs⟩ := DataW.trod_string (ht.str hk) h
      exact ⟨[.c (.string s)], .str s hk hs, .one (.c _ rfl) rfl⟩
    · rename_i k hk
      obtain ⟨m, rfl, _, hw⟩ := DataW.trod_int (ht.int hk) h
      exact ⟨[.c (.int k m)], .int m hk hw, .one (.c _ rfl) rfl⟩
    · rename_i e hk
      have hze : (T e).size ≠ 0 := by
        cases n with
        | zero => simp [plainT] at hp
        | succ n => unfold plainT at hp; rw [Bool.and_eq_true] at hp; simpa using hp.1
      have he := hT e hze
      rcases DataW.trod_slice (ht.slice hk) h with ⟨rfl, _⟩ | ⟨a, len, cap, elems, rest, m, _, rfl, _, _, hlc, hcm, hel, hget, _, _⟩
      · exact ⟨[.l (T e).size []], .slice [] hk (by simp) (by simp), .one (.nil _ _ _) rfl⟩
      · rw [he.cellsOf] at hget
        have each : ∀ i, i < len → ∃ (ds : List D) (vs : List Value), Wt T e ds ∧ RdL (cellSig w) ds vs ∧ vs.length = (T e).size ∧ ∀ j, j < (T e).size → w.cell? ((a.add (i * (T e).size)).add j) = vs[j]? := by
          intro i hi
          have h1 := hget i hi
          rw [List.getElem?_eq_getElem (by omega : i < elems.length)] at h1
          obtain ⟨vs, h2, h3⟩ := Option.bind_eq_some_iff.1 h1
          obtain ⟨_, h4, h5⟩ := World.cells?_some h2
          obtain ⟨ds, h6, h7⟩ := rd_of_trod hT n _ e vs _ hp h3
          exact ⟨ds, vs, h6, h7, h4, h5⟩
        by_cases h0 : len = 0
        · subst h0
          exact ⟨[.l (T e).size []], .slice [] hk (by simp) (by simp), .one (.nil _ _ _) rfl⟩
        · classical
          have ha : a.spot = none := by
            obtain ⟨ds, vs, _, h2, h3, h4⟩ := each 0 (by omega)
            have h5 := h4 0 (by omega)
            rw [List.getElem?_eq_getElem (by omega : 0 < vs.length)] at h5
            simpa [Addr.add] using World.cell?_spot h5
          obtain ⟨b, o, sp⟩ := a
          simp only at ha
          subst ha
          have each2 : ∀ i, i < len → ∃ p : List D × List Value, Wt T e p.1 ∧ RdL (cellSig w) p.1 p.2 ∧ p.2.length = (T e).size ∧ ∀ j, j < (T e).size → w.cell? ⟨b, o + (i * (T e).size + j), none⟩ = p.2[j]? := by
            intro i hi
            obtain ⟨ds, vs, q1, q2, q3, q4⟩ := each i hi
            refine ⟨(ds, vs), q1, q2, q3, fun j hj => ?_⟩
            have h9 := q4 j hj
            rw [Addr.add_mid, Addr.add_mid, Nat.add_assoc] at h9
            exact h9
          let f : Nat → List D := fun i => if hi : i < len then (each2 i hi).choose.1 else []
          let g : Nat → List Value := fun i => if hi : i < len then (each2 i hi).choose.2 else []
          have fg : ∀ i, i < len → Wt T e (f i) ∧ RdL (cellSig w) (f i) (g i) ∧ (g i).length = (T e).size ∧ ∀ j, j < (T e).size → w.cell? ⟨b, o + (i * (T e).size + j), none⟩ = (g i)[j]? := by
            intro i hi
            have := (each2 i hi).choose_spec
            simp only [f, g, dif_pos hi]
            exact this
          refine ⟨[.l (T e).size ((List.range len).map f)], .slice _ hk (by simp; omega) fun x hx => ?_, .one (.l (fun i j => (g i).getD j undef) (by simp) hlc (fun i x hx => ?_) (fun i j hi hj => ?_) (fun i j hi hj => ?_) fun i x hx j d hd => ?_) rfl⟩
          · simp only [List.mem_map, List.mem_range] at hx
            obtain ⟨i, hi, rfl⟩ := hx
            exact (fg i hi).1
          · simp only [List.getElem?_map, Option.map_eq_some_iff] at hx
            obtain ⟨i', hi', rfl⟩ := hx
            have hlt : i < len := by have := (List.getElem?_eq_some_iff.1 hi').1; simpa using this
            rw [List.getElem?_range hlt] at hi'
            cases hi'
            obtain ⟨_, q2, q3, _⟩ := fg i hlt
            rw [q2.1, q3]
          · obtain ⟨_, q2, q3, q4⟩ := fg i hi
            show w.cell? _ = _
            rw [q4 j hj, List.getElem?_eq_getElem (by omega), List.getD_eq_getElem?_getD, List.getElem?_eq_getElem (by omega)]
            rfl
          · obtain ⟨_, q2, q3, q4⟩ := fg i hi
            rw [List.getD_eq_getElem?_getD, List.getElem?_eq_getElem (by omega)]
            exact q2.2.1 _ (List.getElem_mem _)
          · simp only [List.getElem?_map, Option.map_eq_some_iff] at hx
            obtain ⟨i', hi', rfl⟩ := hx
            have hlt : i < len := by have := (List.getElem?_eq_some_iff.1 hi').1; simpa using this
            rw [List.getElem?_range hlt] at hi'
            cases hi'
            exact (fg i hlt).2.1.2.2 j d hd
    · rename_i fs hk
      rw [Bool.and_eq_true, List.all_eq_true] at hp
      obtain ⟨gs, hu, hgs⟩ := ht.struct hk
      obtain ⟨xs, m, _, _, hl, hxl, hx⟩ := DataW.trod_struct hu h
      rw [ht.cellsOf] at hl
      obtain ⟨ds, h1, h2⟩ := rd_fields (T := T) (σ := cellSig w) (cs := cs) (rd := fun t vs => plainT T n t = true ∧ ∃ y, DataW.trod enc P w 0 spare held m t vs = some y) (fun t vs ⟨q1, y, q2⟩ => rd_of_trod hT n m t vs y q1 q2) fs 0 (by rw [hl]; exact hp.1) (Nat.zero_le _) (fun f hf => by
        refine ⟨hp.2 f hf, ?_⟩
        rw [← hgs] at hf
        obtain ⟨fd, hfd, rfl⟩ := List.mem_map.1 hf
        obtain ⟨i, hi, hfi⟩ := List.mem_iff_getElem.1 hfd
        have hsz : (T fd.type).size ≠ 0 := by
          have := hp.2 (fd.offset, fd.type) (by rw [← hgs]; exact List.mem_map.2 ⟨fd, hfd, rfl⟩)
          cases n with
          | zero => simp [plainT] at this
          | succ n => unfold plainT at this; rw [Bool.and_eq_true] at this; simpa using this.1
        have h3 := hx i fd (by rw [← Array.getElem?_toList, List.getElem?_eq_getElem hi, hfi])
        rw [(hT _ hsz).cellsOf, List.getElem?_eq_getElem (by rw [hxl]; simpa using hi)] at h3
        exact ⟨_, h3⟩)
      exact ⟨ds, .struct hk h1, by simpa using h2⟩
    · rename_i mm e hk
      rw [Bool.and_eq_true, beq_iff_eq] at hp
      have hze : (T e).size ≠ 0 := by
        have hp := hp.1
        cases n with
        | zero => simp [plainT] at hp
        | succ n => unfold plainT at hp; rw [Bool.and_eq_true] at hp; simpa using hp.1
      have he := hT e hze
      obtain ⟨xs, m, _, _, hl, hxl, hxs⟩ := DataW.trod_array (ht.arr hk) h
      rw [ht.cellsOf] at hl
      rw [he.cellsOf] at hxs
      obtain ⟨ds, h1, h2⟩ := rd_fields (T := T) (σ := cellSig w) (cs := cs) (rd := fun t vs => plainT T n t = true ∧ ∃ y, DataW.trod enc P w 0 spare held m t vs = some y) (fun t vs ⟨q1, y, q2⟩ => rd_of_trod hT n m t vs y q1 q2)
        ((List.range' 0 mm).map fun i => (i * (T e).size, e)) 0 (by rw [hl, ← hp.2]; simpa using tiled_rep T e mm 0) (Nat.zero_le _) (fun f hf => by
          obtain ⟨i, hi, rfl⟩ := List.mem_map.1 hf
          refine ⟨hp.1, ?_⟩
          have hi' : i < mm := by simpa using hi
          have := hxs i hi'
          rw [List.getElem?_eq_getElem (by omega)] at this
          exact ⟨_, this⟩)
      refine ⟨ds, .arr hk ?_, by simpa using h2⟩
      have e1 : ((List.range' 0 mm).map fun i => (i * (T e).size, e)).map (·.2) = List.replicate mm e := by
        rw [List.map_map]
        apply List.ext_getElem?
        intro j
        simp [List.getElem?_replicate]
        by_cases hj : j < mm <;> simp [hj]
      rw [← e1]; exact h1
    · cases hp
end
end Go.AM
