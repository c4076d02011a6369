/- The abstract machine, part 16: a region in any order that its edges allow. -/
import Derived.Test.YtnmhinolpnnkkaaGreatZam15
set_option linter.unusedSimpArgs false
set_option linter.unusedVariables false
namespace Go.AM
open Go.RowKit Go.Lib
variable {P : Program}

/-- Of the events in a row those that p lets. -/
def selF (p : Nat → Bool) : List (Oper × Ev) → Nat → AS → AS
  | [], _, β => β
  | (o, e) :: r, i, β => selF p r (i + 1) (if p i then e.upd o β else β)

theorem updH_not {n : Nat} : ∀ (wn : List (Nat × Option HE)) (H : Nat → Option HE), n ∉ wn.map (·.1) → updH H wn n = H n
  | [], H, _ => rfl
  | (m, e) :: r, H, h => by
    simp only [List.map_cons, List.mem_cons, not_or] at h
    rw [updH, updH_not r _ h.2, setH_ne _ _ h.1]
theorem updH_in {n : Nat} : ∀ (wn : List (Nat × Option HE)) (H H' : Nat → Option HE), n ∈ wn.map (·.1) → updH H wn n = updH H' wn n
  | [], H, H', h => by simp at h
  | (m, e) :: r, H, H', h => by
    rw [updH, updH]
    by_cases hr : n ∈ r.map (·.1)
    · exact updH_in r _ _ hr
    · have : n = m := by
        simp only [List.map_cons, List.mem_cons] at h
        exact h.resolve_right hr
      subst this
      rw [updH_not r _ hr, updH_not r _ hr, setH_same, setH_same]
theorem putF_not {fr : Nat → AV} {dst : Option Tmp} {x : AV} {t : Nat} (h : dst ≠ some t) : putF fr dst x t = fr t := by
  cases dst with
  | none => rfl
  | some d => simp only [putF]; rw [if_neg]; intro e; exact h (by rw [e])
theorem putF_in {fr fr' : Nat → AV} {dst : Option Tmp} {x : AV} {t : Nat} (h : dst = some t) : putF fr dst x t = putF fr' dst x t := by
  subst h; simp [putF]

theorem selF_fr {t : Nat} : ∀ (l : List (Oper × Ev)) (p p' : Nat → Bool) (i : Nat) (β β' : AS), (∀ (k : Nat) (o : Oper) (e : Ev), l[k]? = some (o, e) → o.dst = some t → p (i + k) = p' (i + k)) → β.fr t = β'.fr t →
    (selF p l i β).fr t = (selF p' l i β').fr t
  | [], p, p', i, β, β', _, h => h
  | (o, e) :: r, p, p', i, β, β', hp, h => by
    rw [selF, selF]
    refine selF_fr r p p' (i + 1) _ _ (fun k o' e' hk hd => ?_) ?_
    · have := hp (k + 1) o' e' (by simpa using hk) hd
      rw [show i + 1 + k = i + (k + 1) by omega]; exact this
    · by_cases hd : o.dst = some t
      · have h0 := hp 0 o e rfl hd
        simp only [Nat.add_zero] at h0
        rw [h0]
        split
        · exact putF_in hd
        · exact h
      · have e1 : (if p i = true then e.upd o β else β).fr t = β.fr t := by split <;> first | exact putF_not hd | rfl
        have e2 : (if p' i = true then e.upd o β' else β').fr t = β'.fr t := by split <;> first | exact putF_not hd | rfl
        rw [e1, e2, h]
theorem selF_H {n : Nat} : ∀ (l : List (Oper × Ev)) (p p' : Nat → Bool) (i : Nat) (β β' : AS), (∀ (k : Nat) (o : Oper) (e : Ev), l[k]? = some (o, e) → n ∈ e.wn.map (·.1) → p (i + k) = p' (i + k)) → β.H n = β'.H n →
    (selF p l i β).H n = (selF p' l i β').H n
  | [], p, p', i, β, β', _, h => h
  | (o, e) :: r, p, p', i, β, β', hp, h => by
    rw [selF, selF]
    refine selF_H r p p' (i + 1) _ _ (fun k o' e' hk hd => ?_) ?_
    · have := hp (k + 1) o' e' (by simpa using hk) hd
      rw [show i + 1 + k = i + (k + 1) by omega]; exact this
    · by_cases hd : n ∈ e.wn.map (·.1)
      · have h0 := hp 0 o e rfl hd
        simp only [Nat.add_zero] at h0
        rw [h0]
        split
        · exact updH_in _ _ _ hd
        · exact h
      · have e1 : (if p i = true then e.upd o β else β).H n = β.H n := by split <;> first | exact updH_not _ _ hd | rfl
        have e2 : (if p' i = true then e.upd o β' else β').H n = β'.H n := by split <;> first | exact updH_not _ _ hd | rfl
        rw [e1, e2, h]
/-- Behind the last writer. -/
theorem selF_last_fr {t : Nat} {o : Oper} {e : Ev} : ∀ (l : List (Oper × Ev)) (p : Nat → Bool) (i k : Nat) (β γ : AS), l[k]? = some (o, e) → o.dst = some t → p (i + k) = true →
    (∀ (k' : Nat) (o' : Oper) (e' : Ev), k < k' → l[k']? = some (o', e') → o'.dst = some t → p (i + k') = false) → (selF p l i β).fr t = (e.upd o γ).fr t
  | [], p, i, k, β, γ, h, _, _, _ => by simp at h
  | (o1, e1) :: r, p, i, 0, β, γ, h, hd, hp, hl => by
    simp only [List.getElem?_cons_zero, Option.some.injEq, Prod.mk.injEq] at h
    obtain ⟨rfl, rfl⟩ := h
    rw [selF]
    simp only [Nat.add_zero] at hp
    rw [hp, if_pos rfl]
    have := selF_fr (t := t) r p (fun _ => false) (i + 1) (e1.upd o1 β) (e1.upd o1 γ) (fun k o' e' hk hd' => by
      have := hl (k + 1) o' e' (by omega) (by simpa using hk) hd'
      rw [show i + 1 + k = i + (k + 1) by omega]; exact this) (putF_in hd)
    rw [this]
    have nil : ∀ (r : List (Oper × Ev)) (i : Nat) (β : AS), selF (fun _ => false) r i β = β := by
      intro r
      induction r with
      | nil => intro i β; rfl
      | cons x r ih => intro i β; obtain ⟨o, e⟩ := x; rw [selF]; exact ih _ _
    rw [nil]
  | (o1, e1) :: r, p, i, k + 1, β, γ, h, hd, hp, hl => by
    rw [selF]
    exact selF_last_fr r p (i + 1) k _ γ (by simpa using h) hd (by rw [show i + 1 + k = i + (k + 1) by omega]; exact hp) fun k' o' e' hk hk' hd' => by
      have := hl (k' + 1) o' e' (by omega) (by simpa using hk') hd'
      rw [show i + 1 + k' = i + (k' + 1) by omega]; exact this
theorem selF_last_H {n : Nat} {o : Oper} {e : Ev} : ∀ (l : List (Oper × Ev)) (p : Nat → Bool) (i k : Nat) (β γ : AS), l[k]? = some (o, e) → n ∈ e.wn.map (·.1) → p (i + k) = true →
    (∀ (k' : Nat) (o' : Oper) (e' : Ev), k < k' → l[k']? = some (o', e') → n ∈ e'.wn.map (·.1) → p (i + k') = false) → (selF p l i β).H n = (e.upd o γ).H n
  | [], p, i, k, β, γ, h, _, _, _ => by simp at h
  | (o1, e1) :: r, p, i, 0, β, γ, h, hd, hp, hl => by
    simp only [List.getElem?_cons_zero, Option.some.injEq, Prod.mk.injEq] at h
    obtain ⟨rfl, rfl⟩ := h
    rw [selF]
    simp only [Nat.add_zero] at hp
    rw [hp, if_pos rfl]
    have := selF_H (n := n) r p (fun _ => false) (i + 1) (e1.upd o1 β) (e1.upd o1 γ) (fun k o' e' hk hd' => by
      have := hl (k + 1) o' e' (by omega) (by simpa using hk) hd'
      rw [show i + 1 + k = i + (k + 1) by omega]; exact this) (updH_in _ _ _ hd)
    rw [this]
    have nil : ∀ (r : List (Oper × Ev)) (i : Nat) (β : AS), selF (fun _ => false) r i β = β := by
      intro r
      induction r with
      | nil => intro i β; rfl
      | cons x r ih => intro i β; obtain ⟨o, e⟩ := x; rw [selF]; exact ih _ _
    rw [nil]
  | (o1, e1) :: r, p, i, k + 1, β, γ, h, hd, hp, hl => by
    rw [selF]
    exact selF_last_H r p (i + 1) k _ γ (by simpa using h) hd (by rw [show i + 1 + k = i + (k + 1) by omega]; exact hp) fun k' o' e' hk hk' hd' => by
      have := hl (k' + 1) o' e' (by omega) (by simpa using hk') hd'
      rw [show i + 1 + k' = i + (k' + 1) by omega]; exact this

theorem Run.length {N : Nat} {ops : Array Oper} {l : List Oper} {es : List Ev} {α α' : AS} (h : Run P N ops l es α α') : es.length = l.length := by
  induction h with
  | nil => rfl
  | cons _ _ ih => simp [ih]
theorem Run.at {N : Nat} {ops : Array Oper} {l : List Oper} {es : List Ev} {α α' : AS} (h : Run P N ops l es α α') : ∀ (i0 k : Nat) (o : Oper) (e : Ev), l[k]? = some o → es[k]? = some e →
    EvOk P N ops o e (selF (fun j => decide (j < i0 + k)) (l.zip es) i0 α) := by
  have nil : ∀ (r : List (Oper × Ev)) (p : Nat → Bool) (i : Nat) (β : AS), (∀ k, i ≤ k → p k = false) → selF p r i β = β := by
    intro r p
    induction r with
    | nil => intro i β _; rfl
    | cons x r ih => intro i β hp; obtain ⟨o, e⟩ := x; rw [selF, hp i (Nat.le_refl _)]; exact ih _ _ fun k hk => hp k (by omega)
  induction h with
  | nil => intro i0 k o e h _; simp at h
  | @cons o1 r e1 es α α' h k ih =>
    intro i0 k o e ho he
    cases k with
    | zero =>
      simp only [List.getElem?_cons_zero, Option.some.injEq] at ho he
      subst ho; subst he
      rw [nil _ _ _ _ (fun k hk => by simp; omega)]
      exact h
    | succ k =>
      have := ih (i0 + 1) k o e (by simpa using ho) (by simpa using he)
      rw [List.zip_cons_cons, selF]
      rw [show i0 + 1 + k = i0 + (k + 1) by omega] at this
      rw [if_pos (by simp)]
      exact this
theorem Run.all {N : Nat} {ops : Array Oper} {l : List Oper} {es : List Ev} {α α' : AS} (h : Run P N ops l es α α') : ∀ (i0 : Nat) (p : Nat → Bool), (∀ k, i0 ≤ k → k < i0 + l.length → p k = true) → selF p (l.zip es) i0 α = α' := by
  induction h with
  | nil => intro _ _ _; rfl
  | cons h k ih =>
    intro i0 p hp
    rw [List.zip_cons_cons, selF, if_pos (hp i0 (Nat.le_refl _) (by simp))]
    exact ih (i0 + 1) p fun k hk hk' => hp k (by omega) (by simp; omega)

/-! ### The edges -/
def anc (ops : Array Oper) : Nat → Nat → Nat → Bool
  | 0, _, _ => false
  | f + 1, j, i => match ops[j]? with
    | none => false
    | some o => o.after.any fun e => Region.binds .any e && (e.on == i || anc ops f e.on i)
def opT (ops : Array Oper) (o : Oper) : List Tmp := (o.op.operands.toList.filterMap fun | .tmp t => some t | _ => none) ++ (guardD ops o).toList
def meets (a b : List Nat) : Bool := a.any fun x => b.contains x
/-- Do two operations touch what one of them writes? -/
def clash (ops : Array Oper) (o o' : Oper) (t t' : List Nat × List Nat) : Bool :=
  meets o.dst.toList (opT ops o') || meets o'.dst.toList (opT ops o) || meets o.dst.toList o'.dst.toList ||
  meets t.2 t'.1 || meets t'.2 t.1 || meets t.2 t'.2
def okReg (N : Nat) (ops : Array Oper) (tr : Tr) : Bool :=
  tr.length == ops.size &&
  (List.range ops.size).all fun j => match ops[j]?, tr[j]? with
    | some o', some t' => (o'.after.all fun e => !Region.binds .any e || decide (e.on < j)) && ((guardD ops o').all fun d => decide (d < N)) &&
      (List.range j).all fun i => match ops[i]?, tr[i]? with
        | some o, some t => !clash ops o o' t t' || anc ops ops.size j i
        | _, _ => false
    | _, _ => false

theorem meets_of {a b : List Nat} {x : Nat} (h1 : x ∈ a) (h2 : x ∈ b) : meets a b = true := by
  unfold meets
  rw [List.any_eq_true]
  exact ⟨x, h1, by simpa using h2⟩

def Closed (ops : Array Oper) (listed : Array Bool) : Prop := ∀ (j : Nat) (o : Oper), listed.getD j false = true → ops[j]? = some o → ∀ e ∈ o.after, Region.binds .any e = true → listed.getD e.on false = true
theorem anc_listed {ops : Array Oper} {listed : Array Bool} (hc : Closed ops listed) : ∀ (f j i : Nat), listed.getD j false = true → anc ops f j i = true → listed.getD i false = true
  | 0, j, i, _, h => by simp [anc] at h
  | f + 1, j, i, hj, h => by
    unfold anc at h
    cases ho : ops[j]? with
    | none => simp [ho] at h
    | some o =>
      simp only [ho, Array.any_eq_true'] at h
      obtain ⟨e, he, h1⟩ := h
      simp only [Bool.and_eq_true, Bool.or_eq_true, beq_iff_eq] at h1
      have h2 := hc j o hj ho e he h1.1
      rcases h1.2 with h3 | h3
      · rw [← h3]; exact h2
      · exact anc_listed hc f e.on i h2 h3

theorem countP_lt {p p' : Nat → Bool} : ∀ (l : List Nat) (i : Nat), i ∈ l → p i = true → p' i = false → (∀ x, p' x = true → p x = true) → l.countP p' < l.countP p
  | [], i, h, _, _, _ => by simp at h
  | x :: l, i, h, h1, h2, h3 => by
    have hle : l.countP p' ≤ l.countP p := List.countP_mono_left fun x _ hx => h3 x hx
    rw [List.countP_cons, List.countP_cons]
    by_cases e : i = x
    · subst e; rw [h1, h2]; simp only [Bool.false_eq_true, if_false, if_true]; omega
    · have hm : i ∈ l := by
        simp only [List.mem_cons] at h
        exact h.resolve_left e
      have := countP_lt l i hm h1 h2 h3
      have hx : (if p' x = true then 1 else 0) ≤ (if p x = true then 1 else 0) := by
        by_cases hq : p' x = true
        · rw [if_pos hq, if_pos (h3 x hq)]; exact Nat.le_refl _
        · rw [if_neg hq]; exact Nat.zero_le _
      omega

theorem mem_ready {ops : Array Oper} {listed : Array Bool} {i : Nat} (h : i ∈ Region.ready .any ops listed) : ∃ o, ops[i]? = some o ∧ i < ops.size ∧ listed.getD i true = false ∧ ∀ e ∈ o.after, Region.binds .any e = true → listed.getD e.on false = true := by
  unfold Region.ready at h
  simp only [List.mem_filter, List.mem_range, Bool.and_eq_true, Bool.not_eq_true'] at h
  obtain ⟨h1, h2, h3⟩ := h
  cases ho : ops[i]? with
  | none => simp [ho] at h3
  | some o =>
    refine ⟨o, rfl, h1, h2, fun e he hb => ?_⟩
    simp only [ho, Option.map_some, Option.getD_some, Array.all_eq_true'] at h3
    have := h3 e he
    simpa [hb] using this

theorem wpAny_of_run {N : Nat} {ops : Array Oper} {B : Base} (hB : B.N = N) {Q : Exit → AS → Prop} {es : List Ev} {α α' : AS} (h : Run P N ops ops.toList es α α')
    (hok : okReg N ops (es.map fun e => (e.rn, e.wn.map (·.1))) = true) (hq : Q .normal α') :
    ∀ (fuel : Nat) (listed : Array Bool) (a : Act) (w : World), listed.size = ops.size → Closed ops listed → (List.range ops.size).countP (fun i => !listed.getD i true) ≤ fuel →
      R B (selF (fun i => listed.getD i false) (ops.toList.zip es) 0 α) a w → wpAny P .any ops (lift B Q) fuel listed a w := by
  unfold okReg at hok
  rw [Bool.and_eq_true, List.all_eq_true] at hok
  obtain ⟨_, hok⟩ := hok
  have hlen := h.length
  -- what the check says
  have chk : ∀ (j : Nat) (o' : Oper) (e' : Ev), ops[j]? = some o' → es[j]? = some e' → (∀ e ∈ o'.after, Region.binds .any e = true → e.on < j) ∧ (∀ d, guardD ops o' = some d → d < N) ∧
      ∀ (i : Nat) (o : Oper) (e : Ev), i < j → ops[i]? = some o → es[i]? = some e → clash ops o o' (e.rn, e.wn.map (·.1)) (e'.rn, e'.wn.map (·.1)) = true → anc ops ops.size j i = true := by
    intro j o' e' ho' he'
    have hj := (Array.getElem?_eq_some_iff.1 ho').1
    have h1 := hok j (by simpa using hj)
    simp only [ho', List.getElem?_map, he', Option.map_some, Bool.and_eq_true, Array.all_eq_true', List.all_eq_true, List.mem_range] at h1
    obtain ⟨⟨h2, h3⟩, h4⟩ := h1
    refine ⟨fun e he hb => by have := h2 e he; simpa [hb] using this, fun d hd => by simpa [hd] using h3, fun i o e hij ho he hcl => ?_⟩
    have h5 := h4 i hij
    simp only [ho, he, Option.map_some, hcl, Bool.not_true, Bool.false_or] at h5
    exact h5
  have isListed : ∀ (listed : Array Bool) (i : Nat), i < listed.size → listed.getD i true = listed.getD i false := by
    intro listed i hi; simp [Array.getD, hi]
  -- all are listed where none is ready
  have done : ∀ (listed : Array Bool), listed.size = ops.size → Region.ready .any ops listed = [] → ∀ k, k < ops.size → listed.getD k false = true := by
    intro listed hs hr k
    induction k using Nat.strongRecOn with
    | _ k ih =>
      intro hk
      cases hl : listed.getD k false with
      | true => rfl
      | false =>
        exfalso
        have : k ∈ Region.ready .any ops listed := by
          unfold Region.ready
          simp only [List.mem_filter, List.mem_range, Bool.and_eq_true, Bool.not_eq_true']
          refine ⟨hk, by rw [isListed _ _ (by omega)]; exact hl, ?_⟩
          have ho : ops[k]? = some ops[k] := Array.getElem?_eq_getElem hk
          have hes : k < es.length := by rw [hlen]; simpa using hk
          simp only [ho, Option.map_some, Option.getD_some, Array.all_eq_true', Bool.or_eq_true, Bool.not_eq_true']
          intro e he
          cases hb : Region.binds .any e with
          | false => exact .inl rfl
          | true =>
            have := (chk k _ _ ho (List.getElem?_eq_getElem hes)).1 e he hb
            exact .inr (ih e.on this (by omega))
        rw [hr] at this
        simp at this
  have fin : ∀ (listed : Array Bool) (a : Act) (w : World), listed.size = ops.size → Region.ready .any ops listed = [] → R B (selF (fun i => listed.getD i false) (ops.toList.zip es) 0 α) a w → lift B Q .normal a w := by
    intro listed a w hs hr hR
    rw [h.all 0 _ (fun k _ hk => done listed hs hr k (by simpa using hk))] at hR
    exact ⟨α', hR, hq⟩
  intro fuel
  induction fuel with
  | zero =>
    intro listed a w hs hc hcnt hR
    have hr : Region.ready .any ops listed = [] := by
      cases hrd : Region.ready .any ops listed with
      | nil => rfl
      | cons i l =>
        exfalso
        obtain ⟨o, ho, hi, hl, _⟩ := mem_ready (ops := ops) (listed := listed) (i := i) (by rw [hrd]; simp)
        have : 0 < (List.range ops.size).countP (fun i => !listed.getD i true) := by
          rw [List.countP_pos_iff]
          exact ⟨i, by simpa using hi, by simp [hl]⟩
        omega
    exact ⟨hr, fin listed a w hs hr hR⟩
  | succ fuel ih =>
    intro listed a w hs hc hcnt hR
    refine ⟨fun hr => fin listed a w hs hr hR, fun i hi => ?_⟩
    obtain ⟨o, ho, hlt, hl, hpre⟩ := mem_ready hi
    have hes : i < es.length := by rw [hlen]; simpa using hlt
    have he : es[i]? = some es[i] := List.getElem?_eq_getElem hes
    have hev := h.at 0 i o es[i] (by simpa using ho) he
    have hunl : listed.getD i false = false := by rw [← isListed _ _ (by omega)]; exact hl
    -- who clashes stands on the right side
    have side : ∀ (k : Nat) (o' : Oper) (e' : Ev), ops[k]? = some o' → es[k]? = some e' → k ≠ i → (clash ops o' o (e'.rn, e'.wn.map (·.1)) (es[i].rn, es[i].wn.map (·.1)) = true ∨ clash ops o o' (es[i].rn, es[i].wn.map (·.1)) (e'.rn, e'.wn.map (·.1)) = true) →
        listed.getD k false = decide (k < i) := by
      intro k o' e' ho' he' hne hcl
      have sym : ∀ o o' t t', clash ops o o' t t' = clash ops o' o t' t := by
        intro o o' t t'
        have ms : ∀ a b, meets a b = meets b a := by
          intro a b
          rw [Bool.eq_iff_iff]
          simp only [meets, List.any_eq_true, List.contains_iff_mem]
          exact ⟨fun ⟨x, h1, h2⟩ => ⟨x, h2, h1⟩, fun ⟨x, h1, h2⟩ => ⟨x, h2, h1⟩⟩
        unfold clash
        rw [ms o.dst.toList o'.dst.toList, ms t.2 t'.2]
        cases meets o.dst.toList (opT ops o') <;> cases meets o'.dst.toList (opT ops o) <;> cases meets o'.dst.toList o.dst.toList <;> cases meets t.2 t'.1 <;> cases meets t'.2 t.1 <;> cases meets t'.2 t.2 <;> rfl
      have hcl' : clash ops o' o (e'.rn, e'.wn.map (·.1)) (es[i].rn, es[i].wn.map (·.1)) = true := by
        rcases hcl with h1 | h1
        · exact h1
        · rw [sym]; exact h1
      rcases Nat.lt_or_ge k i with hk | hk
      · have h1 := (chk i o _ ho he).2.2 k o' e' hk ho' he' hcl'
        have h2 : listed.getD k false = true := by
          cases hsz : ops.size with
          | zero => omega
          | succ f =>
            rw [hsz] at h1
            unfold anc at h1
            simp only [ho, Array.any_eq_true'] at h1
            obtain ⟨e, he1, h3⟩ := h1
            simp only [Bool.and_eq_true, Bool.or_eq_true, beq_iff_eq] at h3
            have h4 := hpre e he1 h3.1
            rcases h3.2 with h5 | h5
            · rw [← h5]; exact h4
            · exact anc_listed hc f e.on k h4 h5
        rw [h2]; simp [hk]
      · have hk' : i < k := by omega
        have h1 := (chk k o' e' ho' he').2.2 i o _ hk' ho he (by rw [sym]; exact hcl')
        have : listed.getD k false = false := by
          cases hq : listed.getD k false with
          | false => rfl
          | true => rw [anc_listed hc _ k i hq h1] at hunl; cases hunl
        rw [this]; simp; omega
    -- the state at which it is met agrees with the one of the text's order
    have zipAt : ∀ (k : Nat) (o' : Oper) (e' : Ev), (ops.toList.zip es)[k]? = some (o', e') → ops[k]? = some o' ∧ es[k]? = some e' := by
      intro k o' e' hz
      rw [List.getElem?_zip_eq_some] at hz
      exact ⟨by simpa using hz.1, hz.2⟩
    have agreeT : ∀ t, t ∈ opT ops o → (selF (fun i => listed.getD i false) (ops.toList.zip es) 0 α).fr t = (selF (fun j => decide (j < 0 + i)) (ops.toList.zip es) 0 α).fr t := by
      intro t ht
      refine selF_fr _ _ _ _ _ _ (fun k o' e' hz hd => ?_) rfl
      obtain ⟨ho', he'⟩ := zipAt k o' e' hz
      simp only [Nat.zero_add]
      by_cases hki : k = i
      · subst hki; rw [hunl]; simp
      · refine side k o' e' ho' he' hki (.inl ?_)
        unfold clash
        rw [meets_of (a := o'.dst.toList) (b := opT ops o) (by rw [hd]; simp) ht]
        simp
    have agreeN : ∀ n, n ∈ es[i].rn → (selF (fun i => listed.getD i false) (ops.toList.zip es) 0 α).H n = (selF (fun j => decide (j < 0 + i)) (ops.toList.zip es) 0 α).H n := by
      intro n hn
      refine selF_H _ _ _ _ _ _ (fun k o' e' hz hd => ?_) rfl
      obtain ⟨ho', he'⟩ := zipAt k o' e' hz
      simp only [Nat.zero_add]
      by_cases hki : k = i
      · subst hki; rw [hunl]; simp
      · refine side k o' e' ho' he' hki (.inl ?_)
        unfold clash
        rw [meets_of (a := e'.wn.map (·.1)) (b := es[i].rn) hd hn]
        simp
    have agreeOp : ∀ y ∈ o.op.operands, (selF (fun i => listed.getD i false) (ops.toList.zip es) 0 α).ev y = (selF (fun j => decide (j < 0 + i)) (ops.toList.zip es) 0 α).ev y := by
      intro y hy
      cases y with
      | tmp t => exact agreeT t (by unfold opT; refine List.mem_append_left _ (List.mem_filterMap.2 ⟨.tmp t, by simpa using hy, rfl⟩))
      | const v => rfl
      | global g => rfl
      | func f => rfl
    unfold wpOp
    simp only [ho]
    refine hev.wp hB agreeOp agreeN (fun d hd => agreeT d (by unfold opT; rw [hd]; simp)) hR fun a' w' hR' => ?_
    have hget : ∀ k b, (listed.setIfInBounds i true).getD k b = if k = i then true else listed.getD k b := by
      intro k b
      simp only [Array.getD_eq_getD_getElem?, Array.getElem?_setIfInBounds]
      by_cases hki : k = i
      · subst hki; simp [show k < listed.size by omega]
      · rw [if_neg hki, if_neg (fun h => hki h.symm)]
    refine ih _ a' w' (by simpa using hs) (fun j o' hj ho' e' he' hb => ?_) ?_ ?_
    · rw [hget] at hj ⊢
      split
      · rfl
      · split at hj
        · rename_i hji
          subst hji
          rw [ho] at ho'
          cases ho'
          exact hpre e' he' hb
        · exact hc j o' hj ho' e' he' hb
    · have := countP_lt (p := fun k => !listed.getD k true) (p' := fun k => !(listed.setIfInBounds i true).getD k true) (List.range ops.size) i (by simpa using hlt) (by show (!listed.getD i true) = true; rw [hl]; rfl) (by show (!(listed.setIfInBounds i true).getD i true) = false; rw [hget, if_pos rfl]; rfl) (fun x hx => by
        show (!listed.getD x true) = true
        have hx : (!(listed.setIfInBounds i true).getD x true) = true := hx
        rw [hget] at hx
        split at hx
        · simp at hx
        · exact hx)
      omega
    · -- one event more
      have : selF (fun k => (listed.setIfInBounds i true).getD k false) (ops.toList.zip es) 0 α = es[i].upd o (selF (fun k => listed.getD k false) (ops.toList.zip es) 0 α) := by
        have hzi : (ops.toList.zip es)[i]? = some (o, es[i]) := by
          rw [List.getElem?_zip_eq_some]; exact ⟨by simpa using ho, he⟩
        have hfr : ∀ t, (selF (fun k => (listed.setIfInBounds i true).getD k false) (ops.toList.zip es) 0 α).fr t = (es[i].upd o (selF (fun k => listed.getD k false) (ops.toList.zip es) 0 α)).fr t := by
          intro t
          by_cases hd : o.dst = some t
          · refine selF_last_fr _ _ 0 i _ _ hzi hd (by rw [Nat.zero_add, hget]; simp) fun k' o' e' hk hz hd' => ?_
            obtain ⟨ho', he'⟩ := zipAt k' o' e' hz
            rw [Nat.zero_add, hget, if_neg (by omega), side k' o' e' ho' he' (by omega) (.inl (by unfold clash; rw [meets_of (x := t) (a := o'.dst.toList) (b := o.dst.toList) (by rw [hd']; simp) (by rw [hd]; simp)]; simp))]
            simp; omega
          · show _ = putF _ _ _ _
            rw [putF_not hd]
            refine selF_fr _ _ _ _ _ _ (fun k o' e' hz hd' => ?_) rfl
            obtain ⟨ho', he'⟩ := zipAt k o' e' hz
            rw [Nat.zero_add, hget, if_neg]
            rintro rfl
            rw [ho] at ho'
            cases ho'
            exact hd hd'
        have hH : ∀ n, (selF (fun k => (listed.setIfInBounds i true).getD k false) (ops.toList.zip es) 0 α).H n = (es[i].upd o (selF (fun k => listed.getD k false) (ops.toList.zip es) 0 α)).H n := by
          intro n
          by_cases hd : n ∈ es[i].wn.map (·.1)
          · refine selF_last_H _ _ 0 i _ _ hzi hd (by rw [Nat.zero_add, hget]; simp) fun k' o' e' hk hz hd' => ?_
            obtain ⟨ho', he'⟩ := zipAt k' o' e' hz
            rw [Nat.zero_add, hget, if_neg (by omega), side k' o' e' ho' he' (by omega) (.inl (by unfold clash; rw [meets_of (a := e'.wn.map (·.1)) (b := es[i].wn.map (·.1)) hd' hd]; simp))]
            simp; omega
          · show _ = updH _ _ _
            rw [updH_not _ _ hd]
            refine selF_H _ _ _ _ _ _ (fun k o' e' hz hd' => ?_) rfl
            obtain ⟨ho', he'⟩ := zipAt k o' e' hz
            rw [Nat.zero_add, hget, if_neg]
            rintro rfl
            rw [he] at he'
            cases he'
            exact hd hd'
        cases hx : selF (fun k => (listed.setIfInBounds i true).getD k false) (ops.toList.zip es) 0 α with | mk f1 H1 =>
        cases hy : es[i].upd o (selF (fun k => listed.getD k false) (ops.toList.zip es) 0 α) with | mk f2 H2 =>
        rw [hx, hy] at hfr hH
        simp only at hfr hH
        rw [funext hfr, funext hH]
      rw [this]
      exact hR'
end Go.AM
