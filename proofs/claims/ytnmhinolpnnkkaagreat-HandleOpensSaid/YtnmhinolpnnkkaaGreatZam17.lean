/- The abstract machine, part 17: code, loops, a function's begin and end. -/
import Derived.Test.YtnmhinolpnnkkaaGreatZam16
import Derived.Deep.LoopGhost
set_option linter.unusedSimpArgs false
set_option linter.unusedVariables false
namespace Go.AM
open Go.RowKit Go.Lib
variable {P : Program}

def awp (P : Program) (B : Base) (c : Code) (Q : Exit → AS → Prop) (α : AS) : Prop := ∀ a w, R B α a w → c.wp P (lift B Q) a w
def thenQ (P : Program) (B : Base) (y : Code) (Q : Exit → AS → Prop) : Exit → AS → Prop
  | .normal, α => awp P B y Q α
  | e, α => Q e α
def blockQ (id : Nat) (Q : Exit → AS → Prop) : Exit → AS → Prop
  | .exit i, α => if i = id then Q .normal α else Q (.exit i) α
  | e, α => Q e α

section
variable {B : Base} {Q : Exit → AS → Prop} {α : AS}
theorem awp_seq {x y : Code} (h : awp P B x (thenQ P B y Q) α) : awp P B (.seq x y) Q α := fun a w hr => by
  refine wp_seq (Code.wp_mono (fun e a w hq => ?_) (h a w hr))
  obtain ⟨β, h1, h2⟩ := hq
  cases e <;> first | exact h2 a w h1 | exact ⟨β, h1, h2⟩
theorem awp_block {id : Nat} {c : Code} (h : awp P B c (blockQ id Q) α) : awp P B (.block id c) Q α := fun a w hr => by
  refine wp_block (Code.wp_mono (fun e a w hq => ?_) (h a w hr))
  obtain ⟨β, h1, h2⟩ := hq
  cases e with
  | exit i =>
    simp only [blockQ] at h2
    simp only [Exit.inBlock]
    split
    · rename_i hi; rw [if_pos hi] at h2; exact ⟨β, h1, h2⟩
    · rename_i hi; rw [if_neg hi] at h2; exact ⟨β, h1, h2⟩
  | _ => exact ⟨β, h1, h2⟩
theorem awp_skip (h : Q .normal α) : awp P B .skip Q α := fun a w hr => wp_skip ⟨α, hr, h⟩
theorem awp_label {l : Nat} (h : Q .normal α) : awp P B (.label l) Q α := fun a w hr => wp_label ⟨α, hr, h⟩
theorem awp_exit {id : Nat} (h : Q (.exit id) α) : awp P B (.exit id) Q α := fun a w hr => wp_exit ⟨α, hr, h⟩
theorem awp_ret (h : Q .ret α) : awp P B .ret Q α := fun a w hr => wp_ret ⟨α, hr, h⟩
theorem awp_cond {c : Operand} {x y : Code} {q : Bool} (hc : α.ev c = .d (.c (.bool q))) (ht : q = true → awp P B x Q α) (hf : q = false → awp P B y Q α) : awp P B (.cond c x y) Q α := fun a w hr => by
  obtain ⟨σ, ρ, hi⟩ := hr
  exact wp_cond_split (ev_c hi hc) (fun h => ht h a w ⟨σ, ρ, hi⟩) (fun h => hf h a w ⟨σ, ρ, hi⟩)
theorem awp_region {cx : Cx P} {id : Nat} {ops : Array Oper} (h : lex cx id B.N ops ops.toList 0 α [] fun β _ => Q .normal β) : awp P B (.region id ops false) Q α := fun a w hr => by
  obtain ⟨es, α', h1, h2⟩ := lex_run _ _ _ _ _ h
  exact wp_region_list (run_list rfl h1 h2 a w hr)
theorem R.drew {a : Act} {w : World} (h : R B α a w) : R B α a { w with drawn := w.drawn + 1 } := by
  obtain ⟨σ, ρ, hi⟩ := h
  exact ⟨σ, ρ, hi.fr, hi.sz, hi.df, hi.sig, hi.hok, hi.dom, hi.inj, hi.own, hi.os, hi.tape, hi.out, hi.size, hi.keep, hi.old, hi.le⟩
theorem awp_draw {cx : Cx P} {id : Nat} {ops : Array Oper} (h : lex cx id B.N ops ops.toList 0 α [] fun β tr => okReg B.N ops tr = true ∧ Q .normal β) : awp P B (.region id ops true) Q α := fun a w hr => by
  obtain ⟨es, α', h1, h2, h3⟩ := lex_run _ _ _ _ _ h
  refine wp_region_any cx.mixed (wpAny_of_run rfl h1 (by simpa using h2) h3 _ _ a _ (by simp) (fun j o hj => ?_) ?_ ?_)
  · simp [Array.getD_eq_getD_getElem?, Array.getElem?_replicate] at hj
    split at hj <;> simp at hj
  · exact Nat.le_trans (List.countP_le_length) (by simp)
  · have : selF (fun i => (Array.replicate ops.size false).getD i false) (ops.toList.zip es) 0 α = α := by
      have nil : ∀ (r : List (Oper × Ev)) (p : Nat → Bool) (i : Nat) (β : AS), (∀ k, p k = false) → selF p r i β = β := by
        intro r p
        induction r with
        | nil => intro i β _; rfl
        | cons x r ih => intro i β hp; obtain ⟨o, e⟩ := x; rw [selF, hp i]; exact ih _ _ hp
      refine nil _ _ _ _ fun k => ?_
      simp only [Array.getD_eq_getD_getElem?, Array.getElem?_replicate]
      split <;> rfl
    rw [this]
    exact hr.drew

/-! ### What is forgotten -/
def Sub (α β : AS) : Prop := ∀ (B : Base) (a : Act) (w : World), R B α a w → R B β a w
theorem Sub.refl (α : AS) : Sub α α := fun _ _ _ h => h
theorem awp_sub {c : Code} {β : AS} (hs : Sub α β) (h : awp P B c Q β) : awp P B c Q α := fun a w hr => h a w (hs B a w hr)

/-- A loop: what holds at each round's head, told by a parameter; a measure. -/
theorem awp_loop {ι : Type} {c : Code} (I : ι → AS) (μ : ι → Nat) (i0 : ι) (h0 : Sub α (I i0))
    (round : ∀ i, awp P B c (fun e β => match e with | .normal => ∃ i', Sub β (I i') ∧ μ i' < μ i | e => Q e β) (I i)) : awp P B (.loop c) Q α := fun a w hr => by
  refine wp_loop_ghost (fun n a w => ∃ i, μ i = n ∧ R B (I i) a w) (μ i0) ⟨i0, rfl, h0 B a w hr⟩ fun n a w ⟨i, hn, hr⟩ => ?_
  refine Code.wp_mono (fun e a w hq => ?_) (round i a w hr)
  obtain ⟨β, h1, h2⟩ := hq
  cases e <;> first | exact ⟨β, h1, h2⟩ | skip
  obtain ⟨i', h3, h4⟩ := h2
  exact ⟨μ i', hn ▸ h4, i', rfl, h3 B a w h1⟩
end

/-! ### States as lists -/
def frL : List (Nat × AV) → Nat → AV
  | [], _ => .j
  | (a, x) :: r, t => if t = a then x else frL r t
def hL : List (Nat × Option HE) → Nat → Option HE
  | [], _ => none
  | (a, x) :: r, t => if t = a then x else hL r t
def st (l : List (Nat × AV)) (hs : List (Nat × Option HE)) : AS := ⟨frL l, hL hs⟩
def putL (l : List (Nat × AV)) : Option Tmp → AV → List (Nat × AV)
  | none, _ => l
  | some d, x => (d, x) :: l
def updL (hs : List (Nat × Option HE)) : List (Nat × Option HE) → List (Nat × Option HE)
  | [] => hs
  | x :: r => updL (x :: hs) r
theorem putF_st (l : List (Nat × AV)) (d : Option Tmp) (x : AV) : putF (frL l) d x = frL (putL l d x) := by cases d <;> rfl
theorem updH_st : ∀ (wn hs : List (Nat × Option HE)), updH (hL hs) wn = hL (updL hs wn)
  | [], hs => rfl
  | (n, e) :: r, hs => by rw [updH, updL, ← updH_st r]; rfl
theorem st_next (l : List (Nat × AV)) (hs : List (Nat × Option HE)) (d : Option Tmp) (x : AV) (wn : List (Nat × Option HE)) : (⟨putF (st l hs).fr d x, updH (st l hs).H wn⟩ : AS) = st (putL l d x) (updL hs wn) := by
  show AS.mk (putF (frL l) d x) (updH (hL hs) wn) = _
  rw [putF_st, updH_st]; rfl
theorem st_put (l : List (Nat × AV)) (hs : List (Nat × Option HE)) (d : Option Tmp) (x : AV) : (st l hs).put d x = st (putL l d x) hs := by
  show AS.mk (putF (frL l) d x) (hL hs) = _
  rw [putF_st]; rfl

/-! ### Names that are kept -/
def keepN (p : Nat → Bool) (ρ : Names) : Names := fun n => if p n then ρ n else none
theorem RdA.keep {σ : Sig} {ρ : Names} {p : Nat → Bool} {x : AV} {v : Value} (r : RdA σ ρ x v) (h : x.ok p = true) : RdA σ (keepN p ρ) x v := by
  induction r with
  | d hr => exact .d hr
  | fl hr => exact .fl hr
  | s hr hk hv hs => exact .s (by rw [keepN, if_pos (by simpa [AV.ok] using h)]; exact hr) hk hv hs
  | r hr => exact .r (by rw [keepN, if_pos (by simpa [AV.ok] using h)]; exact hr)
  | e hr hk hv hs => exact .e (by rw [keepN, if_pos (by simpa [AV.ok] using h)]; exact hr) hk hv hs
  | g hl ho hh ih => exact .g hl ho fun j x hx => ih j x hx (avs_ok (by simpa [AV.ok] using h) j x hx)
  | t hl hh ih => exact .t hl fun j x hx => ih j x hx (avs_ok (by simpa [AV.ok] using h) j x hx)
  | f hl hh ih => exact .f hl fun j x hx => ih j x hx (avs_ok (by simpa [AV.ok] using h) j x hx)
  | j v => exact .j v

/-- What is known less of a value. -/
def Wk (x y : AV) : Prop := y = .j ∨ x = y ∨ ∃ sz xs, x = .fl sz xs ∧ y = .d (.l sz xs)
theorem Wk.rd {σ : Sig} {ρ : Names} {x y : AV} {v : Value} (h : Wk x y) (r : RdA σ ρ x v) : RdA σ ρ y v := by
  rcases h with rfl | rfl | ⟨sz, xs, rfl, rfl⟩
  · exact .j v
  · exact r
  · cases r with | fl hr => exact .d hr
theorem Wk.refl (x : AV) : Wk x x := .inr (.inl rfl)

def hasN (hs : List (Nat × Option HE)) (n : Nat) : Bool := (hL hs n).isSome

/-- Less is known: of the temporaries those of the list, of the names those of the other. -/
theorem Sub_st {α : AS} {l : List (Nat × AV)} {hs : List (Nat × Option HE)} (hl : ∀ t, Wk (α.fr t) (frL l t) ∧ (frL l t).ok (hasN hs) = true) (hh : ∀ n e, hL hs n = some e → α.H n = some e ∧ e.ok (hasN hs) = true)
    (hk : ∀ n, n < 1000 → hL hs n = none → α.H n = none) : Sub α (st l hs) := by
  intro B a w ⟨σ, ρ, hi⟩
  have keep : ∀ n l, keepN (hasN hs) ρ n = some l → ρ n = some l ∧ hasN hs n = true := by
    intro n l hn
    unfold keepN at hn
    split at hn
    · exact ⟨hn, ‹_›⟩
    · cases hn
  refine ⟨σ, keepN (hasN hs) ρ, ⟨fun t => ((hl t).1.rd (hi.fr t)).keep (hl t).2, hi.sz, hi.df, hi.sig, fun n e hn => ?_, fun n hn => ?_, fun n m l l' b h1 h2 h3 => hi.inj n m l l' b h1 (keep n l h2).1 (keep m l' h3).1, fun n l b h1 => hi.own n l b (keep n l h1).1, hi.os, hi.tape, hi.out, hi.size, hi.keep, hi.old, fun n l h1 h2 => ?_⟩⟩
  · obtain ⟨h1, h2⟩ := hh n e hn
    have hn' : hasN hs n = true := by unfold hasN; rw [show hL hs n = some e from hn]; rfl
    have h3 := hi.hok n e h1
    cases e with
    | blk t cells =>
      obtain ⟨g, us, q1, q2, q3, q4, q5, q6⟩ := h3
      exact ⟨g, us, by rw [keepN, if_pos hn']; exact q1, q2, q3, q4, fun j x hx => (q5 j x hx).keep (avs_ok (by simpa [HE.ok] using h2) j x hx), q6⟩
    | row e sz k xs =>
      obtain ⟨v, us, q1, q2⟩ := h3
      exact ⟨v, us, by rw [keepN, if_pos hn']; exact q1, q2⟩
  · have : hasN hs n = false := by unfold hasN; rw [show hL hs n = none from hn]; rfl
    rw [keepN, this]; rfl
  · have h3 := hi.le n l h1 h2
    cases hq : hL hs n with
    | some e => rw [keepN, if_pos (by unfold hasN; rw [hq]; rfl)]; exact h3
    | none =>
      rw [hi.dom n (hk n h1 hq)] at h3
      cases l with
      | blk g => cases h3
      | row k v => obtain ⟨_, _, h4, _⟩ := h3; cases h4

/-- The same, entry by entry. -/
theorem Sub_list {α : AS} {l : List (Nat × AV)} {hs : List (Nat × HE)} (hl : ∀ p ∈ l, Wk (α.fr p.1) p.2 ∧ p.2.ok (hasN (hs.map fun p => (p.1, some p.2))) = true)
    (hh : ∀ p ∈ hs, α.H p.1 = some p.2 ∧ p.2.ok (hasN (hs.map fun p => (p.1, some p.2))) = true) (hk : ∀ n, n < 1000 → hL (hs.map fun p => (p.1, some p.2)) n = none → α.H n = none) : Sub α (st l (hs.map fun p => (p.1, some p.2))) := by
  refine Sub_st (fun t => ?_) (fun n e hn => ?_) hk
  · have : ∀ (l' : List (Nat × AV)), (∀ p ∈ l', Wk (α.fr p.1) p.2 ∧ p.2.ok (hasN (hs.map fun p => (p.1, some p.2))) = true) → Wk (α.fr t) (frL l' t) ∧ (frL l' t).ok (hasN (hs.map fun p => (p.1, some p.2))) = true := by
      intro l'
      induction l' with
      | nil => intro _; exact ⟨.inl rfl, rfl⟩
      | cons p r ih =>
        intro h
        obtain ⟨a, x⟩ := p
        rw [frL]
        split
        · rename_i e; subst e; exact h (t, x) (by simp)
        · exact ih fun p hp => h p (by simp [hp])
    exact this l hl
  · have : ∀ (h' : List (Nat × HE)), (∀ p ∈ h', α.H p.1 = some p.2 ∧ p.2.ok (hasN (hs.map fun p => (p.1, some p.2))) = true) → hL (h'.map fun p => (p.1, some p.2)) n = some e → α.H n = some e ∧ e.ok (hasN (hs.map fun p => (p.1, some p.2))) = true := by
      intro h'
      induction h' with
      | nil => intro _ hn; simp [hL] at hn
      | cons p r ih =>
        intro h hn
        obtain ⟨a, x⟩ := p
        rw [List.map_cons, hL] at hn
        split at hn
        · rename_i e'; subst e'
          simp only [Option.some.injEq] at hn; subst hn
          exact h (n, x) (by simp)
        · exact ih (fun p hp => h p (by simp [hp])) hn
    exact this hs hh hn
end Go.AM
