/- The abstract machine, part 15: regions, in the text's order and in any order that the edges allow. -/
import Derived.Test.YtnmhinolpnnkkaaGreatZam14
set_option linter.unusedSimpArgs false
set_option linter.unusedVariables false
namespace Go.AM
open Go.RowKit Go.Lib
variable {P : Program}

/-- A call of f: it only computes; it reads rows; it changes what is handed in. -/
def CallA (P : Program) (f : FuncId) (as : List AV) (H : Nat → Option HE) (K : AV → List Nat → List (Nat × Option HE) → Prop) : Prop :=
  (∃ ds res, toDs as = some ds ∧ PF P f ds res ∧ K (.d res) [] []) ∨
  (∃ ds res ns, resGs H as = some ds ∧ (∀ H' : Nat → Option HE, (∀ n ∈ ns, H' n = H n) → resGs H' as = resGs H as) ∧ res.scal = true ∧ PF P f ds res ∧ K (.d res) ns []) ∨
  ∃ φ cs hs x hs', as = AVs.ren φ cs ∧ okE φ cs hs x hs' = true ∧ (∀ n e, hE hs n = some e → H (φ n) = some (e.ren φ)) ∧ (∀ p ∈ hs', inE hs p.1 = false → H (φ p.1) = none) ∧ (PE P f cs hs x hs' ∨ PX P f cs hs x hs') ∧
    K (x.ren φ) (hs'.map fun p => φ p.1) (hs'.map fun p => (φ p.1, some (p.2.ren φ)))

/-- One operation, carried out. -/
def Step1 (cx : Cx P) (nm : Nat) (o : Oper) (α : AS) (K : AV → List Nat → List (Nat × Option HE) → Prop) : Prop :=
  match o.op with
  | .call { callee := .value fo, args, argTypes } => match fnOf (α.ev fo) with
    | some (f, caps) => CallA P f (argsA cx.T α args.toList argTypes.toList ++ caps) α.H K
    | none => False
  | _ => match plan cx nm o α with
    | some pr => pr.c ∧ K pr.x pr.rn pr.wn
    | none => False

theorem argsA_loc {T : Tab} {α β : AS} {args : List Operand} {ts : List TypeId} (h : ∀ x ∈ args, β.ev x = α.ev x) : argsA T β args ts = argsA T α args ts := by
  unfold argsA
  refine List.map_congr_left fun p hp => evT_loc (h p.1 ?_)
  obtain ⟨x, i⟩ := p
  exact (List.mem_zipIdx hp).2.2 ▸ List.getElem_mem _

/-- It goes through wherever its operands and names are as they were. -/
theorem Step1.out {cx : Cx P} {nm : Nat} {o : Oper} {α : AS} {K : AV → List Nat → List (Nat × Option HE) → Prop} (h : Step1 cx nm o α K) :
    ∃ x rn wn, K x rn wn ∧ ∀ β : AS, (∀ y ∈ o.op.operands, β.ev y = α.ev y) → (∀ n ∈ rn, β.H n = α.H n) → Snd P o β ⟨True, x, rn, wn⟩ := by
  unfold Step1 at h
  split at h
  · rename_i fo args ts ho
    split at h <;> first | (exact h.elim) | skip
    rename_i f caps hf
    have q1 : ∀ β : AS, (∀ y ∈ o.op.operands, β.ev y = α.ev y) → β.ev fo = α.ev fo := fun β hβ => hβ fo (by rw [ho]; simp [Op.operands, Call.operands])
    have q2 : ∀ β : AS, (∀ y ∈ o.op.operands, β.ev y = α.ev y) → argsA cx.T β args.toList ts.toList = argsA cx.T α args.toList ts.toList := fun β hβ =>
      argsA_loc fun x hx => hβ x (by rw [ho]; simp [Op.operands, Call.operands]; exact .inr (by simpa using hx))
    rcases h with ⟨ds, res, hd, hp, hk⟩ | ⟨ds, res, ns, hd, hloc, hsc, hp, hk⟩ | ⟨φ, cs, hs, x, hs', has, hok, hH, hnew, hp, hk⟩
    · exact ⟨.d res, [], [], hk, fun β hβ _ => call_ok cx.T ho (by rw [q1 β hβ]; exact hf) (by rw [q2 β hβ]; exact hd) hp⟩
    · exact ⟨.d res, ns, [], hk, fun β hβ hn => callB_ok cx.T ho (by rw [q1 β hβ]; exact hf) (by rw [q2 β hβ, hloc _ hn]; exact hd) hsc hp⟩
    · have sub : ∀ n e, hE hs n = some e → φ n ∈ hs'.map fun p => φ p.1 := fun n e hn => by
        have h1 := hok
        simp only [okE, Bool.and_eq_true, List.all_eq_true] at h1
        obtain ⟨e', h2⟩ := inE_some (h1.1.1.1.1.2 _ (hE_mem hn)).2
        exact List.mem_map.2 ⟨_, hE_mem h2, rfl⟩
      rcases hp with hp | hp
      · exact ⟨x.ren φ, _, _, hk, fun β hβ hn => callE_ok cx.T ho (by rw [q1 β hβ]; exact hf) (by rw [q2 β hβ]; exact has) hok
          (fun n e he => by rw [hn _ (sub n e he)]; exact hH n e he) (fun p hp1 hp2 => by rw [hn _ (List.mem_map_of_mem hp1)]; exact hnew p hp1 hp2) hp⟩
      · exact ⟨x.ren φ, _, _, hk, fun β hβ hn => callX_ok cx.T ho (by rw [q1 β hβ]; exact hf) (by rw [q2 β hβ]; exact has) hok
          (fun n e he => by rw [hn _ (sub n e he)]; exact hH n e he) (fun p hp1 hp2 => by rw [hn _ (List.mem_map_of_mem hp1)]; exact hnew p hp1 hp2) hp⟩
  · split at h <;> first | (exact h.elim) | skip
    rename_i pr hpr
    refine ⟨pr.x, pr.rn, pr.wn, h.2, fun β hβ hn => ?_⟩
    have := plan_ok cx (plan_loc cx hpr hβ hn)
    intro B a w hd hr _
    exact this B a w hd hr h.1

abbrev Tr := List (List Nat × List Nat)
/-- The operations in the text's order; what each one reads and writes of names is written down. -/
def lex (cx : Cx P) (id N : Nat) (ops : Array Oper) : List Oper → Nat → AS → Tr → (AS → Tr → Prop) → Prop
  | [], _, α, tr, K => K α tr
  | o :: r, i, α, tr, K => (∀ d, o.dst = some d → d < N) ∧
    match o.guard with
    | none => Step1 cx (1000 * (id + 1) + i) o α fun x rn wn => lex cx id N ops r (i + 1) ⟨putF α.fr o.dst x, updH α.H wn⟩ (tr ++ [(rn, wn.map (·.1))]) K
    | some (j, want) => match (ops[j]?).bind (·.dst) with
      | none => False
      | some d => d < N ∧ match α.fr d with
        | .d (.c (.bool q)) => if q = want then
            Step1 cx (1000 * (id + 1) + i) o α fun x rn wn => lex cx id N ops r (i + 1) ⟨putF α.fr o.dst x, updH α.H wn⟩ (tr ++ [(rn, wn.map (·.1))]) K
          else lex cx id N ops r (i + 1) (α.put o.dst .j) (tr ++ [([], [])]) K
        | _ => False

/-- An event: whether the operation runs, what it yields, the names that it reads, what it writes. -/
structure Ev where
  run : Bool
  x : AV
  rn : List Nat
  wn : List (Nat × Option HE)
def Ev.upd (o : Oper) (e : Ev) (β : AS) : AS := ⟨putF β.fr o.dst e.x, updH β.H e.wn⟩

def guardD (ops : Array Oper) (o : Oper) : Option Tmp := match o.guard with | none => none | some (j, _) => (ops[j]?).bind (·.dst)
/-- What is known of operation o, the event e, met at the state α. -/
def EvOk (P : Program) (N : Nat) (ops : Array Oper) (o : Oper) (e : Ev) (α : AS) : Prop :=
  (∀ d, o.dst = some d → d < N) ∧
  (match o.guard with
   | none => e.run = true
   | some (j, want) => ∃ d q, (ops[j]?).bind (·.dst) = some d ∧ d < N ∧ α.fr d = .d (.c (.bool q)) ∧ e.run = (q == want)) ∧
  (if e.run then ∀ β : AS, (∀ y ∈ o.op.operands, β.ev y = α.ev y) → (∀ n ∈ e.rn, β.H n = α.H n) → Snd P o β ⟨True, e.x, e.rn, e.wn⟩ else e.x = .j ∧ e.wn = [])

inductive Run (P : Program) (N : Nat) (ops : Array Oper) : List Oper → List Ev → AS → AS → Prop
  | nil (α : AS) : Run P N ops [] [] α α
  | cons {o : Oper} {r : List Oper} {e : Ev} {es : List Ev} {α α' : AS} (h : EvOk P N ops o e α) (k : Run P N ops r es (e.upd o α) α') : Run P N ops (o :: r) (e :: es) α α'

theorem lex_run {cx : Cx P} {id N : Nat} {ops : Array Oper} : ∀ (l : List Oper) (i : Nat) (α : AS) (tr : Tr) (K : AS → Tr → Prop), lex cx id N ops l i α tr K →
    ∃ es α', Run P N ops l es α α' ∧ K α' (tr ++ es.map fun e => (e.rn, e.wn.map (·.1)))
  | [], i, α, tr, K, h => ⟨[], α, .nil α, by simpa [lex] using h⟩
  | o :: r, i, α, tr, K, h => by
    unfold lex at h
    obtain ⟨hd, h⟩ := h
    cases hg : o.guard with
    | none =>
      simp only [hg] at h
      obtain ⟨x, rn, wn, h1, h2⟩ := h.out
      obtain ⟨es, α', h3, h4⟩ := lex_run r _ _ _ _ h1
      refine ⟨⟨true, x, rn, wn⟩ :: es, α', .cons ⟨hd, by rw [hg], by simpa using h2⟩ h3, ?_⟩
      simpa [List.append_assoc] using h4
    | some g =>
      obtain ⟨j, want⟩ := g
      simp only [hg] at h
      cases hj : (ops[j]?).bind (·.dst) with
      | none => simp only [hj] at h
      | some d =>
        simp only [hj] at h
        obtain ⟨hdN, h⟩ := h
        split at h <;> first | (exact h.elim) | skip
        rename_i q hq
        split at h
        · rename_i he
          obtain ⟨x, rn, wn, h1, h2⟩ := h.out
          obtain ⟨es, α', h3, h4⟩ := lex_run r _ _ _ _ h1
          refine ⟨⟨true, x, rn, wn⟩ :: es, α', .cons ⟨hd, ?_, by simpa using h2⟩ h3, ?_⟩
          · rw [hg]; exact ⟨d, q, hj, hdN, hq, by subst he; simp⟩
          · simpa [List.append_assoc] using h4
        · rename_i he
          obtain ⟨es, α', h3, h4⟩ := lex_run r _ _ _ _ h
          refine ⟨⟨false, .j, [], []⟩ :: es, α', .cons ⟨hd, ?_, by simp⟩ h3, ?_⟩
          · rw [hg]; exact ⟨d, q, hj, hdN, hq, by simp [he]⟩
          · simpa [List.append_assoc] using h4

/-- What a state says of the model's world. -/
def lift (B : Base) (Q : Exit → AS → Prop) : Exit → Act → World → Prop := fun e a w => ∃ α, R B α a w ∧ Q e α

theorem yielded_of {ops : Array Oper} {a : Act} {j d : Nat} {q : Bool} {σ : Sig} {ρ : Names} {B : Base} {α : AS} {w : World} (hi : Inv B σ ρ α a w) (hd : (ops[j]?).bind (·.dst) = some d) (hq : α.fr d = .d (.c (.bool q))) (hN : d < B.N) :
    yielded ops a.tmps j = some q := by
  have h1 := hi.fr d
  rw [hq] at h1
  have h2 := rd_c h1
  have h3 : a.tmps[d]? = some (.bool q) := by
    rw [getD_of (by rw [hi.sz]; exact hN), h2]
  unfold yielded
  simp [hd, h3]

/-- An operation at a state that agrees with the one of the text's order. -/
theorem EvOk.wp {N : Nat} {ops : Array Oper} {o : Oper} {e : Ev} {α β : AS} (h : EvOk P N ops o e α) {B : Base} (hB : B.N = N) (hops : ∀ y ∈ o.op.operands, β.ev y = α.ev y) (hn : ∀ n ∈ e.rn, β.H n = α.H n)
    (hg : ∀ d, guardD ops o = some d → β.fr d = α.fr d) {a : Act} {w : World} (hr : R B β a w) {K : Act → World → Prop} {Q : Exit → Act → World → Prop} (hK : ∀ a w, R B (e.upd o β) a w → K a w) :
    if Region.wanted o (yielded ops a.tmps) then o.wp P a w K Q ∨ (o.asks P a w ∧ LetsOut Q) else K (a.put o.dst undef) w := by
  obtain ⟨hd, hg1, hx⟩ := h
  have key : Region.wanted o (yielded ops a.tmps) = e.run := by
    obtain ⟨σ, ρ, hi⟩ := hr
    unfold Region.wanted
    cases hgd : o.guard with
    | none => simp only [hgd] at hg1 ⊢; exact hg1.symm
    | some g =>
      obtain ⟨j, want⟩ := g
      simp only [hgd] at hg1 ⊢
      obtain ⟨d, q, h1, h4, h2, h3⟩ := hg1
      have h5 := hg d (by simp [guardD, hgd, h1])
      rw [yielded_of hi h1 (h5.trans h2) (by rw [hB]; exact h4), h3]
      cases q <;> cases want <;> rfl
  rw [key]
  cases hrun : e.run
  · rw [hrun] at hx
    simp only [Bool.false_eq_true, if_false] at hx ⊢
    obtain ⟨σ, ρ, hi⟩ := hr
    refine hK _ _ ⟨σ, ρ, ?_⟩
    have := hi.put (dst := o.dst) (x := e.x) (v := undef) (by rw [hB]; exact hd) (by rw [hx.1]; exact .j _)
    simpa [Ev.upd, hx.2, updH, AS.put] using this
  · rw [hrun] at hx
    simp only [if_true] at hx ⊢
    exact .inl (wp_noQ (fun a w h => hK a w h) (hx β hops hn B a w (by rw [hB]; exact hd) hr trivial))

/-! ### The text's order -/
theorem run_list {N : Nat} {ops : Array Oper} {B : Base} (hB : B.N = N) {Q : Exit → AS → Prop} {l : List Oper} {es : List Ev} {α α' : AS} (h : Run P N ops l es α α') (hq : Q .normal α') :
    ∀ (a : Act) (w : World), R B α a w → wpList P ops (lift B Q) l a w := by
  induction h with
  | nil α => intro a w hr; exact ⟨α, hr, hq⟩
  | cons h k ih =>
    intro a w hr
    unfold wpList
    exact h.wp hB (fun _ _ => rfl) (fun _ _ => rfl) (fun d hd => rfl) hr (fun a w hr => ih hq a w hr)
end Go.AM
