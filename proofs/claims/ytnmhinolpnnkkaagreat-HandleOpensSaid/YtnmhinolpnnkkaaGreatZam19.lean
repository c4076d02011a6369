/- The abstract machine, part 19: how a walk is evaluated. -/
import Derived.Test.YtnmhinolpnnkkaaGreatZam18
set_option linter.unusedSimpArgs false
set_option linter.unusedVariables false
namespace Go.AM
open Go.RowKit Go.Lib
variable {P : Program}

/-- A mark: what stands in its type is not looked into while a walk is evaluated. -/
structure Tg {α : Sort _} (x : α) : Type where

abbrev KF := AV → List Nat → List (Nat × Option HE) → Prop
def andPR (o : Option PR) (K : KF) (_ : Tg K) : Prop :=
  match o with
  | some pr => pr.c ∧ K pr.x pr.rn pr.wn
  | none => False
section
variable {K : KF} {t : Tg K}
theorem andPR_some (c : Prop) (x : AV) (rn : List Nat) (wn : List (Nat × Option HE)) : andPR (some ⟨c, x, rn, wn⟩) K t = (c ∧ K x rn wn) := rfl
theorem andPR_none : andPR none K t = False := rfl
theorem andPR_pv (x : AV) : andPR (pv x) K t = K x [] [] := by simp [andPR, pv]
theorem andPR_pc (c : Prop) (x : AV) : andPR (pc c x) K t = (c ∧ K x [] []) := rfl
end
def dOk (N : Nat) : Option Tmp → Prop | none => True | some d => d < N
theorem dOk_iff (N : Nat) (d : Option Tmp) : (∀ x, d = some x → x < N) ↔ dOk N d := by
  cases d <;> simp [dOk]
def guardK (N : Nat) (d : Option Tmp) (x : AV) (want : Bool) (A B : Prop) (_ : Tg (A ∧ B)) : Prop :=
  match d with
  | none => False
  | some d => d < N ∧ match x with
    | .d (.c (.bool q)) => if q = want then A else B
    | _ => False
section
variable {N : Nat} {d : Tmp} {A B : Prop} {t : Tg (A ∧ B)}
theorem guardK_tt : guardK N (some d) (.d (.c (.bool true))) true A B t = (d < N ∧ A) := by simp [guardK]
theorem guardK_tf : guardK N (some d) (.d (.c (.bool true))) false A B t = (d < N ∧ B) := by simp [guardK]
theorem guardK_ft : guardK N (some d) (.d (.c (.bool false))) true A B t = (d < N ∧ B) := by simp [guardK]
theorem guardK_ff : guardK N (some d) (.d (.c (.bool false))) false A B t = (d < N ∧ A) := by simp [guardK]
theorem guardK_cong {N : Nat} {d : Option Tmp} {x : AV} {want : Bool} {A B A' B' : Prop} (h : A = A') (h' : B = B') {t : Tg (A ∧ B)} {t' : Tg (A' ∧ B')} : guardK N d x want A B t = guardK N d x want A' B' t' := by subst h h'; rfl
/-- A guard that isn't known. -/
theorem guardK_q {q want : Bool} (hd : Nat.blt d N = true) (ht : q = true → if want then A else B) (hf : q = false → if want then B else A) : guardK N (some d) (.d (.c (.bool q))) want A B t := by
  refine ⟨Nat.le_of_ble_eq_true hd, ?_⟩
  cases q <;> cases want <;> simp_all
end
/-- The operations in the text's order, as a walk is evaluated: which temporary an operation has written stands in a list. -/
def lookG : List (Nat × Tmp) → Nat → Option Tmp
  | [], _ => none
  | (m, d) :: r, j => if j = m then some d else lookG r j
def addG (gd : List (Nat × Tmp)) (i : Nat) : Option Tmp → List (Nat × Tmp)
  | some d => (i, d) :: gd
  | none => gd
def lex2 (cx : Cx P) (id N : Nat) : List Oper → List (Nat × Tmp) → Nat → AS → Tr → (AS → Tr → Prop) → Prop
  | [], _, _, α, tr, K => K α tr
  | o :: r, gd, i, α, tr, K => (∀ d, o.dst = some d → d < N) ∧
    match o.guard with
    | none => Step1 cx (1000 * (id + 1) + i) o α fun x rn wn => lex2 cx id N r (addG gd i o.dst) (i + 1) ⟨putF α.fr o.dst x, updH α.H wn⟩ (tr ++ [(rn, wn.map (·.1))]) K
    | some (j, want) => guardK N (lookG gd j) (α.fr ((lookG gd j).getD 0)) want
        (Step1 cx (1000 * (id + 1) + i) o α fun x rn wn => lex2 cx id N r (addG gd i o.dst) (i + 1) ⟨putF α.fr o.dst x, updH α.H wn⟩ (tr ++ [(rn, wn.map (·.1))]) K)
        (lex2 cx id N r (addG gd i o.dst) (i + 1) (α.put o.dst .j) (tr ++ [([], [])]) K) ⟨⟩
theorem Step1.imp {cx : Cx P} {nm : Nat} {o : Oper} {α : AS} {K K' : KF} (h : Step1 cx nm o α K) (hk : ∀ x rn wn, K x rn wn → K' x rn wn) : Step1 cx nm o α K' := by
  unfold Step1 at *
  split at h
  · split at h <;> first | (exact h.elim) | skip
    unfold CallA at *
    rcases h with ⟨ds, res, hd, hp, hk'⟩ | ⟨ds, res, ns, hd, hl, hs, hp, hk'⟩ | ⟨φ, cs, hs, x, hs', a1, a2, a3, a4, a5, hk'⟩
    · exact .inl ⟨ds, res, hd, hp, hk _ _ _ hk'⟩
    · exact .inr (.inl ⟨ds, res, ns, hd, hl, hs, hp, hk _ _ _ hk'⟩)
    · exact .inr (.inr ⟨φ, cs, hs, x, hs', a1, a2, a3, a4, a5, hk _ _ _ hk'⟩)
  · split at h <;> first | (exact h.elim) | skip
    exact ⟨h.1, hk _ _ _ h.2⟩
theorem lookG_add {gd : List (Nat × Tmp)} {i j : Nat} {d : Option Tmp} {x : Tmp} (h : lookG (addG gd i d) j = some x) : (j = i ∧ d = some x) ∨ lookG gd j = some x := by
  cases d with
  | none => exact .inr h
  | some d =>
    simp only [addG, lookG] at h
    split at h
    · rename_i q; exact .inl ⟨q, h⟩
    · exact .inr h
theorem lex2_lex {cx : Cx P} {id N : Nat} {ops : Array Oper} {K : AS → Tr → Prop} : ∀ (l : List Oper) (gd : List (Nat × Tmp)) (i : Nat) (α : AS) (tr : Tr), ops.toList.drop i = l → (∀ j d, lookG gd j = some d → (ops[j]?).bind (·.dst) = some d) →
    lex2 cx id N l gd i α tr K → lex cx id N ops l i α tr K
  | [], gd, i, α, tr, _, _, h => h
  | o :: r, gd, i, α, tr, hl, hg, h => by
    have ho : ops[i]? = some o := by
      have := congrArg (·[0]?) hl
      simpa using this
    have hr : ops.toList.drop (i + 1) = r := by rw [← List.drop_drop, hl]; rfl
    have hg' : ∀ j d, lookG (addG gd i o.dst) j = some d → (ops[j]?).bind (·.dst) = some d := by
      intro j d hj
      rcases lookG_add hj with ⟨rfl, h2⟩ | h2
      · rw [ho]; exact h2
      · exact hg j d h2
    unfold lex2 at h
    unfold lex
    refine ⟨h.1, ?_⟩
    have h := h.2
    cases hgd : o.guard with
    | none =>
      simp only [hgd] at h ⊢
      exact h.imp fun x rn wn hk => lex2_lex r _ _ _ _ hr hg' hk
    | some g =>
      obtain ⟨j, want⟩ := g
      simp only [hgd] at h ⊢
      cases hq : lookG gd j with
      | none => rw [hq] at h; exact h.elim
      | some d =>
        rw [hq] at h
        rw [hg j d hq]
        obtain ⟨h1, h2⟩ := h
        refine ⟨h1, ?_⟩
        simp only [Option.getD_some] at h2
        split at h2
        · rename_i q hfr
          simp only [hfr]
          split at h2
          · rename_i e; rw [if_pos e]; exact h2.imp fun x rn wn hk => lex2_lex r _ _ _ _ hr hg' hk
          · rename_i e; rw [if_neg e]; exact lex2_lex r _ _ _ _ hr hg' h2
        · exact h2.elim
def lexT (cx : Cx P) (id N : Nat) (l : List Oper) (K : AS → Tr → Prop) (gd : List (Nat × Tmp)) (i : Nat) (α : AS) (tr : Tr) (_ : Tg (l, K)) : Prop := lex2 cx id N l gd i α tr K
theorem lexT_lex {cx : Cx P} {id N : Nat} {l : List Oper} {K : AS → Tr → Prop} {α : AS} {t : Tg (l, K)} (h : lexT cx id N l K [] 0 α [] t) : lex cx id N l.toArray l 0 α [] K :=
  lex2_lex l [] 0 α [] (by simp) (fun j d h => by simp [lookG] at h) h

section
variable {cx : Cx P} {id N i nm : Nat} {ops : Array Oper} {dst : Option Tmp} {op : Op} {ty : TypeId} {pos : String} {aft : Array Edge} {r : List Oper} {l : List (Nat × AV)} {hs : List (Nat × Option HE)} {tr : Tr} {K : AS → Tr → Prop} {α : AS}
  {F : KF}
def Step1T (cx : Cx P) (nm : Nat) (o : Oper) (α : AS) (F : KF) (_ : Tg (o, F)) : Prop := Step1 cx nm o α F
theorem lex_nil {gd : List (Nat × Tmp)} {t : Tg (([] : List Oper), K)} : lexT cx id N [] K gd i α tr t = K α tr := rfl
theorem lex_op {gd : List (Nat × Tmp)} {t} : lexT cx id N (⟨dst, op, ty, pos, aft, none⟩ :: r) K gd i (st l hs) tr t =
    (dOk N dst ∧ Step1T cx (1000 * (id + 1) + i) ⟨dst, op, ty, "", #[], none⟩ (st l hs) (fun x rn wn => lexT cx id N r K (addG gd i dst) (i + 1) (st (putL l dst x) (updL hs wn)) (tr ++ [(rn, wn.map (·.1))]) ⟨⟩) ⟨⟩) := by
  simp only [lexT, lex2, st_next, dOk_iff]
  rfl
theorem lex_guard {gd : List (Nat × Tmp)} {j : Nat} {want : Bool} {t} : lexT cx id N (⟨dst, op, ty, pos, aft, some (j, want)⟩ :: r) K gd i (st l hs) tr t =
    (dOk N dst ∧ guardK N (lookG gd j) (frL l ((lookG gd j).getD 0)) want
      (Step1T cx (1000 * (id + 1) + i) ⟨dst, op, ty, "", #[], none⟩ (st l hs) (fun x rn wn => lexT cx id N r K (addG gd i dst) (i + 1) (st (putL l dst x) (updL hs wn)) (tr ++ [(rn, wn.map (·.1))]) ⟨⟩) ⟨⟩)
      (lexT cx id N r K (addG gd i dst) (i + 1) (st (putL l dst .j) hs) (tr ++ [([], [])]) ⟨⟩) ⟨⟩) := by
  refine congr (congrArg And (propext (dOk_iff N dst))) (guardK_cong ?_ ?_)
  · simp only [lexT, st_next]
    rfl
  · simp only [lexT, st_put]
theorem lex_appN {gd : List (Nat × Tmp)} {b : List Oper} {t} : lexT cx id N (List.append [] b) K gd i α tr t = lexT cx id N b K gd i α tr ⟨⟩ := rfl
theorem lex_appC {gd : List (Nat × Tmp)} {o : Oper} {a b : List Oper} {t} : lexT cx id N (List.append (o :: a) b) K gd i α tr t = lexT cx id N (o :: List.append a b) K gd i α tr ⟨⟩ := rfl
theorem lex_appA {gd : List (Nat × Tmp)} {a b c : List Oper} {t} : lexT cx id N (List.append (List.append a b) c) K gd i α tr t = lexT cx id N (List.append a (List.append b c)) K gd i α tr ⟨⟩ := by
  simp only [lexT, List.append_eq, List.append_assoc]

variable {g : Option (Nat × Bool)}
theorem Step1_move {x : Operand} : Step1T cx nm ⟨dst, .move x, ty, pos, aft, g⟩ α F ⟨⟩ = andPR (pMove cx.T ty α x) F ⟨⟩ := rfl
theorem Step1_assign {x : Operand} : Step1T cx nm ⟨dst, .assign x, ty, pos, aft, g⟩ α F ⟨⟩ = andPR (pMove cx.T ty α x) F ⟨⟩ := rfl
theorem Step1_pick {c x y : Operand} : Step1T cx nm ⟨dst, .pick c x y, ty, pos, aft, g⟩ α F ⟨⟩ = andPR (pPick α c x y) F ⟨⟩ := rfl
theorem Step1_alloc {t : TypeId} : Step1T cx nm ⟨dst, .alloc t, ty, pos, aft, g⟩ α F ⟨⟩ = andPR (gT cx.T t (pAlloc cx.T nm t α)) F ⟨⟩ := rfl
theorem Step1_box {t : TypeId} {x : Operand} : Step1T cx nm ⟨dst, .box t x, ty, pos, aft, g⟩ α F ⟨⟩ = andPR (pBox cx.T nm t α x) F ⟨⟩ := rfl
theorem Step1_build {t : TypeId} {ps : Array (Nat × Operand)} : Step1T cx nm ⟨dst, .build t ps, ty, pos, aft, g⟩ α F ⟨⟩ = andPR (gT cx.T t (pBuild cx.T t α ps)) F ⟨⟩ := rfl
theorem Step1_load {t : TypeId} {x : Operand} : Step1T cx nm ⟨dst, .load t x, ty, pos, aft, g⟩ α F ⟨⟩ = andPR (gT cx.T t (pLoad cx.T t α x)) F ⟨⟩ := rfl
theorem Step1_store {t : TypeId} {x y : Operand} : Step1T cx nm ⟨none, .store t x y, ty, pos, aft, g⟩ α F ⟨⟩ = andPR (gT cx.T t (pStoreX cx.T t α x y)) F ⟨⟩ := rfl
theorem Step1_buildS {t : TypeId} {len : Nat} {ps : Array (Nat × Operand)} : Step1T cx nm ⟨dst, .buildSlice t len ps, ty, pos, aft, g⟩ α F ⟨⟩ = andPR (gT cx.T t (pBuildS cx.T t α len ps)) F ⟨⟩ := rfl
theorem Step1_make {t : TypeId} {x y : Operand} : Step1T cx nm ⟨dst, .makeSlice t x y, ty, pos, aft, g⟩ α F ⟨⟩ = andPR (gT cx.T t (pMake cx.T nm t α x y)) F ⟨⟩ := rfl
theorem Step1_nil {x : Operand} : Step1T cx nm ⟨dst, .nilCheck x, ty, pos, aft, g⟩ α F ⟨⟩ = andPR (pNil α x) F ⟨⟩ := rfl
theorem Step1_bin {o : BinOp} {t u : TypeId} {x y : Operand} : Step1T cx nm ⟨dst, .binOp o t x y u, ty, pos, aft, g⟩ α F ⟨⟩ = andPR (gT cx.T t (pBin cx.T cx.E.ok o t α x y)) F ⟨⟩ := rfl
theorem Step1_un {o : UnOp} {t : TypeId} {x : Operand} : Step1T cx nm ⟨dst, .unOp o t x, ty, pos, aft, g⟩ α F ⟨⟩ = andPR (pUn o α x) F ⟨⟩ := rfl
theorem Step1_conv {s t : TypeId} {x : Operand} : Step1T cx nm ⟨dst, .convert s t x, ty, pos, aft, g⟩ α F ⟨⟩ = andPR (gT cx.T s (gT cx.T t (pConvA cx.T nm s t α x))) F ⟨⟩ := rfl
theorem Step1_func {fn : Fn} {first caps : Array Operand} : Step1T cx nm ⟨dst, .makeFunc fn first caps, ty, pos, aft, g⟩ α F ⟨⟩ = andPR (pFunc α fn first caps) F ⟨⟩ := rfl
theorem Step1_slice {t : TypeId} {x : Operand} {lo hi mx : Option Operand} : Step1T cx nm ⟨dst, .slice t x lo hi mx, ty, pos, aft, g⟩ α F ⟨⟩ = andPR (gT cx.T t (if isLen (cx.T t).k then pSlice cx.T t α x lo hi mx else gT cx.T (cx.T t).k.elem (pSlice cx.T t α x lo hi mx))) F ⟨⟩ := rfl
theorem Step1_fieldAddr {t : TypeId} {x : Operand} {f : Nat} : Step1T cx nm ⟨dst, .fieldAddr t x f, ty, pos, aft, g⟩ α F ⟨⟩ = andPR (gT cx.T t (pFieldAddr cx.T t α x f)) F ⟨⟩ := rfl
theorem Step1_field {t : TypeId} {x : Operand} {f : Nat} : Step1T cx nm ⟨dst, .field t x f, ty, pos, aft, g⟩ α F ⟨⟩ = andPR (gT cx.T t (pField cx.T t α x f)) F ⟨⟩ := rfl
theorem Step1_indexAddr {t : TypeId} {x y : Operand} : Step1T cx nm ⟨dst, .indexAddr t x y, ty, pos, aft, g⟩ α F ⟨⟩ = andPR (gT cx.T t (gT cx.T (cx.T t).k.elem (pIndexAddr cx.T t α x y))) F ⟨⟩ := rfl
theorem Step1_index {t : TypeId} {x y : Operand} : Step1T cx nm ⟨dst, .index t x y, ty, pos, aft, g⟩ α F ⟨⟩ = andPR (gT cx.T t (pIndex cx.T t α x y)) F ⟨⟩ := rfl
theorem Step1_extract {x : Operand} {k : Nat} : Step1T cx nm ⟨dst, .extract x k, ty, pos, aft, g⟩ α F ⟨⟩ = andPR (pExtract α x k) F ⟨⟩ := rfl
theorem Step1_len {x : Operand} {t : TypeId} : Step1T cx nm ⟨dst, .call { callee := .builtin .len, args := #[x], argTypes := #[t] }, ty, pos, aft, g⟩ α F ⟨⟩ = andPR (gT cx.T t (pLen cx.T t α x)) F ⟨⟩ := rfl
theorem Step1_min {xs : Array Operand} {ts : Array TypeId} : Step1T cx nm ⟨dst, .call { callee := .builtin .min, args := xs, argTypes := ts }, ty, pos, aft, g⟩ α F ⟨⟩ = andPR (pMM false α xs.toList) F ⟨⟩ := rfl
theorem Step1_max {xs : Array Operand} {ts : Array TypeId} : Step1T cx nm ⟨dst, .call { callee := .builtin .max, args := xs, argTypes := ts }, ty, pos, aft, g⟩ α F ⟨⟩ = andPR (pMM true α xs.toList) F ⟨⟩ := rfl
theorem Step1_append {x y : Operand} {t xt : TypeId} : Step1T cx nm ⟨dst, .call { callee := .builtin .append, args := #[x, y], argTypes := #[t, xt] }, ty, pos, aft, g⟩ α F ⟨⟩ =
    andPR (gT cx.T t (gT cx.T xt (gT cx.T (cx.T t).k.elem (if isSl (cx.T t).k then pApp cx.T (cx.IM nm) nm t xt α x y else none)))) F ⟨⟩ := rfl
def callK (P : Program) (f : Option (FuncId × List AV)) (as : List AV) (H : Nat → Option HE) (F : KF) (_ : Tg F) : Prop :=
  match f with
  | some (f, caps) => CallA P f (as ++ caps) H F
  | none => False
theorem Step1_call {fo : Operand} {xs : Array Operand} {ts : Array TypeId} : Step1T cx nm ⟨dst, .call { callee := .value fo, args := xs, argTypes := ts }, ty, pos, aft, g⟩ α F ⟨⟩ = callK P (fnOf (α.ev fo)) (argsA cx.T α xs.toList ts.toList) α.H F ⟨⟩ := by
  simp only [Step1T, Step1, callK]
  cases fnOf (α.ev fo) <;> rfl
/-- A call of f. -/
def CallT (P : Program) (f : FuncId) (as : List AV) (H : Nat → Option HE) (F : KF) (_ : Tg F) : Prop := CallA P f as H F
theorem callK_some {f : FuncId} {caps as : List AV} {H : Nat → Option HE} {t : Tg F} : callK P (some (f, caps)) as H F t = CallT P f (as ++ caps) H F t := rfl
theorem call_pf {f : FuncId} {as : List AV} {H : Nat → Option HE} {t : Tg F} {ds : List D} {res : D} (h : PF P f ds res) (hd : toDs as = some ds) (hk : F (.d res) [] []) : CallT P f as H F t := .inl ⟨ds, res, hd, h, hk⟩
def allR (φ : Nat → Nat) (H : Nat → Option HE) : List (Nat × HE) → Prop
  | [] => True
  | (n, e) :: r => H (φ n) = some (e.ren φ) ∧ allR φ H r
def allN (φ : Nat → Nat) (hs : List (Nat × HE)) (H : Nat → Option HE) : List (Nat × HE) → Prop
  | [] => True
  | (n, e) :: r => (inE hs n = false → H (φ n) = none) ∧ allN φ hs H r
theorem allR_mem {φ : Nat → Nat} {H : Nat → Option HE} : ∀ {l : List (Nat × HE)}, allR φ H l → ∀ p ∈ l, H (φ p.1) = some (p.2.ren φ)
  | [], _, p, hp => by simp at hp
  | (n, e) :: r, h, p, hp => by
    rcases List.mem_cons.1 hp with q | q
    · subst q; exact h.1
    · exact allR_mem h.2 p q
theorem allN_mem {φ : Nat → Nat} {hs : List (Nat × HE)} {H : Nat → Option HE} : ∀ {l : List (Nat × HE)}, allN φ hs H l → ∀ p ∈ l, inE hs p.1 = false → H (φ p.1) = none
  | [], _, p, hp => by simp at hp
  | (n, e) :: r, h, p, hp => by
    rcases List.mem_cons.1 hp with q | q
    · subst q; exact h.1
    · exact allN_mem h.2 p q
theorem call_pe {f : FuncId} {as cs : List AV} {H : Nat → Option HE} {t : Tg F} {hs hs' : List (Nat × HE)} {x : AV} (h : PE P f cs hs x hs') (φ : Nat → Nat) (h1 : as = AVs.ren φ cs) (h2 : okE φ cs hs x hs' = true)
    (h3 : allR φ H hs) (h4 : allN φ hs H hs') (hk : F (x.ren φ) (hs'.map fun p => φ p.1) (hs'.map fun p => (φ p.1, some (p.2.ren φ)))) : CallT P f as H F t :=
  .inr (.inr ⟨φ, cs, hs, x, hs', h1, h2, fun n e hn => allR_mem h3 _ (hE_mem hn), allN_mem h4, .inl h, hk⟩)
theorem call_px {f : FuncId} {as cs : List AV} {H : Nat → Option HE} {t : Tg F} {hs hs' : List (Nat × HE)} {x : AV} (h : PX P f cs hs x hs') (φ : Nat → Nat) (h1 : as = AVs.ren φ cs) (h2 : okE φ cs hs x hs' = true)
    (h3 : allR φ H hs) (h4 : allN φ hs H hs') (hk : F (x.ren φ) (hs'.map fun p => φ p.1) (hs'.map fun p => (φ p.1, some (p.2.ren φ)))) : CallT P f as H F t :=
  .inr (.inr ⟨φ, cs, hs, x, hs', h1, h2, fun n e hn => allR_mem h3 _ (hE_mem hn), allN_mem h4, .inr h, hk⟩)
theorem call_pb {f : FuncId} {as : List AV} {H : Nat → Option HE} {t : Tg F} {ds : List D} {res : D} (h : PF P f ds res) (ns : List Nat) (hd : resGs H as = some ds) (hl : ∀ H' : Nat → Option HE, (∀ n ∈ ns, H' n = H n) → resGs H' as = resGs H as) (hs : res.scal = true)
    (hk : F (.d res) ns []) : CallT P f as H F t := .inr (.inl ⟨ds, res, ns, hd, hl, hs, h, hk⟩)
end

theorem ev_tmp (l : List (Nat × AV)) (hs : List (Nat × Option HE)) (t : Nat) : (st l hs).ev (.tmp t) = frL l t := rfl
theorem ev_func (α : AS) (f : Nat) : α.ev (.func f) = .d (.c (.func (.func f) #[] #[])) := rfl
theorem ev_int (α : AS) (k : IntKind) (n : Int) : α.ev (.const (.int k n)) = .d (.c (.int k n)) := rfl
theorem ev_bool (α : AS) (b : Bool) : α.ev (.const (.bool b)) = .d (.c (.bool b)) := rfl
theorem ev_str (α : AS) (s : ByteArray) : α.ev (.const (.string s)) = .d (.c (.string s)) := rfl
theorem ev_ptr (α : AS) (a : Option Addr) : α.ev (.const (.pointer a)) = .d (.c (.pointer a)) := rfl
theorem ev_nilf (α : AS) : α.ev (.const .nilFunc) = .d (.c .nilFunc) := rfl
theorem evT_tmp (T : Tab) (l : List (Nat × AV)) (hs : List (Nat × Option HE)) (ty t : Nat) : evT T (st l hs) ty (.tmp t) = frL l t := rfl
theorem evT_func (T : Tab) (α : AS) (ty f : Nat) : evT T α ty (.func f) = .d (.c (.func (.func f) #[] #[])) := rfl
theorem evT_int (T : Tab) (α : AS) (ty : Nat) (k : IntKind) (n : Int) : evT T α ty (.const (.int k n)) = .d (.c (.int k n)) := rfl
theorem evT_bool (T : Tab) (α : AS) (ty : Nat) (b : Bool) : evT T α ty (.const (.bool b)) = .d (.c (.bool b)) := rfl
theorem evT_str (T : Tab) (α : AS) (ty : Nat) (s : ByteArray) : evT T α ty (.const (.string s)) = .d (.c (.string s)) := rfl
theorem evT_nil (T : Tab) (α : AS) (ty : Nat) : evT T α ty (.const (.slice none 0 0)) = .fl (T ((T ty).k.elem)).size [] := rfl
theorem pMove_tmp (T : Tab) (ty : Nat) (l : List (Nat × AV)) (hs : List (Nat × Option HE)) (t : Nat) : pMove T ty (st l hs) (.tmp t) = pv (frL l t) := rfl
theorem pMove_int (T : Tab) (ty : Nat) (α : AS) (k : IntKind) (n : Int) : pMove T ty α (.const (.int k n)) = pv (.d (.c (.int k n))) := rfl
theorem pMove_bool (T : Tab) (ty : Nat) (α : AS) (b : Bool) : pMove T ty α (.const (.bool b)) = pv (.d (.c (.bool b))) := rfl
theorem pMove_str (T : Tab) (ty : Nat) (α : AS) (s : ByteArray) : pMove T ty α (.const (.string s)) = pv (.d (.c (.string s))) := rfl
theorem pMove_nil (T : Tab) (ty : Nat) (α : AS) : pMove T ty α (.const (.slice none 0 0)) = pv (.fl (T ((T ty).k.elem)).size []) := rfl
theorem pMove_func (T : Tab) (ty : Nat) (α : AS) (f : Nat) : pMove T ty α (.func f) = pv (.d (.c (.func (.func f) #[] #[]))) := rfl
theorem pMove_ptr (T : Tab) (ty : Nat) (α : AS) (a : Option Addr) : pMove T ty α (.const (.pointer a)) = pv (.d (.c (.pointer a))) := rfl
theorem st_H (l : List (Nat × AV)) (hs : List (Nat × Option HE)) (n : Nat) : (st l hs).H n = hL hs n := rfl
theorem st_fr (l : List (Nat × AV)) (hs : List (Nat × Option HE)) (n : Nat) : (st l hs).fr n = frL l n := rfl
theorem ite_and_true (c : Prop) [Decidable c] (x : Option PR) : (if True ∧ c then x else none) = if c then x else none := by simp

/-! ### Rules, what follows behind a name -/
section
variable {B : Base} {Q : Exit → AS → Prop} {α : AS}
/-- The text's next piece, what follows behind a name. -/
def onN (K : AS → Prop) (Q : Exit → AS → Prop) : Exit → AS → Prop
  | .normal, α => K α
  | e, α => Q e α
theorem aw_seq {x y : Code} (h : ∀ K : AS → Prop, (∀ α, awp P B y Q α → K α) → awp P B x (onN K Q) α) : awp P B (.seq x y) Q α := by
  refine awp_seq fun a w hr => Code.wp_mono (fun e a w hq => ?_) (h _ (fun _ h => h) a w hr)
  obtain ⟨β, h1, h2⟩ := hq
  exact ⟨β, h1, by cases e <;> exact h2⟩
theorem aw_region {cx : Cx P} {id N : Nat} {l : List Oper} {K : AS → Prop} (hN : B.N = N) (h : lexT cx id N l (fun β _ => K β) [] 0 α [] ⟨⟩) : awp P B (.region id l.toArray false) (onN K Q) α := by
  subst hN
  exact awp_region (cx := cx) (lexT_lex h)
theorem aw_draw {cx : Cx P} {id N : Nat} {l : List Oper} {K : AS → Prop} (hN : B.N = N) (h : lexT cx id N l (fun β tr => okReg N l.toArray tr = true ∧ K β) [] 0 α [] ⟨⟩) : awp P B (.region id l.toArray true) (onN K Q) α := by
  subst hN
  exact awp_draw (cx := cx) (lexT_lex h)
theorem aw_regionE {cx : Cx P} {id N : Nat} {l : List Oper} (hN : B.N = N) (h : lexT cx id N l (fun β _ => Q .normal β) [] 0 α [] ⟨⟩) : awp P B (.region id l.toArray false) Q α := by
  subst hN
  exact awp_region (cx := cx) (lexT_lex h)
theorem aw_drawE {cx : Cx P} {id N : Nat} {l : List Oper} (hN : B.N = N) (h : lexT cx id N l (fun β tr => okReg N l.toArray tr = true ∧ Q .normal β) [] 0 α [] ⟨⟩) : awp P B (.region id l.toArray true) Q α := by
  subst hN
  exact awp_draw (cx := cx) (lexT_lex h)
end
attribute [go_sem] andPR_some andPR_none andPR_pv andPR_pc lex_nil lex_op lex_guard lex_appN lex_appC lex_appA lookG addG dOk guardK_tt guardK_tf guardK_ft guardK_ff callK_some ev_tmp ev_func ev_int ev_bool ev_str ev_ptr ev_nilf evT_tmp evT_func evT_int evT_bool evT_str evT_nil pMove_tmp pMove_int pMove_bool pMove_str pMove_nil pMove_func pMove_ptr st_H st_fr frL hL putL updL gT isLen isSl TK.elem TK.agg TK.fields pPick pAlloc pBox pBuild pLoad pStore pStoreX stX pStoreE pBuildS pMake repA chunk flatD D.cells pNil pBin pUn pConv pConvA isU8 pFunc pSlice pFieldAddr pField pIndexAddr pIndex pExtract pLen pMM pApp newsOf partA partD norm toDs toD AV.cells flat putCells fillA sizesOf evParts zA optN argsA fnOf abin intBin strBin isNil nonNil isPtr isNilV isPtrV onN
attribute [go_sem] List.map_cons List.map_nil Option.bind_some Option.getD_some List.getElem?_toArray List.getElem?_cons_succ List.getElem?_cons_zero true_and and_true params Option.map_some if_true if_false Bool.false_eq_true
attribute [go_sem] Step1_move Step1_assign Step1_pick Step1_alloc Step1_box Step1_build Step1_load Step1_store Step1_buildS Step1_make Step1_nil Step1_bin Step1_un Step1_conv Step1_func Step1_slice Step1_fieldAddr Step1_field Step1_indexAddr Step1_index Step1_extract Step1_len Step1_min Step1_max Step1_append Step1_call
end Go.AM
