/- The abstract machine, part 12: rows: append, freeze, stores. -/
import Derived.Test.YtnmhinolpnnkkaaGreatZam11
import Derived.Laws.BytesArg
set_option linter.unusedSimpArgs false
set_option linter.unusedVariables false
namespace Go.AM
open Go.RowKit Go.Lib
variable {P : Program} {T : Tab}

theorem HOk.row_els {σ : Sig} {ρ : Names} {w : World} {n : Nat} {e : TypeId} {sz k : Nat} {xs : List (List D)} (h : HOk σ ρ w n (.row e sz k xs)) :
    ∃ v us, ρ n = some (.row k v) ∧ RowAt w e sz v xs.length us ∧ Els σ sz xs us ∧ ∀ g, rowBlock v = some g → ∀ o, σ g o = none := by
  obtain ⟨v, us, h1, h2, h3, h4, h5⟩ := h
  exact ⟨v, us, h1, h2, ⟨h2.1, h3, h4⟩, h5⟩
theorem HOk.of_row {σ : Sig} {ρ : Names} {w : World} {n : Nat} {e : TypeId} {sz k : Nat} {xs : List (List D)} {v : Value} {us : List Value} (h1 : ρ n = some (.row k v)) (h2 : RowAt w e sz v xs.length us) (h3 : Els σ sz xs us)
    (h4 : ∀ g, rowBlock v = some g → ∀ o, σ g o = none) : HOk σ ρ w n (.row e sz k xs) := ⟨v, us, h1, h2, h3.2.1, h3.2.2, h4⟩

section
variable {B : Base} {σ : Sig} {ρ : Names} {α : AS} {a : Act} {w : World}
/-- A row goes on. -/
theorem Inv.row_on (h : Inv B σ ρ α a w) {m k : Nat} {v v' : Value} {w' : World} {e : TypeId} {sz : Nat} {xs : List (List D)} {us : List Value} {e0 : HE} (hH : α.H m = some e0) (hρ : ρ m = some (.row k v))
    (hr : RowAt w' e sz v' xs.length us) (hE : Els σ sz xs us) (hg : w.grownBy w' (rowBlock v)) (hb : ∀ b, rowBlock v' = some b → rowBlock v = some b ∨ w.heap.size ≤ b) :
    ∃ ρ', Inv B σ ρ' ⟨α.fr, setH α.H m (some (.row e sz (k + 1) xs))⟩ a w' ∧ ρ' m = some (.row (k + 1) v') := by
  have hle : ρ.le (setN ρ m (some (.row (k + 1) v'))) := by
    intro n l hn
    by_cases e1 : n = m
    · subst e1
      rw [hρ] at hn
      cases hn
      exact ⟨k + 1, v', by simp [setN], Nat.le_succ k, fun e => by omega⟩
    · simp only [setN, if_neg e1]
      exact Names.le_refl ρ n l hn
  refine ⟨setN ρ m (some (.row (k + 1) v')), ?_, by simp [setN]⟩
  refine h.grow1 m hg (fun _ _ => rfl) (fun b o u hb hs => ?_) (fun n hn => by simp [setN, hn]) (fun n hn => setH_ne _ _ hn) hle (fun e' he => ?_) (fun he => ?_) (fun l b h1 h2 => ?_) (fun b hb => ⟨_, hρ, hb⟩)
  · rw [h.new hb] at hs; cases hs
  · rw [setH_same] at he
    cases he
    refine .of_row (by simp [setN]) hr hE fun g hg' o => ?_
    rcases hb g hg' with h1 | h1
    · exact (h.named hρ h1).2 o
    · exact h.new h1 o
  · rw [setH_same] at he; cases he
  · simp only [setN, if_true, Option.some.injEq] at h1
    subst h1
    rcases hb b h2 with h3 | h3
    · exact .inr ⟨_, hρ, h3⟩
    · exact .inl h3
/-- A row is new. -/
theorem Inv.row_new (h : Inv B σ ρ α a w) {m : Nat} {v' : Value} {w' : World} {e : TypeId} {sz : Nat} {xs : List (List D)} {us : List Value} (hH : α.H m = none)
    (hr : RowAt w' e sz v' xs.length us) (hE : Els σ sz xs us) (hg : w.grownBy w' none) (hb : ∀ b, rowBlock v' = some b → w.heap.size ≤ b) :
    ∃ ρ', Inv B σ ρ' ⟨α.fr, setH α.H m (some (.row e sz 0 xs))⟩ a w' ∧ ρ' m = some (.row 0 v') := by
  have h0 := h.dom m hH
  refine ⟨setN ρ m (some (.row 0 v')), ?_, by simp [setN]⟩
  refine h.grow1 m hg (fun _ _ => rfl) (fun b o u hb hs => ?_) (fun n hn => by simp [setN, hn]) (fun n hn => setH_ne _ _ hn) (setN_le h0) (fun e' he => ?_) (fun he => ?_) (fun l b h1 h2 => ?_) (fun b hb => by cases hb)
  · rw [h.new hb] at hs; cases hs
  · rw [setH_same] at he
    cases he
    exact .of_row (by simp [setN]) hr hE fun g hg' o => h.new (hb g hg') o
  · rw [setH_same] at he; cases he
  · simp only [setN, if_true, Option.some.injEq] at h1
    subst h1
    exact .inl (hb b h2)
end

/-- The cells of a row that will not change any more. -/
def addRow (σ : Sig) (v : Value) (us : List Value) : Sig := fun b o => if rowBlock v = some b then us[o]? else σ b o
theorem addRow_le {σ : Sig} {v : Value} {us : List Value} (h : ∀ g, rowBlock v = some g → ∀ o, σ g o = none) : ∀ b o u, σ b o = some u → addRow σ v us b o = some u := by
  intro b o u hs
  unfold addRow
  split
  · rename_i hb; rw [h b hb o] at hs; cases hs
  · exact hs
theorem rd_of_row {σ : Sig} {w : World} {e : TypeId} {sz : Nat} {v : Value} {us : List Value} {xs : List (List D)} (hr : RowAt w e sz v xs.length us) (hE : Els σ sz xs us) (h : ∀ g, rowBlock v = some g → ∀ o, σ g o = none) :
    Rd (addRow σ v us) (.l sz xs) v := by
  rcases hr.2 with ⟨h0, a, rfl⟩ | ⟨g, cap, cur, fr, rfl, hg, hfr, hnc, hcm, hcs, htake⟩
  · have : xs = [] := List.eq_nil_of_length_eq_zero h0
    subst this
    exact .nil _ _ _
  · refine .l (fun i j => us.getD (i * sz + j) undef) rfl hnc (fun i x hx => (hE.2.2 i x hx).1) (fun i j hi hj => ?_) (fun i j hi hj => ?_) fun i x hx j d hd => ((hE.2.2 i x hx).2 j d hd).mono (addRow_le h)
    all_goals
      have : (i + 1) * sz ≤ xs.length * sz := Nat.mul_le_mul_right _ hi
      rw [Nat.succ_mul] at this
      have hlt : i * sz + j < us.length := by rw [hE.1]; omega
    · simp only [addRow, rowBlock, if_true, Nat.zero_add, List.getD_eq_getElem?_getD, List.getElem?_eq_getElem hlt, Option.getD_some]
    · rw [List.getD_eq_getElem?_getD, List.getElem?_eq_getElem hlt]
      exact hE.2.1 _ (List.getElem_mem hlt)
theorem addRow_sig {σ : Sig} {w : World} {e : TypeId} {sz : Nat} {v : Value} {us : List Value} {n : Nat} (hr : RowAt w e sz v n us) (hs : ∀ b o u, σ b o = some u → w.cell? ⟨b, o, none⟩ = some u) :
    ∀ b o u, addRow σ v us b o = some u → w.cell? ⟨b, o, none⟩ = some u := by
  intro b o u hu
  unfold addRow at hu
  split at hu
  · rename_i hb; exact hr.cells hb o u hu
  · exact hs b o u hu

/-! ### append -/
def pApp (T : Tab) (im : Bool) (nm : Nat) (t xt : TypeId) (α : AS) (x y : Operand) : Option PR :=
  if (T (T t).k.elem).bytes = 0 then none else
  match newsOf T xt (T t).k.elem (evT T α xt y) with
  | none => none
  | some ys => match evT T α t x with
    | .s m k => match α.H m with
      | some (.row e sz k' xs) => if k = k' ∧ e = (T t).k.elem ∧ sz = (T e).size then
          some ⟨(xs.length + ys.length) * (T e).bytes ≤ 140737488355328, .s m (k + 1), [m], [(m, some (.row e sz (k + 1) (xs ++ ys)))]⟩ else none
      | _ => none
    | .fl sz xs => if sz = (T (T t).k.elem).size then
        if im then some ⟨(xs.length + ys.length) * (T (T t).k.elem).bytes ≤ 140737488355328, .d (.l sz (xs ++ ys)), [], []⟩
        else match α.H nm with
          | none => some ⟨(xs.length + ys.length) * (T (T t).k.elem).bytes ≤ 140737488355328 ∧ (xs.length = 0 ∨ 0 < ys.length), .s nm 0, [nm], [(nm, some (.row (T t).k.elem sz 0 (xs ++ ys)))]⟩
          | some _ => none
      else none
    | _ => none

theorem app_exec {o : Oper} {x y : Operand} {ts : Array TypeId} (ho : o.op = .call { callee := .builtin .append, args := #[x, y], argTypes := ts }) (a : Act) {w w' : World} {v : Value} (h : (Builtin.append_ ts o.type #[a.eval x, a.eval y]).run P w = .ok v w') :
    (execOp a.eval o).run P w = .ok (.value v) w' := by
  simp only [execOp, ho, resolve, invoke, builtin, List.map_toArray, List.map_cons, List.map_nil, Sem.run_bind, Sem.run_pure, Result.andThen_ok, h]

/-- A slice without spare room is appended to. -/
theorem fl_app {t xt ty e : TypeId} (ht : P.underlying t = some (.slice e)) (he : TOk P e (T e)) {σ : Sig} {w : World} {a : Option Addr} {xs : List (List D)} (hr : Rd σ (.l (T e).size xs) (.slice a xs.length xs.length)) (hs : ∀ b o u, σ b o = some u → w.cell? ⟨b, o, none⟩ = some u)
    {x : Value} {m : Nat} {news : List Value} (hx : News P w xt (T e).size x m news) (hm : 0 < m) (h63 : xs.length + m ≤ maxLen) (hb : (xs.length + m) * (T e).bytes ≤ 140737488355328) :
    ∃ v' w' us, (Builtin.append_ #[t, xt] ty #[.slice a xs.length xs.length, x]).run P w = .ok v' w' ∧ RowAt w' e (T e).size v' (xs.length + m) (us ++ news) ∧ Els σ (T e).size xs us ∧ w.grownBy w' none ∧ ∀ b, rowBlock v' = some b → w.heap.size ≤ b := by
  obtain ⟨us, a', c', hv, hc, hE, hf⟩ := els_of (P := P) hr hs
  have hmax : xs.length + m ≤ 9223372036854775807 := by simp only [maxLen] at h63; omega
  have hcap : xs.length < xs.length + m := by omega
  obtain ⟨zs, h1, h2⟩ := run_app_grow (ty := ty) ht he hf hx hcap (by omega) (growslice_fits hcap hb)
  have hge := grownCap_ge w (xs.length + m) xs.length e
  have hcm := grownCap_le_maxLen w (xs.length + m) xs.length e h63
  obtain ⟨c2, hc2⟩ : ∃ c', grownCap w (xs.length + m) xs.length e = c' + 1 := ⟨grownCap w (xs.length + m) xs.length e - 1, by omega⟩
  rw [hc2] at h1 h2 hge hcm
  refine ⟨_, _, us, h1, ⟨?_, .inr ⟨w.heap.size, c2, _, (0, 0), rfl, heap_alloc_new w.drew _, .inl rfl, hge, hcm, ?_, ?_⟩⟩, hE, ⟨rfl, rfl, rfl, by simp, fun k hk _ => by rw [heap_alloc_old w.drew _ hk]; rfl⟩, fun b hb => ?_⟩
  · rw [List.length_append, hE.1, hx.size, Nat.add_mul]
  · simp only [List.size_toArray, List.length_append, h2, hE.1, hx.size, ← Nat.add_mul]
    congr 1
    omega
  · have : (xs.length + m) * (T e).size = (us ++ news).length := by rw [List.length_append, hE.1, hx.size, Nat.add_mul]
    rw [this]
    exact List.take_left
  · simp only [rowBlock, Option.some.injEq] at hb
    omega

theorem pApp_ok (hT : ∀ t, (T t).size ≠ 0 → TOk P t (T t)) {o : Oper} {α : AS} {im : Bool} {nm : Nat} {t xt : TypeId} {x y : Operand} (ho : o.op = .call { callee := .builtin .append, args := #[x, y], argTypes := #[t, xt] })
    (hz : (T t).size ≠ 0) (hzx : (T xt).size ≠ 0) (hze : (T (T t).k.elem).size ≠ 0) (hk : ∃ e, (T t).k = .slice e) {pr : PR} (h : pApp T im nm t xt α x y = some pr) : Snd P o α pr := by
  obtain ⟨e, hk⟩ := hk
  have ht := (hT t hz).slice hk
  have hel : (T t).k.elem = e := by rw [hk]; rfl
  rw [hel] at hze
  have he := hT e hze
  unfold pApp at h
  rw [hel] at h
  split at h <;> first | (cases h; done) | skip
  rename_i hby
  split at h <;> first | (cases h; done) | skip
  rename_i ys hys
  have small : ∀ n : Nat, n * (T e).bytes ≤ 140737488355328 → n ≤ maxLen := by
    intro n hn
    have : n ≤ n * (T e).bytes := Nat.le_mul_of_pos_right _ (by omega)
    simp only [maxLen]; omega
  split at h <;> first | (cases h; done) | skip
  · rename_i m k hx
    split at h <;> first | (cases h; done) | skip
    rename_i e' sz k' xs hH
    split at h <;> first | (cases h; done) | skip
    rename_i hq
    obtain ⟨rfl, rfl, rfl⟩ := hq
    simp only [Option.some.injEq] at h; subst h
    refine snd_world fun hc B σ ρ a w hi => ?_
    obtain ⟨v0, us, q1, q2, q3, q4⟩ := (hi.hok m _ hH).row_els
    have hr := evT_rd (T := T) hi t x
    rw [hx] at hr
    have hv : a.eval x = v0 := by
      generalize a.eval x = v at hr
      cases hr with | s hr hkk hv hs =>
      rw [q1] at hr
      obtain ⟨rfl, rfl⟩ : k = _ ∧ v0 = _ := by simpa using hr
      exact hv rfl
    obtain ⟨news, n1, n2⟩ := newsOf_ok hT hzx hys (evT_rd (T := T) hi xt y) hi.sig
    obtain ⟨v', w', r1, r2, r3, r4⟩ := row_app (ty := o.type) ht he q2 n1 (small _ hc) hc
    rw [← List.length_append] at r2
    obtain ⟨ρ', hi', hm⟩ := hi.row_on (sz := (T e').size) hH q1 r2 (q3.append n2) r3 r4
    exact ⟨v', w', σ, ρ', app_exec ho a (by rw [hv]; exact r1), hi', .s hm (Nat.le_refl _) (fun _ => rfl) (by obtain ⟨_, _, rfl, _⟩ := r2.form; rfl)⟩
  · rename_i sz xs hx
    split at h <;> first | (cases h; done) | skip
    rename_i hsz
    subst hsz
    split at h
    · simp only [Option.some.injEq] at h; subst h
      refine snd_world fun hc B σ ρ a w hi => ?_
      have hr := evT_rd (T := T) hi t x
      rw [hx] at hr
      generalize hv : a.eval x = v at hr
      cases hr with | @fl _ _ ad n hr =>
      obtain ⟨ad', c', hf, _⟩ := l_form hr
      cases hf
      obtain ⟨news, n1, n2⟩ := newsOf_ok hT hzx hys (evT_rd (T := T) hi xt y) hi.sig
      rcases Nat.eq_zero_or_pos ys.length with h0 | h0
      · rw [h0] at n1
        have : ys = [] := List.eq_nil_of_length_eq_zero h0
        subst this
        refine ⟨_, w, σ, ρ, app_exec ho a (by rw [hv]; exact run_app_none ht he n1 (Nat.le_refl _)), hi, ?_⟩
        rw [List.append_nil]; exact .d hr
      · obtain ⟨v', w', us, r1, r2, r3, r4, r5⟩ := fl_app (ty := o.type) ht he hr hi.sig n1 h0 (small _ hc) hc
        rw [← List.length_append] at r2
        have hnew : ∀ g, rowBlock v' = some g → ∀ o, σ g o = none := fun g hg o => hi.new (r5 g hg) o
        refine ⟨v', w', addRow σ v' (us ++ news), ρ, app_exec ho a (by rw [hv]; exact r1), ?_, .d (rd_of_row r2 (r3.append n2) hnew)⟩
        refine hi.grow0 r4 (fun b hb => ?_) fun b oo u hb hs => ?_
        · funext o
          unfold addRow
          rw [if_neg]
          intro hb2
          have := r5 b hb2
          omega
        · unfold addRow at hs
          split at hs
          · rename_i hb2; exact r2.cells hb2 oo u hs
          · rw [hi.new hb] at hs; cases hs
    · split at h <;> first | (cases h; done) | skip
      rename_i hH
      simp only [Option.some.injEq] at h; subst h
      refine snd_world fun hc B σ ρ a w hi => ?_
      have hr := evT_rd (T := T) hi t x
      rw [hx] at hr
      generalize hv : a.eval x = v at hr
      cases hr with | @fl _ _ ad n hr =>
      obtain ⟨ad', c', hf, _⟩ := l_form hr
      cases hf
      obtain ⟨news, n1, n2⟩ := newsOf_ok hT hzx hys (evT_rd (T := T) hi xt y) hi.sig
      rcases Nat.eq_zero_or_pos ys.length with h0 | h0
      · have hx0 : xs.length = 0 := by omega
        have e1 : xs = [] := List.eq_nil_of_length_eq_zero hx0
        have e2 : ys = [] := List.eq_nil_of_length_eq_zero h0
        subst e1; subst e2
        have hrow : RowAt w e (T e).size (.slice ad 0 0) ([] ++ [] : List (List D)).length [] := ⟨by simp, .inl ⟨rfl, ad, rfl⟩⟩
        obtain ⟨ρ', hi', hm⟩ := hi.row_new (e := e) (sz := (T e).size) hH hrow ⟨by simp, by simp, fun i x hx => by simp at hx⟩ ⟨rfl, rfl, rfl, Nat.le_refl _, fun _ _ _ => rfl⟩ (fun b hb => by simp [rowBlock] at hb)
        exact ⟨_, w, σ, ρ', app_exec ho a (by rw [hv]; exact run_app_none ht he n1 (Nat.le_refl _)), hi', .s hm (Nat.le_refl _) (fun _ => rfl) rfl⟩
      · obtain ⟨v', w', us, r1, r2, r3, r4, r5⟩ := fl_app (ty := o.type) ht he hr hi.sig n1 h0 (small _ hc.1) hc.1
        rw [← List.length_append] at r2
        obtain ⟨ρ', hi', hm⟩ := hi.row_new (sz := (T e).size) hH r2 (r3.append n2) r4 r5
        exact ⟨v', w', σ, ρ', app_exec ho a (by rw [hv]; exact r1), hi', .s hm (Nat.le_refl _) (fun _ => rfl) (by obtain ⟨_, _, rfl, _⟩ := r2.form; rfl)⟩
end Go.AM
