/- The abstract machine, part 5: parts, addresses, slices, lengths. -/
import Derived.Test.YtnmhinolpnnkkaaGreatZam4
set_option linter.unusedSimpArgs false
set_option linter.unusedVariables false
namespace Go.AM
open Go.RowKit
variable {P : Program} {T : Tab}

/-! ### Parts of values -/
def partA (T : Tab) (ty : TypeId) (cs : List AV) (off : Nat) : Option AV :=
  if (T ty).k.agg then (if off + (T ty).size ≤ cs.length then some (norm (.g ((cs.drop off).take (T ty).size))) else none) else cs[off]?
def partD (T : Tab) (ty : TypeId) (cs : List D) (off : Nat) : Option D :=
  if (T ty).k.agg then (if off + (T ty).size ≤ cs.length then some (.g ((cs.drop off).take (T ty).size)) else none) else cs[off]?

theorem run_part {t : TypeId} (h : TOk P t (T t)) (us : Array Value) (off : Nat) (w : World) :
    (part t us off).run P w = if (T t).k.agg then .ok (.agg (us.extract off (off + (T t).size))) w else match us[off]? with | some v => .ok v w | none => .halt (.stuck "part: no such cell") w := by
  unfold part
  rw [Sem.run_bind, run_isAgg' h]
  cases ha : (T t).k.agg
  · simp
    cases us[off]? <;> rfl
  · simp [run_sizeOf' h]

theorem extract_getD (us : Array Value) (off n j : Nat) (hj : j < n) (h : off + n ≤ us.size) : (us.extract off (off + n)).getD j undef = us.getD (off + j) undef := by
  have h1 : j < (us.extract off (off + n)).size := by simp; omega
  have h2 : off + j < us.size := by omega
  simp only [Array.getD, h1, h2, dif_pos]
  exact Array.getElem_extract ..

theorem part_rdD {σ : Sig} {t : TypeId} (h : TOk P t (T t)) {cs : List D} {us : Array Value} {off : Nat} {d : D} (hd : partD T t cs off = some d)
    (r : Rd σ (.g cs) (.agg us)) (w : World) : ∃ v, (part t us off).run P w = .ok v w ∧ Rd σ d v := by
  cases r with | g hl ho hh =>
  rw [run_part h]
  unfold partD at hd
  split at hd
  · rename_i ha
    rw [if_pos ha]
    split at hd
    · rename_i hb
      simp only [Option.some.injEq] at hd; subst hd
      refine ⟨_, rfl, .g (by simp; omega) (fun j hj => ?_) fun j d hj => ?_⟩
      · simp only [Array.getElem_extract]; exact ho _ _
      · rw [List.getElem?_take] at hj
        split at hj
        · rename_i hlt
          rw [List.getElem?_drop] at hj
          rw [extract_getD _ _ _ _ hlt (by omega)]
          exact hh _ _ hj
        · cases hj
    · cases hd
  · rename_i ha
    rw [if_neg ha]
    have hj := (List.getElem?_eq_some_iff.1 hd).1
    rw [getD_of (show off < us.size by omega)]
    exact ⟨_, rfl, hh _ _ hd⟩

theorem part_rdA {σ : Sig} {ρ : Names} {t : TypeId} (h : TOk P t (T t)) {cs : List AV} {us : Array Value} {off : Nat} {x : AV} (hd : partA T t cs off = some x)
    (hl : us.size = cs.length) (ho : ∀ j (h : j < us.size), (us[j]).oneCell' = true) (hh : ∀ (j : Nat) (x : AV), cs[j]? = some x → RdA σ ρ x (us.getD j undef)) (w : World) :
    ∃ v, (part t us off).run P w = .ok v w ∧ RdA σ ρ x v := by
  rw [run_part h]
  unfold partA at hd
  split at hd
  · rename_i ha
    rw [if_pos ha]
    split at hd
    · rename_i hb
      simp only [Option.some.injEq] at hd; subst hd
      refine ⟨_, rfl, norm_rd (.g (by simp; omega) (fun j hj => ?_) fun j d hj => ?_)⟩
      · simp only [Array.getElem_extract]; exact ho _ _
      · rw [List.getElem?_take] at hj
        split at hj
        · rename_i hlt
          rw [List.getElem?_drop] at hj
          rw [extract_getD _ _ _ _ hlt (by omega)]
          exact hh _ _ hj
        · cases hj
    · cases hd
  · rename_i ha
    rw [if_neg ha]
    have hj := (List.getElem?_eq_some_iff.1 hd).1
    rw [getD_of (show off < us.size by omega)]
    exact ⟨_, rfl, hh _ _ hd⟩

def pField (T : Tab) (t : TypeId) (α : AS) (x : Operand) (f : Nat) : Option PR :=
  match (T t).k.fields[f]? with
  | some (off, ty) => if (T ty).size = 0 then none else
    match α.ev x with
    | .d (.g cs) => match partD T ty cs off with | some d => pv (.d d) | none => none
    | .g cs => match partA T ty cs off with | some y => pv y | none => none
    | _ => none
  | none => none
theorem TOk.field {t f off ty : Nat} (h : TOk P t (T t)) (hf : (T t).k.fields[f]? = some (off, ty)) :
    ∃ (gs : Array Field) (g : Field), P.underlying t = some (.struct gs) ∧ gs[f]? = some g ∧ g.offset = off ∧ g.type = ty := by
  cases hk : (T t).k <;> rw [hk] at hf <;> simp [TK.fields] at hf
  obtain ⟨gs, h1, h2⟩ := h.struct hk
  rw [← h2] at hf
  simp only [List.getElem?_map, Option.map_eq_some_iff, Array.getElem?_toList] at hf
  obtain ⟨g, hg, he⟩ := hf
  simp only [Prod.mk.injEq] at he
  exact ⟨gs, g, h1, hg, he.1, he.2⟩
theorem pField_ok (hT : ∀ t, (T t).size ≠ 0 → TOk P t (T t)) {o : Oper} {α : AS} {t : TypeId} {x : Operand} {f : Nat} (ho : o.op = .field t x f) (hz : (T t).size ≠ 0)
    {pr : PR} (h : pField T t α x f = some pr) : Snd P o α pr := by
  unfold pField at h
  split at h <;> first | (cases h; done) | skip
  rename_i off ty hf
  obtain ⟨gs, g, h1, h2, h3, h4⟩ := (hT t hz).field hf
  subst h3; subst h4
  split at h <;> first | (cases h; done) | skip
  rename_i hty
  have run : ∀ (us : Array Value) (w : World), (Instr.field t (.agg us) f).run P w = (part g.type us g.offset).run P w := by
    intro us w
    unfold Instr.field
    rw [Sem.run_bind, run_underlying h1]
    simp [h2, asAgg]
  split at h <;> first | (cases h; done) | skip
  · rename_i cs hx
    split at h <;> first | (cases h; done) | skip
    rename_i d hd
    simp only [pv, Option.some.injEq] at h; subst h
    refine snd_run (fun a => Instr.field t (a.eval x) f) (fun a w => by simp only [execOp, ho]) fun _ B σ ρ ac w hi => ?_
    have hr := ev_rd hi x
    rw [hx] at hr
    generalize ac.eval x = v at hr
    cases hr with | d hr =>
    have hr2 := hr
    cases hr with | g hl ho' hh =>
    obtain ⟨v, hv, hv2⟩ := part_rdD (hT _ hty) hd hr2 w
    exact ⟨v, by rw [run]; exact hv, .d hv2⟩
  · rename_i cs hx
    split at h <;> first | (cases h; done) | skip
    rename_i d hd
    simp only [pv, Option.some.injEq] at h; subst h
    refine snd_run (fun a => Instr.field t (a.eval x) f) (fun a w => by simp only [execOp, ho]) fun _ B σ ρ ac w hi => ?_
    have hr := ev_rd hi x
    rw [hx] at hr
    generalize ac.eval x = v at hr
    cases hr with | g hl ho' hh =>
    obtain ⟨v, hv, hv2⟩ := part_rdA (hT _ hty) hd hl ho' hh w
    exact ⟨v, by rw [run]; exact hv, hv2⟩

/-! ### Bytes of texts -/
def bAt (s : ByteArray) (i : Nat) : Nat := (s.data.getD i 0).toNat
def pIndex (T : Tab) (t : TypeId) (α : AS) (x i : Operand) : Option PR :=
  match (T t).k, α.ev x, α.ev i with
  | .str, .d (.c (.string s)), .d (.c (.int _ n)) => pc (0 ≤ n ∧ n < s.size) (.d (.c (.int .u8 (bAt s n.toNat))))
  | .arr len e, .d (.g cs), .d (.c (.int _ n)) => if (T e).size = 1 ∧ (T e).k.agg = false then pc (0 ≤ n ∧ n < len ∧ cs.length = len) (.d (cs.getD n.toNat (.c undef))) else none
  | _, _, _ => none
theorem pIndex_ok (hT : ∀ t, (T t).size ≠ 0 → TOk P t (T t)) {o : Oper} {α : AS} {t : TypeId} {x i : Operand} (ho : o.op = .index t x i) (hz : (T t).size ≠ 0)
    {pr : PR} (h : pIndex T t α x i = some pr) : Snd P o α pr := by
  unfold pIndex at h
  split at h <;> first | (cases h; done) | skip
  · rename_i s kk n hk hx hi'
    simp only [pc, Option.some.injEq] at h; subst h
    refine snd_run (fun a => Instr.index t (a.eval x) (a.eval i)) (fun a w => by simp only [execOp, ho]) fun hc B σ ρ ac w hi => ⟨_, ?_, .d (.c _ rfl)⟩
    rw [ev_c hi hx, ev_c hi hi']
    unfold Instr.index
    have hlt : n.toNat < s.size := by omega
    have hget : s[n.toNat]? = some (s.data.getD n.toNat 0) := by
      rw [getElem?_pos s n.toNat hlt]
      have : n.toNat < s.data.size := hlt
      simp only [Array.getD, this, dif_pos]; rfl
    simp only [Sem.run_bind, asIntOf, Sem.run_pure, Result.andThen_ok, run_underlying ((hT t hz).str hk)]
    rw [if_pos hc.1, hget]
    simp [bAt]
  · rename_i len e cs kk n hk hx hi'
    split at h <;> first | (cases h; done) | skip
    rename_i he
    simp only [pc, Option.some.injEq] at h; subst h
    refine snd_run (fun a => Instr.index t (a.eval x) (a.eval i)) (fun a w => by simp only [execOp, ho]) fun hc B σ ρ ac w hi => ?_
    have hr := ev_rd hi x
    rw [hx] at hr
    rw [ev_c hi hi']
    generalize ac.eval x = v at hr
    cases hr with | d hr =>
    cases hr with | @g _ us hl ho' hh =>
    have he1 := hT e (by omega)
    have hlt : n.toNat < cs.length := by omega
    refine ⟨us.getD n.toNat undef, ?_, .d (hh _ _ ?_)⟩
    · unfold Instr.index
      simp only [Sem.run_bind, asIntOf, Sem.run_pure, Result.andThen_ok, run_underlying ((hT t hz).arr hk)]
      rw [if_pos ⟨hc.1, hc.2.1⟩, Sem.run_bind, run_sizeOf' he1, Result.andThen_ok, run_part he1, he.2, he.1, Nat.mul_one, getD_of (show n.toNat < us.size by omega)]
      simp
    · rw [List.getD_eq_getElem?_getD, List.getElem?_eq_getElem hlt]; rfl

/-! ### Addresses -/
def pFieldAddr (T : Tab) (t : TypeId) (α : AS) (x : Operand) (f : Nat) : Option PR :=
  match (T t).k.fields[f]? with
  | some (off, ty) => if (T ty).size = 0 then none else
    match α.ev x with
    | .r n o => pv (.r n (o + off))
    | .e n k sz i j => match α.H n with
      | some (.row _ _ k' _) => if k = k' then some ⟨True, .e n k sz i (j + off), [n], []⟩ else none
      | _ => none
    | .d (.p cs) => pv (.d (.p (cs.drop off)))
    | _ => none
  | none => none
theorem run_fieldAt {t f : Nat} {gs : Array Field} {g : Field} (h1 : P.underlying t = some (.struct gs)) (h2 : gs[f]? = some g) (hty : (T g.type).size ≠ 0) (hg : TOk P g.type (T g.type)) (b o : Nat) (w : World) :
    (Instr.fieldAt t (.pointer (some ⟨b, o, none⟩)) f).run P w = .ok (.pointer (some ⟨b, o + g.offset, none⟩)) w := by
  unfold Instr.fieldAt
  rw [Sem.run_bind, run_underlying h1]
  simp only [Result.andThen_ok, h2, Instr.sureAddr, Sem.run_bind, Sem.run_pure, fieldPlace, run_sizeOf' hg]
  rw [if_neg hty]
  simp [Addr.add_mid]
theorem drop_p {σ : Sig} {cs : List D} {b o : Nat} (off : Nat) (r : Rd σ (.p cs) (.pointer (some ⟨b, o, none⟩))) : Rd σ (.p (cs.drop off)) (.pointer (some ⟨b, o + off, none⟩)) := by
  cases r with | p u h1 ho h2 =>
  refine .p (fun j => u (off + j)) (fun j hj => ?_) (fun j hj => ?_) fun j d hd => ?_
  · rw [List.length_drop] at hj
    rw [Nat.add_assoc]
    exact h1 _ (by omega)
  · rw [List.length_drop] at hj
    exact ho _ (by omega)
  · rw [List.getElem?_drop] at hd
    exact h2 _ _ hd
theorem pFieldAddr_ok (hT : ∀ t, (T t).size ≠ 0 → TOk P t (T t)) {o : Oper} {α : AS} {t : TypeId} {x : Operand} {f : Nat} (ho : o.op = .fieldAddr t x f) (hz : (T t).size ≠ 0)
    {pr : PR} (h : pFieldAddr T t α x f = some pr) : Snd P o α pr := by
  unfold pFieldAddr at h
  split at h <;> first | (cases h; done) | skip
  rename_i off ty hf
  obtain ⟨gs, g, h1, h2, h3, h4⟩ := (hT t hz).field hf
  subst h3; subst h4
  split at h <;> first | (cases h; done) | skip
  rename_i hty
  have hg := hT _ hty
  split at h <;> first | (cases h; done) | skip
  · rename_i n oo hx
    simp only [pv, Option.some.injEq] at h; subst h
    refine snd_run (fun a => Instr.fieldAt t (a.eval x) f) (fun a w => by simp only [execOp, ho]) fun _ B σ ρ ac w hi => ?_
    have hr := ev_rd hi x
    rw [hx] at hr
    generalize ac.eval x = v at hr
    cases hr with | r hr => exact ⟨_, run_fieldAt h1 h2 hty hg _ _ w, .r hr⟩
  · rename_i n k sz i j hx
    split at h <;> first | (cases h; done) | skip
    rename_i e' sz' k' xs hH
    split at h <;> first | (cases h; done) | skip
    rename_i hk
    subst hk
    simp only [Option.some.injEq] at h; subst h
    refine snd_run (fun a => Instr.fieldAt t (a.eval x) f) (fun a w => by simp only [execOp, ho]) fun _ B σ ρ ac w hi => ?_
    have hr := ev_rd hi x
    rw [hx] at hr
    obtain ⟨v0, us, q1, _⟩ := hi.hok n _ hH
    generalize ac.eval x = v at hr
    cases hr with | e hr hk hv hs =>
    rw [q1] at hr
    obtain ⟨rfl, rfl⟩ : k = _ ∧ v0 = _ := by simpa using hr
    obtain ⟨gg, hg1, rfl⟩ := hv rfl
    exact ⟨_, run_fieldAt h1 h2 hty hg _ _ w, .e q1 (Nat.le_refl _) (fun _ => ⟨gg, hg1, by rw [Nat.add_assoc]⟩) rfl⟩
  · rename_i cs hx
    simp only [pv, Option.some.injEq] at h; subst h
    refine snd_run (fun a => Instr.fieldAt t (a.eval x) f) (fun a w => by simp only [execOp, ho]) fun _ B σ ρ ac w hi => ?_
    have hr := ev_rd hi x
    rw [hx] at hr
    generalize ac.eval x = v at hr
    cases hr with | d hr =>
    have hr2 := hr
    cases hr with | p u h1' ho' h2' => exact ⟨_, run_fieldAt h1 h2 hty hg _ _ w, .d (drop_p _ hr2)⟩
end Go.AM
