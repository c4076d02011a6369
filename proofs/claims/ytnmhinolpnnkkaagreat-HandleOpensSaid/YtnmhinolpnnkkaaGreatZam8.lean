/- The abstract machine, part 8: addresses of elements, slices, lengths, structs that are built. -/
import Derived.Test.YtnmhinolpnnkkaaGreatZam7
set_option linter.unusedSimpArgs false
set_option linter.unusedVariables false
namespace Go.AM
open Go.RowKit
variable {P : Program} {T : Tab}

def pNil (α : AS) (x : Operand) : Option PR :=
  match α.ev x with
  | .r n o => pv (.r n o)
  | .d (.p cs) => pv (.d (.p cs))
  | .d (.c (.pointer (some a))) => pv (.d (.c (.pointer (some a))))
  | .f (.func f) cs => pv (.f (.func f) cs)
  | .d (.f (.func f) cs) => pv (.d (.f (.func f) cs))
  | .d (.c (.func (.func f) us vs)) => pv (.d (.c (.func (.func f) us vs)))
  | .e n k sz i j => match α.H n with
    | some (.row _ _ k' _) => if k = k' then some ⟨True, .e n k sz i j, [n], []⟩ else none
    | _ => none
  | _ => none
theorem e_val {B : Base} {σ : Sig} {ρ : Names} {α : AS} {a : Act} {w : World} (hi : Inv B σ ρ α a w) {n k sz i j : Nat} {x : Operand} (hx : α.ev x = .e n k sz i j) {e' sz' : Nat} {xs : List (List D)} (hH : α.H n = some (.row e' sz' k xs)) :
    ∃ g v0, ρ n = some (.row k v0) ∧ rowBlock v0 = some g ∧ a.eval x = .pointer (some ⟨g, i * sz + j, none⟩) := by
  have hr := ev_rd hi x
  rw [hx] at hr
  obtain ⟨v0, us, q1, _⟩ := hi.hok n _ hH
  generalize a.eval x = v at hr
  cases hr with | e hr hk hv hs =>
  rw [q1] at hr
  obtain ⟨rfl, rfl⟩ : k = _ ∧ v0 = _ := by simpa using hr
  obtain ⟨gg, hg1, rfl⟩ := hv rfl
  exact ⟨gg, v0, q1, hg1, rfl⟩
theorem pNil_ok {o : Oper} {α : AS} {x : Operand} (ho : o.op = .nilCheck x) {pr : PR} (h : pNil α x = some pr) : Snd P o α pr := by
  have run : ∀ (a : Act) (w : World) (v : Value), a.eval x = v → (match v with | .pointer (some _) | .func (.func _) _ _ => True | _ => False) → (execOp a.eval o).run P w = .ok (.value v) w := by
    intro a w v hv hk
    simp only [execOp, ho, hv]
    split at hk <;> first | rfl | exact hk.elim
  unfold pNil at h
  split at h <;> first | (cases h; done) | skip
  case h_7 n k sz i j hx =>
    split at h <;> first | (cases h; done) | skip
    rename_i e' sz' k' xs hH
    split at h <;> first | (cases h; done) | skip
    rename_i hk
    subst hk
    simp only [Option.some.injEq] at h; subst h
    refine snd_val fun _ B σ ρ ac w hi => ?_
    obtain ⟨g, v0, h1, h2, h3⟩ := e_val hi hx hH
    exact ⟨_, run ac w _ h3 trivial, .e h1 (Nat.le_refl _) (fun _ => ⟨g, h2, rfl⟩) rfl⟩
  all_goals
    rename_i hx
    simp only [pv, Option.some.injEq] at h; subst h
    refine snd_val fun _ B σ ρ ac w hi => ?_
    have hr := ev_rd hi x
    rw [hx] at hr
    refine ⟨_, run ac w _ rfl ?_, hr⟩
    generalize ac.eval x = v at hr
    first
      | (cases hr with | r hr => trivial)
      | (cases hr with | f hl hh => trivial)
      | (cases hr with | d hr => cases hr <;> trivial)

/-! ### The address of an element -/
def pIndexAddr (T : Tab) (t : TypeId) (α : AS) (x i : Operand) : Option PR :=
  match α.ev i with
  | .d (.c (.int _ n)) => match (T t).k, α.ev x with
    | .slice e, .d (.l sz xs) => if (T e).size = sz then pc (0 ≤ n ∧ n < xs.length) (.d (.p (atD xs n))) else none
    | .slice e, .fl sz xs => if (T e).size = sz then pc (0 ≤ n ∧ n < xs.length) (.d (.p (atD xs n))) else none
    | .slice e, .s m k => match α.H m with
      | some (.row _ sz k' xs) => if (T e).size = sz ∧ k = k' then some ⟨0 ≤ n ∧ n < xs.length, .e m k sz n.toNat 0, [m], []⟩ else none
      | _ => none
    | .arr len e, .r m o => if 2 ≤ len then pc (0 ≤ n ∧ n < len) (.r m (o + n.toNat * (T e).size)) else none
    | .arr len e, .d (.p cs) => if 2 ≤ len then pc (0 ≤ n ∧ n < len) (.d (.p (cs.drop (n.toNat * (T e).size)))) else none
    | _, _ => none
  | _ => none

theorem run_indexSlice {t e : TypeId} (h : P.underlying t = some (.slice e)) (he : TOk P e (T e)) {a : Addr} {len cap : Nat} {k : IntKind} {n : Int} (hb : 0 ≤ n ∧ n < len) (w : World) :
    (Instr.indexAt t (.slice (some a) len cap) (.int k n)).run P w = .ok (.pointer (some (a.add (n.toNat * (T e).size)))) w := by
  unfold Instr.indexAt
  simp only [asIntOf, Sem.run_bind, Sem.run_pure, Result.andThen_ok, run_underlying h]
  rw [if_pos hb]
  simp [run_sizeOf' he]
theorem run_indexArr {t e : TypeId} {len : Nat} (h : P.underlying t = some (.array len e)) (he : TOk P e (T e)) {a : Addr} {k : IntKind} {n : Int} (hb : 0 ≤ n ∧ n < len) (w : World) :
    (Instr.indexAt t (.pointer (some a)) (.int k n)).run P w = .ok (.pointer (some (a.add (n.toNat * (T e).size)))) w := by
  unfold Instr.indexAt
  simp only [asIntOf, Sem.run_bind, Sem.run_pure, Result.andThen_ok, run_underlying h, Instr.sureAddr]
  rw [if_pos hb]
  simp [run_sizeOf' he]
theorem elem_p {σ : Sig} {sz : Nat} {xs : List (List D)} {b o c n i : Nat} (hi : i < xs.length) (r : Rd σ (.l sz xs) (.slice (some ⟨b, o, none⟩) n c)) : Rd σ (.p (xs[i]?.getD [])) (.pointer (some ⟨b, o + i * sz, none⟩)) := by
  cases r with
  | nil => simp at hi
  | l u hn hc hz h1 ho h2 =>
    subst hn
    have hx : xs[i]? = some xs[i] := List.getElem?_eq_getElem hi
    rw [hx]
    have hl := hz i _ hx
    refine .p (u i) (fun j hj => ?_) (fun j hj => ?_) (h2 i _ hx)
    · rw [Nat.add_assoc]; exact h1 i j hi (by simpa [hl] using hj)
    · exact ho i j hi (by simpa [hl] using hj)
theorem l_some {σ : Sig} {sz : Nat} {xs : List (List D)} {v : Value} (hx : xs ≠ []) (r : Rd σ (.l sz xs) v) : ∃ b o c, v = .slice (some ⟨b, o, none⟩) xs.length c := by
  cases r with
  | nil => exact absurd rfl hx
  | l u hn hc hz h1 ho h2 => subst hn; exact ⟨_, _, _, rfl⟩

theorem pIndexAddr_ok (hT : ∀ t, (T t).size ≠ 0 → TOk P t (T t)) {o : Oper} {α : AS} {t : TypeId} {x i : Operand} (ho : o.op = .indexAddr t x i) (hz : (T t).size ≠ 0) (hze : (T (T t).k.elem).size ≠ 0)
    {pr : PR} (h : pIndexAddr T t α x i = some pr) : Snd P o α pr := by
  unfold pIndexAddr at h
  split at h <;> first | (cases h; done) | skip
  rename_i kk n hin
  have ht := hT t hz
  split at h <;> first | (cases h; done) | skip
  · rename_i e sz xs hk hx
    split at h <;> first | (cases h; done) | skip
    rename_i hsz
    rw [hk] at hze
    have he := hT e hze
    simp only [pc, Option.some.injEq] at h; subst h
    refine snd_run (fun a => Instr.indexAt t (a.eval x) (a.eval i)) (fun a w => by simp only [execOp, ho]) fun hc B σ ρ ac w hi => ?_
    have hr := ev_rd hi x
    rw [hx] at hr
    rw [ev_c hi hin]
    generalize ac.eval x = v at hr
    cases hr with | d hr =>
    obtain ⟨b, oo, c, rfl⟩ := l_some (by rintro rfl; simp at hc; omega) hr
    refine ⟨_, run_indexSlice (ht.slice hk) he hc w, ?_⟩
    rw [Addr.add_mid, hsz]
    exact .d (elem_p (by omega) hr)
  · rename_i e sz xs hk hx
    split at h <;> first | (cases h; done) | skip
    rename_i hsz
    rw [hk] at hze
    have he := hT e hze
    simp only [pc, Option.some.injEq] at h; subst h
    refine snd_run (fun a => Instr.indexAt t (a.eval x) (a.eval i)) (fun a w => by simp only [execOp, ho]) fun hc B σ ρ ac w hi => ?_
    have hr := ev_rd hi x
    rw [hx] at hr
    rw [ev_c hi hin]
    generalize ac.eval x = v at hr
    cases hr with | fl hr =>
    obtain ⟨b, oo, c, hv⟩ := l_some (by rintro rfl; simp at hc; omega) hr
    rw [hv] at hr ⊢
    refine ⟨_, run_indexSlice (ht.slice hk) he hc w, ?_⟩
    rw [Addr.add_mid, hsz]
    exact .d (elem_p (by omega) hr)
  · rename_i e m k hk hx
    split at h <;> first | (cases h; done) | skip
    rename_i e' sz k' xs hH
    split at h <;> first | (cases h; done) | skip
    rename_i hq
    obtain ⟨hsz, rfl⟩ := hq
    rw [hk] at hze
    have he := hT e hze
    simp only [Option.some.injEq] at h; subst h
    refine snd_run (fun a => Instr.indexAt t (a.eval x) (a.eval i)) (fun a w => by simp only [execOp, ho]) fun hc B σ ρ ac w hi => ?_
    have hr := ev_rd hi x
    rw [hx] at hr
    rw [ev_c hi hin]
    obtain ⟨v0, us, q1, q2, q3, q4, q5⟩ := hi.hok m _ hH
    generalize ac.eval x = v at hr
    cases hr with | s hr hkk hv hs =>
    rw [q1] at hr
    obtain ⟨rfl, rfl⟩ : k = _ ∧ v0 = _ := by simpa using hr
    obtain rfl := hv rfl
    rcases q2.2 with ⟨h0, _⟩ | ⟨g, cap, cur, fr, rfl, _⟩
    · rw [h0] at hc; simp at hc; omega
    · refine ⟨_, run_indexSlice (ht.slice hk) he hc w, ?_⟩
      rw [Addr.add_mid, Nat.zero_add, hsz]
      exact .e q1 (Nat.le_refl _) (fun _ => ⟨g, rfl, rfl⟩) rfl
  · rename_i len e m oo hk hx
    split at h <;> first | (cases h; done) | skip
    rw [hk] at hze
    have he := hT e hze
    simp only [pc, Option.some.injEq] at h; subst h
    refine snd_run (fun a => Instr.indexAt t (a.eval x) (a.eval i)) (fun a w => by simp only [execOp, ho]) fun hc B σ ρ ac w hi => ?_
    have hr := ev_rd hi x
    rw [hx] at hr
    rw [ev_c hi hin]
    generalize ac.eval x = v at hr
    cases hr with | r hr =>
    refine ⟨_, run_indexArr (ht.arr hk) he hc w, ?_⟩
    rw [Addr.add_mid]
    exact .r hr
  · rename_i len e cs hk hx
    split at h <;> first | (cases h; done) | skip
    rw [hk] at hze
    have he := hT e hze
    simp only [pc, Option.some.injEq] at h; subst h
    refine snd_run (fun a => Instr.indexAt t (a.eval x) (a.eval i)) (fun a w => by simp only [execOp, ho]) fun hc B σ ρ ac w hi => ?_
    have hr := ev_rd hi x
    rw [hx] at hr
    rw [ev_c hi hin]
    generalize ac.eval x = v at hr
    cases hr with | d hr =>
    have hr2 := hr
    cases hr with | p u h1 ho' h2 =>
    refine ⟨_, run_indexArr (ht.arr hk) he hc w, ?_⟩
    rw [Addr.add_mid]
    exact .d (drop_p _ hr2)

/-! ### Slices of slices and of texts -/
def optN (α : AS) (d : Int) : Option Operand → Option Int
  | none => some d
  | some x => match α.ev x with | .d (.c (.int _ n)) => some n | _ => none
def pSlice (T : Tab) (t : TypeId) (α : AS) (x : Operand) (lo hi mx : Option Operand) : Option PR :=
  match (T t).k, α.ev x with
  | .str, .d (.c (.string s)) => match optN α 0 lo, optN α s.size hi, mx.map α.ev with
    | some l, some h, none => pc (0 ≤ l ∧ l ≤ h ∧ h ≤ s.size) (.d (.c (.string (s.extract l.toNat h.toNat))))
    | _, _, _ => none
  | .slice e, .d (.l sz xs) => if (T e).size = sz then
      match optN α 0 lo, optN α xs.length hi, mx.map α.ev, hi with
      | some l, some h, none, _ => pc (0 ≤ l ∧ l ≤ h ∧ h ≤ xs.length) (.d (.l sz ((xs.take h.toNat).drop l.toNat)))
      | some l, some h, some (.d (.c (.int _ m))), some _ => pc (0 ≤ l ∧ l ≤ h ∧ h ≤ xs.length ∧ m = h) (.fl sz ((xs.take h.toNat).drop l.toNat))
      | _, _, _, _ => none
    else none
  | .slice e, .fl sz xs => if (T e).size = sz then
      match optN α 0 lo, optN α xs.length hi, mx.map α.ev with
      | some l, some h, none => pc (0 ≤ l ∧ l ≤ h ∧ h ≤ xs.length) (.d (.l sz ((xs.take h.toNat).drop l.toNat)))
      | _, _, _ => none
    else none
  | _, _ => none

theorem slice_rd {σ : Sig} {sz : Nat} {xs : List (List D)} {a : Option Addr} {n c l h m : Nat} (hl : l ≤ h) (hh : h ≤ xs.length) (hm : h ≤ m) (r : Rd σ (.l sz xs) (.slice a n c)) :
    Rd σ (.l sz ((xs.take h).drop l)) (.slice (if m = l then a else a.map (·.add (l * sz))) (h - l) (m - l)) := by
  rcases Nat.lt_or_ge l h with hlt | hge
  · cases r with
    | nil => simp at hh; omega
    | l u hn hc hz h1 ho h2 =>
      subst hn
      rw [if_neg (by omega), Option.map_some, Addr.add_mid]
      refine .l (fun i j => u (l + i) j) (by simp; omega) (by omega) (fun i x hx => ?_) (fun i j hi hj => ?_) (fun i j hi hj => ho _ _ (by omega) hj) fun i x hx => ?_
      · rw [List.getElem?_drop, List.getElem?_take] at hx
        split at hx
        · exact hz _ _ hx
        · cases hx
      · have := h1 (l + i) j (by omega) hj
        rw [Nat.add_mul] at this
        rw [← this]
        congr 1
        omega
      · rw [List.getElem?_drop, List.getElem?_take] at hx
        split at hx
        · exact h2 _ _ hx
        · cases hx
  · have e1 : (xs.take h).drop l = [] := by apply List.eq_nil_of_length_eq_zero; simp; omega
    rw [e1, show h - l = 0 by omega]
    exact .nil _ _ _

theorem run_bound {k : IntKind} {n : Int} {y : Nat} {code : BoundsCode} (h : 0 ≤ n ∧ n ≤ y) (w : World) : (Instr.sliceBound (.int k n) y code).run P w = .ok n.toNat w := by
  unfold Instr.sliceBound
  simp only [asIntOf, Sem.run_bind, Sem.run_pure, Result.andThen_ok]
  rw [if_pos h]; rfl

theorem optN_val {B : Base} {σ : Sig} {ρ : Names} {α : AS} {a : Act} {w : World} (hi : Inv B σ ρ α a w) {d n : Int} {x : Option Operand} (h : optN α d x = some n) :
    (x = none ∧ n = d) ∨ ∃ y k, x = some y ∧ a.eval y = .int k n := by
  cases x with
  | none => exact .inl ⟨rfl, by simpa [optN] using h.symm⟩
  | some y =>
    simp only [optN] at h
    split at h <;> first | (cases h; done) | skip
    rename_i k m hy
    simp only [Option.some.injEq] at h; subst h
    exact .inr ⟨y, k, rfl, ev_c hi hy⟩

theorem run_bounds {lo hi : Option Value} {l h : Int} {len cap : Nat} {isS : Bool} (hlo : (lo = none ∧ l = 0) ∨ ∃ k, lo = some (.int k l)) (hhi : (hi = none ∧ h = len) ∨ ∃ k, hi = some (.int k h))
    (h0 : 0 ≤ l) (h1 : l ≤ h) (h2 : h ≤ cap) (hlc : len ≤ cap) (w : World) : (Instr.sliceBounds isS len cap lo hi none).run P w = .ok (l.toNat, h.toNat, cap) w := by
  unfold Instr.sliceBounds
  rcases hlo with ⟨rfl, rfl⟩ | ⟨k1, rfl⟩ <;> rcases hhi with ⟨rfl, rfl⟩ | ⟨k2, rfl⟩
  · simp
  · simp [run_bound (P := P) (k := k2) (n := h) (y := cap) ⟨by omega, h2⟩]
  · simp [run_bound (P := P) (k := k1) (n := l) (y := len) ⟨h0, by omega⟩]
  · simp [run_bound (P := P) (k := k2) (n := h) (y := cap) ⟨by omega, h2⟩, run_bound (P := P) (k := k1) (n := l) (y := h.toNat) ⟨h0, by omega⟩]
theorem run_bounds3 {lo hi : Option Value} {l h : Int} {len cap : Nat} {km : IntKind} (hlo : (lo = none ∧ l = 0) ∨ ∃ k, lo = some (.int k l)) (hhi : ∃ k, hi = some (.int k h))
    (h0 : 0 ≤ l) (h1 : l ≤ h) (h2 : h ≤ cap) (w : World) : (Instr.sliceBounds true len cap lo hi (some (.int km h))).run P w = .ok (l.toNat, h.toNat, h.toNat) w := by
  unfold Instr.sliceBounds
  obtain ⟨k2, rfl⟩ := hhi
  rcases hlo with ⟨rfl, rfl⟩ | ⟨k1, rfl⟩
  · simp [run_bound (P := P) (k := km) (n := h) (y := cap) ⟨by omega, h2⟩, run_bound (P := P) (k := k2) (n := h) (y := h.toNat) ⟨by omega, by omega⟩]
  · simp [run_bound (P := P) (k := km) (n := h) (y := cap) ⟨by omega, h2⟩, run_bound (P := P) (k := k2) (n := h) (y := h.toNat) ⟨by omega, by omega⟩, run_bound (P := P) (k := k1) (n := l) (y := h.toNat) ⟨h0, by omega⟩]

theorem map_opt {B : Base} {σ : Sig} {ρ : Names} {α : AS} {a : Act} {w : World} (hi : Inv B σ ρ α a w) {d n : Int} {x : Option Operand} (h : optN α d x = some n) :
    (x.map a.eval = none ∧ n = d) ∨ ∃ k, x.map a.eval = some (.int k n) := by
  rcases optN_val hi h with ⟨rfl, rfl⟩ | ⟨y, k, rfl, hy⟩
  · exact .inl ⟨rfl, rfl⟩
  · exact .inr ⟨k, by simp [hy]⟩

theorem TOk.notArr {t : TypeId} {ti : TI} (h : TOk P t ti) (hk : ∀ n e, ti.k ≠ .arr n e) : ∀ n e, P.underlying t ≠ some (.array n e) := by
  intro n e hu
  obtain ⟨d, h1, h2⟩ := h.desc'
  rw [hu] at h1
  cases h1
  exact hk n e h2.symm
theorem l_form {σ : Sig} {sz : Nat} {xs : List (List D)} {v : Value} (r : Rd σ (.l sz xs) v) : ∃ a c, v = .slice a xs.length c ∧ xs.length ≤ c := by
  cases r with
  | nil sz a c => exact ⟨a, c, rfl, Nat.zero_le _⟩
  | l u hn hc hz h1 ho h2 => subst hn; exact ⟨_, _, rfl, hc⟩
theorem run_sliceS {t e : TypeId} (h : P.underlying t = some (.slice e)) (he : TOk P e (T e)) {lo hi mx : Option Value} {a : Option Addr} {len cap l hh m : Nat} {w : World} (hb : (Instr.sliceBounds true len cap lo hi mx).run P w = .ok (l, hh, m) w) :
    (Instr.sliceAt t (.slice a len cap) lo hi mx).run P w = .ok (.slice (if m = l then a else a.map (·.add (l * (T e).size))) (hh - l) (m - l)) w := by
  unfold Instr.sliceAt
  simp only [Sem.run_bind, run_underlying h, Result.andThen_ok]
  unfold Instr.slice
  simp only [Sem.run_bind, run_underlying h, Result.andThen_ok, hb, run_sizeOf' he, Sem.run_pure]
theorem run_sliceT {t : TypeId} (h : P.underlying t = some .string) {lo hi : Option Value} {s : ByteArray} {l hh m : Nat} {w : World} (hb : (Instr.sliceBounds false s.size s.size lo hi none).run P w = .ok (l, hh, m) w) :
    (Instr.sliceAt t (.string s) lo hi none).run P w = .ok (.string (s.extract l hh)) w := by
  unfold Instr.sliceAt
  simp only [Sem.run_bind, run_underlying h, Result.andThen_ok]
  unfold Instr.slice
  simp only [Sem.run_bind, run_underlying h, Result.andThen_ok, hb, Sem.run_pure, Option.isSome_none, Bool.false_eq_true, if_false]

theorem pSlice_ok (hT : ∀ t, (T t).size ≠ 0 → TOk P t (T t)) {o : Oper} {α : AS} {t : TypeId} {x : Operand} {lo hi mx : Option Operand} (ho : o.op = .slice t x lo hi mx) (hz : (T t).size ≠ 0) (hze : (T t).k = .str ∨ (T (T t).k.elem).size ≠ 0)
    {pr : PR} (h : pSlice T t α x lo hi mx = some pr) : Snd P o α pr := by
  unfold pSlice at h
  have ht := hT t hz
  have ex : ∀ (a : Act) (w : World), (execOp a.eval o).run P w = (do let v ← Instr.sliceAt t (a.eval x) (lo.map a.eval) (hi.map a.eval) (mx.map a.eval); pure (.value v) : Sem Next).run P w := fun a w => by simp only [execOp, ho]
  split at h <;> first | (cases h; done) | skip
  · rename_i s hk hx
    split at h <;> first | (cases h; done) | skip
    rename_i l hh hl hhi hmx
    obtain rfl : mx = none := by cases mx <;> simp_all
    simp only [pc, Option.some.injEq] at h; subst h
    refine snd_run _ ex fun hc B σ ρ ac w hiv => ⟨_, ?_, .d (.c _ rfl)⟩
    rw [ev_c hiv hx]
    exact run_sliceT (ht.str hk) (run_bounds (map_opt hiv hl) (map_opt hiv hhi) hc.1 hc.2.1 hc.2.2 (Nat.le_refl _) w)
  · rename_i e sz xs hk hx
    have he := hT e (by rcases hze with h | h; · rw [hk] at h; cases h
                        · rw [hk] at h; exact h)
    split at h <;> first | (cases h; done) | skip
    rename_i hsz
    split at h <;> first | (cases h; done) | skip
    · rename_i l hh hl hmx hhi
      obtain rfl : mx = none := by cases mx <;> simp_all
      simp only [pc, Option.some.injEq] at h; subst h
      refine snd_run _ ex fun hc B σ ρ ac w hiv => ?_
      have hr := ev_rd hiv x
      rw [hx] at hr
      generalize ac.eval x = v at hr
      cases hr with | d hr =>
      obtain ⟨a, c, rfl, hcc⟩ := l_form hr
      refine ⟨_, run_sliceS (ht.slice hk) he (run_bounds (map_opt hiv hl) (map_opt hiv hhi) hc.1 hc.2.1 (by omega) hcc w), ?_⟩
      rw [hsz]
      exact .d (slice_rd (by omega) (by omega) (by omega) hr)
    · rename_i l hh km mm hi' hl hmx hhi
      obtain ⟨m, rfl, hm⟩ : ∃ m, mx = some m ∧ α.ev m = .d (.c (.int km mm)) := by
        cases mx with
        | none => cases hmx
        | some m => exact ⟨m, rfl, by simpa using hmx⟩
      simp only [pc, Option.some.injEq] at h; subst h
      refine snd_run _ ex fun hc B σ ρ ac w hiv => ?_
      have hr := ev_rd hiv x
      rw [hx] at hr
      generalize ac.eval x = v at hr
      cases hr with | d hr =>
      obtain ⟨a, c, rfl, hcc⟩ := l_form hr
      obtain ⟨h0, h1, h2, rfl⟩ := hc
      have hmv : Option.map ac.eval (some m) = some (.int km mm) := by rw [Option.map_some, ev_c hiv hm]
      have hh' : ∃ k, Option.map ac.eval (some hi') = some (.int k mm) := by
        rcases map_opt hiv hhi with ⟨q, _⟩ | q
        · cases q
        · exact q
      rw [hmv]
      refine ⟨_, run_sliceS (ht.slice hk) he (run_bounds3 (map_opt hiv hl) hh' h0 h1 (by omega) w), ?_⟩
      rw [hsz]
      exact .fl (slice_rd (by omega) (by omega) (Nat.le_refl _) hr)
  · rename_i e sz xs hk hx
    have he := hT e (by rcases hze with h | h; · rw [hk] at h; cases h
                        · rw [hk] at h; exact h)
    split at h <;> first | (cases h; done) | skip
    rename_i hsz
    split at h <;> first | (cases h; done) | skip
    rename_i l hh hl hhi hmx
    obtain rfl : mx = none := by cases mx <;> simp_all
    simp only [pc, Option.some.injEq] at h; subst h
    refine snd_run _ ex fun hc B σ ρ ac w hiv => ?_
    have hr := ev_rd hiv x
    rw [hx] at hr
    generalize ac.eval x = v at hr
    cases hr with | fl hr =>
    obtain ⟨a, c, hv, hcc⟩ := l_form hr
    rw [hv] at hr ⊢
    refine ⟨_, run_sliceS (ht.slice hk) he (run_bounds (map_opt hiv hl) (map_opt hiv hhi) hc.1 hc.2.1 (by omega) hcc w), ?_⟩
    rw [hsz]
    exact .d (slice_rd (by omega) (by omega) (by omega) hr)
end Go.AM
