/- The abstract machine, part 13e: calls that change what is handed in: names are turned to the callee's and back. -/
import Derived.Test.YtnmhinolpnnkkaaGreatZam13
set_option linter.unusedSimpArgs false
set_option linter.unusedVariables false
namespace Go.AM
open Go.RowKit Go.Lib
variable {P : Program}

mutual
def AV.ok (p : Nat → Bool) : AV → Bool
  | .s n _ => p n
  | .r n _ => p n
  | .e n _ _ _ _ => p n
  | .g cs => AVs.ok p cs
  | .t vs => AVs.ok p vs
  | .f _ caps => AVs.ok p caps
  | _ => true
def AVs.ok (p : Nat → Bool) : List AV → Bool
  | [] => true
  | x :: xs => x.ok p && AVs.ok p xs
end
def HE.ok (p : Nat → Bool) : HE → Bool
  | .blk _ cells => AVs.ok p cells
  | .row .. => true
theorem avs_ok {p : Nat → Bool} : ∀ {xs : List AV}, AVs.ok p xs = true → ∀ (j : Nat) (x : AV), xs[j]? = some x → x.ok p = true
  | [], _, j, x, h => by simp at h
  | y :: ys, h, j, x, hj => by
    rw [AVs.ok, Bool.and_eq_true] at h
    cases j with
    | zero => simp at hj; subst hj; exact h.1
    | succ j => exact avs_ok h.2 j x (by simpa using hj)

mutual
def AV.ren (φ : Nat → Nat) : AV → AV
  | .d x => .d x
  | .fl sz xs => .fl sz xs
  | .s n k => .s (φ n) k
  | .r n o => .r (φ n) o
  | .e n k sz i j => .e (φ n) k sz i j
  | .g cs => .g (AVs.ren φ cs)
  | .t vs => .t (AVs.ren φ vs)
  | .f fn caps => .f fn (AVs.ren φ caps)
  | .j => .j
def AVs.ren (φ : Nat → Nat) : List AV → List AV
  | [] => []
  | x :: xs => x.ren φ :: AVs.ren φ xs
end
def HE.ren (φ : Nat → Nat) : HE → HE
  | .blk t cells => .blk t (AVs.ren φ cells)
  | .row e sz k xs => .row e sz k xs
theorem avs_ren (φ : Nat → Nat) : ∀ xs : List AV, AVs.ren φ xs = xs.map (AV.ren φ)
  | [] => rfl
  | x :: xs => by rw [AVs.ren, avs_ren φ xs]; rfl

theorem RdA.back {σ : Sig} {ρ ρc : Names} {φ : Nat → Nat} {p : Nat → Bool} (hp : ∀ n, p n = true → ρc n = ρ (φ n)) {y : AV} {v : Value} (r : RdA σ ρ y v) :
    ∀ x : AV, x.ren φ = y → x.ok p = true → RdA σ ρc x v := by
  have lst : ∀ {xs ys : List AV} {us : Array Value}, AVs.ren φ xs = ys → AVs.ok p xs = true → (∀ (j : Nat) (y : AV), ys[j]? = some y → ∀ x : AV, x.ren φ = y → x.ok p = true → RdA σ ρc x (us.getD j undef)) →
      xs.length = ys.length ∧ ∀ (j : Nat) (x : AV), xs[j]? = some x → RdA σ ρc x (us.getD j undef) := by
    intro xs ys us h1 h2 h3
    rw [avs_ren] at h1
    subst h1
    refine ⟨by simp, fun j x hx => h3 j (x.ren φ) (by simp [hx]) x rfl (avs_ok h2 j x hx)⟩
  induction r with
  | d h => intro x hx _; cases x <;> simp [AV.ren] at hx; subst hx; exact .d h
  | fl h => intro x hx _; cases x <;> simp [AV.ren] at hx; obtain ⟨rfl, rfl⟩ := hx; exact .fl h
  | s h1 h2 h3 h4 => intro x hx ho; cases x <;> simp [AV.ren] at hx; obtain ⟨rfl, rfl⟩ := hx; exact .s (by rw [hp _ ho]; exact h1) h2 h3 h4
  | r h1 => intro x hx ho; cases x <;> simp [AV.ren] at hx; obtain ⟨rfl, rfl⟩ := hx; exact .r (by rw [hp _ ho]; exact h1)
  | e h1 h2 h3 h4 => intro x hx ho; cases x <;> simp [AV.ren] at hx; obtain ⟨rfl, rfl, rfl, rfl, rfl⟩ := hx; exact .e (by rw [hp _ ho]; exact h1) h2 h3 h4
  | g hl hu _ ih =>
    intro x hx ho
    cases x <;> simp [AV.ren] at hx
    obtain ⟨q1, q2⟩ := lst hx (by simpa [AV.ok] using ho) ih
    exact .g (by omega) hu q2
  | t hl _ ih =>
    intro x hx ho
    cases x <;> simp [AV.ren] at hx
    obtain ⟨q1, q2⟩ := lst hx (by simpa [AV.ok] using ho) ih
    exact .t (by omega) q2
  | f hl _ ih =>
    intro x hx ho
    cases x <;> simp [AV.ren] at hx
    obtain ⟨rfl, hx⟩ := hx
    obtain ⟨q1, q2⟩ := lst hx (by simpa [AV.ok] using ho) ih
    exact .f (by omega) q2
  | j v => intro x hx _; cases x <;> simp [AV.ren] at hx; exact .j v
theorem RdA.forth {σ : Sig} {ρ ρc : Names} {φ : Nat → Nat} {p : Nat → Bool} (hp : ∀ n, p n = true → ρ (φ n) = ρc n) {x : AV} {v : Value} (r : RdA σ ρc x v) (ho : x.ok p = true) : RdA σ ρ (x.ren φ) v := by
  induction r with
  | d h => exact .d h
  | fl h => exact .fl h
  | s h1 h2 h3 h4 => exact .s (by rw [hp _ ho]; exact h1) h2 h3 h4
  | r h1 => exact .r (by rw [hp _ ho]; exact h1)
  | e h1 h2 h3 h4 => exact .e (by rw [hp _ ho]; exact h1) h2 h3 h4
  | g hl hu _ ih =>
    rw [AV.ren, avs_ren]
    refine .g (by simpa using hl) hu fun j x hx => ?_
    simp only [List.getElem?_map, Option.map_eq_some_iff] at hx
    obtain ⟨y, hy, rfl⟩ := hx
    exact ih j y hy (avs_ok (by simpa [AV.ok] using ho) j y hy)
  | t hl _ ih =>
    rw [AV.ren, avs_ren]
    refine .t (by simpa using hl) fun j x hx => ?_
    simp only [List.getElem?_map, Option.map_eq_some_iff] at hx
    obtain ⟨y, hy, rfl⟩ := hx
    exact ih j y hy (avs_ok (by simpa [AV.ok] using ho) j y hy)
  | f hl _ ih =>
    rw [AV.ren, avs_ren]
    refine .f (by simpa using hl) fun j x hx => ?_
    simp only [List.getElem?_map, Option.map_eq_some_iff] at hx
    obtain ⟨y, hy, rfl⟩ := hx
    exact ih j y hy (avs_ok (by simpa [AV.ok] using ho) j y hy)
  | j v => exact .j v
theorem HOk.back {σ : Sig} {ρ ρc : Names} {w : World} {φ : Nat → Nat} {p : Nat → Bool} (hp : ∀ n, p n = true → ρc n = ρ (φ n)) {n : Nat} {e : HE} (h : HOk σ ρ w (φ n) (e.ren φ)) (hn : p n = true) (ho : e.ok p = true) : HOk σ ρc w n e := by
  cases e with
  | blk t cells =>
    simp only [HE.ren, avs_ren] at h
    obtain ⟨g, us, h1, h2, h3, h4, h5, h6⟩ := h
    exact ⟨g, us, by rw [hp n hn]; exact h1, h2, by simpa using h3, h4, fun j x hx => (h5 j (x.ren φ) (by simp [hx])).back hp x rfl (avs_ok ho j x hx), h6⟩
  | row e sz k xs =>
    obtain ⟨v, us, h1, h2⟩ := h
    exact ⟨v, us, by rw [hp n hn]; exact h1, h2⟩
theorem HOk.forth {σ : Sig} {ρ ρc : Names} {w : World} {φ : Nat → Nat} {p : Nat → Bool} (hp : ∀ n, p n = true → ρ (φ n) = ρc n) {n : Nat} {e : HE} (h : HOk σ ρc w n e) (hn : p n = true) (ho : e.ok p = true) : HOk σ ρ w (φ n) (e.ren φ) := by
  cases e with
  | blk t cells =>
    obtain ⟨g, us, h1, h2, h3, h4, h5, h6⟩ := h
    simp only [HE.ren, avs_ren]
    refine ⟨g, us, by rw [hp n hn]; exact h1, h2, by simpa using h3, h4, fun j x hx => ?_, h6⟩
    simp only [List.getElem?_map, Option.map_eq_some_iff] at hx
    obtain ⟨y, hy, rfl⟩ := hx
    exact (h5 j y hy).forth hp (avs_ok ho j y hy)
  | row e sz k xs =>
    obtain ⟨v, us, h1, h2⟩ := h
    exact ⟨v, us, by rw [hp n hn]; exact h1, h2⟩

/-- What stands behind a list's names. -/
def hE : List (Nat × HE) → Nat → Option HE
  | [], _ => none
  | (m, e) :: r, n => if n = m then some e else hE r n
def inE (hs : List (Nat × HE)) (n : Nat) : Bool := (hE hs n).isSome
theorem hE_mem : ∀ {hs : List (Nat × HE)} {n : Nat} {e : HE}, hE hs n = some e → (n, e) ∈ hs
  | [], n, e, h => by simp [hE] at h
  | (m, e0) :: r, n, e, h => by
    rw [hE] at h
    split at h
    · rename_i q; subst q; simp only [Option.some.injEq] at h; subst h; simp
    · exact List.mem_cons_of_mem _ (hE_mem h)
theorem inE_some {hs : List (Nat × HE)} {n : Nat} (h : inE hs n = true) : ∃ e, hE hs n = some e := by
  unfold inE at h
  exact Option.isSome_iff_exists.1 h

/-- The part of a state that names stand for. -/
structure HpOk (σ : Sig) (ρ : Names) (w : World) (H : Nat → Option HE) : Prop where
  sig : SigOk σ w
  hok : ∀ n e, H n = some e → HOk σ ρ w n e
  dom : ∀ n, H n = none → ρ n = none
  inj : ∀ n m l l' b, n ≠ m → ρ n = some l → ρ m = some l' → l.block = some b → l'.block ≠ some b

/-- What a call has done: beside what was handed in by name nothing that was there has changed. -/
structure Done (σ : Sig) (ρ : Names) (w : World) (σ' : Sig) (ρ' : Names) (w' : World) : Prop where
  os : w'.os = w.os
  tape : w'.tape = w.tape
  out : w'.output = w.output
  size : w.heap.size ≤ w'.heap.size
  same : ∀ b, b < w.heap.size → (∀ n l, ρ n = some l → l.block ≠ some b) → w'.heap[b]? = w.heap[b]? ∧ σ' b = σ b
  le : ρ.le ρ'
  own : ∀ n l b, ρ' n = some l → l.block = some b → w.heap.size ≤ b ∨ ∃ m l0, ρ m = some l0 ∧ l0.block = some b

/-- Called with 'as', where 'hs' stands behind names, the function returns 'x', and 'hs'' stands behind names. -/
def PE (P : Program) (f : FuncId) (as : List AV) (hs : List (Nat × HE)) (x : AV) (hs' : List (Nat × HE)) : Prop := FnOk P f ∧
  ∀ (w : World) (σ : Sig) (ρ : Names) (vs : Array Value), HpOk σ ρ w (hE hs) → vs.size = as.length → (∀ (j : Nat) (y : AV), as[j]? = some y → RdA σ ρ y (vs.getD j undef)) →
    Calls P f vs w fun e w' => ∃ v σ' ρ', e = .returned v ∧ HpOk σ' ρ' w' (hE hs') ∧ RdA σ' ρ' x v ∧ Done σ ρ w σ' ρ' w'

/-- The lists fit: each name that is spoken of is listed; none is lost; different names stay so. -/
def okE (φ : Nat → Nat) (as : List AV) (hs : List (Nat × HE)) (x : AV) (hs' : List (Nat × HE)) : Bool :=
  AVs.ok (inE hs) as && hs.all (fun p => p.2.ok (inE hs) && inE hs' p.1) && x.ok (inE hs') && hs'.all (fun p => p.2.ok (inE hs')) &&
  (hs'.all fun p => hs'.all fun q => p.1 == q.1 || φ p.1 != φ q.1) && decide (hs'.map (·.1)).Nodup

theorem updH_none {n : Nat} : ∀ (l : List (Nat × Option HE)) (H : Nat → Option HE), n ∉ l.map (·.1) → updH H l n = H n
  | [], H, _ => rfl
  | (m, e) :: r, H, h => by
    simp only [List.map_cons, List.mem_cons, not_or] at h
    rw [updH, updH_none r _ h.2, setH, if_neg h.1]
theorem updH_ren {φ : Nat → Nat} {k : Nat} {e : HE} : ∀ (hs : List (Nat × HE)) (H : Nat → Option HE), (∀ p ∈ hs, ∀ q ∈ hs, p.1 = q.1 ∨ φ p.1 ≠ φ q.1) → hE hs k = some e → (∀ p ∈ hs, φ p.1 = φ k → p.1 = k) →
    (hs.map (·.1)).Nodup → updH H (hs.map fun p => (φ p.1, some (p.2.ren φ))) (φ k) = some (e.ren φ)
  | [], H, _, h, _, _ => by simp [hE] at h
  | (m, e0) :: r, H, hi, h, hk, hn => by
    simp only [List.map_cons, List.nodup_cons] at hn
    rw [hE] at h
    rw [List.map_cons, updH]
    split at h
    · rename_i q
      subst q
      simp only [Option.some.injEq] at h; subst h
      rw [updH_none]
      · simp [setH]
      · simp only [List.map_map, List.mem_map, Function.comp, not_exists, not_and]
        intro p hp he
        exact hn.1 (by rw [← hk p (List.mem_cons_of_mem _ hp) he]; exact List.mem_map_of_mem hp)
    · exact updH_ren r _ (fun p hp q hq => hi p (List.mem_cons_of_mem _ hp) q (List.mem_cons_of_mem _ hq)) h (fun p hp => hk p (List.mem_cons_of_mem _ hp)) hn.2

theorem args_rd {σ : Sig} {ρ : Names} {B : Base} {α : AS} {a : Act} {w : World} (hi : Inv B σ ρ α a w) (T : Tab) {args : Array Operand} {ts : Array TypeId} {caps : List AV} {us : Array Value} (hl : us.size = caps.length)
    (hu : ∀ (j : Nat) (y : AV), caps[j]? = some y → RdA σ ρ y (us.getD j undef)) :
    (args.map a.eval ++ us).size = (argsA T α args.toList ts.toList ++ caps).length ∧ ∀ (j : Nat) (y : AV), (argsA T α args.toList ts.toList ++ caps)[j]? = some y → RdA σ ρ y ((args.map a.eval ++ us).getD j undef) := by
  have hlen : (argsA T α args.toList ts.toList).length = args.size := by simp [argsA]
  refine ⟨by simp [hlen, hl], fun j x hx => ?_⟩
  rw [List.getElem?_append] at hx
  split at hx
  · rename_i hlt
    have hlt' : j < args.size := by omega
    have e1 : (args.map a.eval ++ us).getD j undef = a.eval args[j] := by
      simp [Array.getD, hlt', show j < args.size + us.size by omega, Array.getElem_append_left, hlt']
    rw [e1]
    simp only [argsA, List.getElem?_map, List.getElem?_zipIdx, Option.map_map] at hx
    rw [List.getElem?_eq_getElem (by simpa using hlt')] at hx
    simp only [Option.map_some, Option.some.injEq, Function.comp] at hx
    subst hx
    have := evT_rd (T := T) hi (ts.toList.getD (0 + j) 0) args[j]
    simpa using this
  · rename_i hge
    have e1 : (args.map a.eval ++ us).getD j undef = us.getD (j - args.size) undef := by
      simp only [Array.getD_eq_getD_getElem?]
      rw [Array.getElem?_append_right (by simp; omega)]
      simp
    rw [e1]
    rw [hlen] at hx
    exact hu _ _ hx

theorem inE_of_mem : ∀ {hs : List (Nat × HE)} {p : Nat × HE}, p ∈ hs → inE hs p.1 = true
  | [], p, hp => by simp at hp
  | (m, e) :: r, p, hp => by
    unfold inE
    rw [hE]
    split
    · rfl
    · rename_i h
      rcases List.mem_cons.1 hp with q | q
      · subst q; exact absurd rfl h
      · exact inE_of_mem q
theorem le_of {l : Loc} {x : Option Loc} (h : l.le x) : ∃ l', x = some l' := by
  cases l with
  | blk g => exact ⟨_, h⟩
  | row k v => obtain ⟨k', v', h1, _⟩ := h; exact ⟨_, h1⟩
theorem Names.le_iff {ρ ρ' : Names} : ρ.le ρ' ↔ ∀ n l, ρ n = some l → l.le (ρ' n) := by
  constructor
  · intro h n l hl
    have := h n l hl
    cases l <;> exact this
  · intro h n l hl
    have := h n l hl
    cases l <;> exact this

/-- The world after a call: the invariant goes on. -/
theorem Inv.call {B : Base} {σ : Sig} {ρ : Names} {α : AS} {a : Act} {w : World} (hi : Inv B σ ρ α a w) {φ : Nat → Nat} {as : List AV} {hs hs' : List (Nat × HE)} {x : AV} (hok : okE φ as hs x hs' = true)
    (hH : ∀ n e, hE hs n = some e → α.H (φ n) = some (e.ren φ)) (hnew : ∀ p ∈ hs', inE hs p.1 = false → α.H (φ p.1) = none) {σ' : Sig} {ρ' : Names} {w' : World}
    (hp : HpOk σ' ρ' w' (hE hs')) (hd : Done σ (fun k => if inE hs k then ρ (φ k) else none) w σ' ρ' w') :
    ∃ ρ2, Inv B σ' ρ2 ⟨α.fr, updH α.H (hs'.map fun p => (φ p.1, some (p.2.ren φ)))⟩ a w' ∧ ∀ n, inE hs' n = true → ρ2 (φ n) = ρ' n := by
  classical
  simp only [okE, Bool.and_eq_true, List.all_eq_true, decide_eq_true_eq, Bool.or_eq_true, beq_iff_eq, bne_iff_ne] at hok
  obtain ⟨⟨⟨⟨⟨o1, o2⟩, o3⟩, o4⟩, o5⟩, o6⟩ := hok
  have inj : ∀ n m, inE hs' n = true → inE hs' m = true → φ n = φ m → n = m := by
    intro n m h1 h2 h3
    obtain ⟨e1, h1⟩ := inE_some h1
    obtain ⟨e2, h2⟩ := inE_some h2
    rcases o5 _ (hE_mem h1) _ (hE_mem h2) with h | h
    · exact h
    · exact absurd h3 h
  have sub : ∀ n, inE hs n = true → inE hs' n = true := fun n h => by
    obtain ⟨e, h⟩ := inE_some h
    exact (o2 _ (hE_mem h)).2
  let ρ2 : Names := fun n => if h : ∃ k, inE hs' k = true ∧ φ k = n then ρ' h.choose else ρ n
  have r1 : ∀ n, inE hs' n = true → ρ2 (φ n) = ρ' n := by
    intro n hn
    have hex : ∃ k, inE hs' k = true ∧ φ k = φ n := ⟨n, hn, rfl⟩
    show (if h : ∃ k, inE hs' k = true ∧ φ k = φ n then ρ' h.choose else ρ (φ n)) = _
    rw [dif_pos hex]
    have := hex.choose_spec
    rw [inj _ _ this.1 hn this.2]
  have r2 : ∀ n, (∀ k, inE hs' k = true → φ k ≠ n) → ρ2 n = ρ n := by
    intro n hn
    show (if h : ∃ k, inE hs' k = true ∧ φ k = n then ρ' h.choose else ρ n) = _
    rw [dif_neg]
    rintro ⟨k, h1, h2⟩
    exact hn k h1 h2
  have img : ∀ n, (∃ k, inE hs' k = true ∧ φ k = n) ∨ ∀ k, inE hs' k = true → φ k ≠ n := by
    intro n
    by_cases h : ∃ k, inE hs' k = true ∧ φ k = n
    · exact .inl h
    · exact .inr fun k h1 h2 => h ⟨k, h1, h2⟩
  have H1 : ∀ n e, hE hs' n = some e → updH α.H (hs'.map fun p => (φ p.1, some (p.2.ren φ))) (φ n) = some (e.ren φ) := by
    intro n e hn
    refine updH_ren hs' _ o5 hn (fun p hp he => ?_) o6
    rcases o5 p hp _ (hE_mem hn) with h | h
    · exact h
    · exact absurd he h
  have H2 : ∀ n, (∀ k, inE hs' k = true → φ k ≠ n) → updH α.H (hs'.map fun p => (φ p.1, some (p.2.ren φ))) n = α.H n := by
    intro n hn
    refine updH_none _ _ ?_
    simp only [List.map_map, List.mem_map, Function.comp, not_exists, not_and]
    intro p hp he
    have : inE hs' p.1 = true := inE_of_mem hp
    exact hn _ this he
  -- what was named ahead of the call
  have c1 : ∀ n, inE hs n = true → (fun k => if inE hs k then ρ (φ k) else none) n = ρ (φ n) := fun n hn => by simp [hn]
  have hle : ρ.le ρ2 := by
    rw [Names.le_iff]
    intro n l hl
    rcases img n with ⟨k, h1, rfl⟩ | h
    · rw [r1 k h1]
      by_cases h2 : inE hs k = true
      · exact Names.le_iff.1 hd.le k l (by simp only [h2, if_true]; exact hl)
      · obtain ⟨e, h3⟩ := inE_some h1
        rw [hi.dom _ (hnew _ (hE_mem h3) (by simpa using h2))] at hl
        cases hl
    · rw [r2 n h, hl]; exact Loc.le_refl l
  have hσ1 : ∀ b o u, σ b o = some u → σ' b o = some u := by
    intro b o u hs2
    have hb := World.block_lt_of_cell? w _ (hi.sig b o u hs2)
    have := (hd.same b hb (fun n l h1 h2 => ?_)).2
    · rw [this]; exact hs2
    · by_cases h3 : inE hs n = true
      · simp only [h3, if_true] at h1
        rw [(hi.named h1 h2).2 o] at hs2
        cases hs2
      · simp [h3] at h1
  have oth : ∀ n l b, (∀ k, inE hs' k = true → φ k ≠ n) → ρ n = some l → l.block = some b → ∀ m l0, (fun k => if inE hs k then ρ (φ k) else none) m = some l0 → l0.block ≠ some b := by
    intro n l b hn hl hb m l0 h1 h2
    by_cases h3 : inE hs m = true
    · simp only [h3, if_true] at h1
      exact hi.inj n (φ m) l l0 b (fun e => hn m (sub m h3) e.symm) hl h1 hb h2
    · simp [h3] at h1
  refine ⟨ρ2, ⟨fun t => (hi.fr t).mono hσ1 hle, hi.sz, hi.df, hp.sig, fun n e hn => ?_, fun n hn => ?_, fun n m l l' b hnm h1 h2 h3 => ?_, fun n l b h1 h2 => ?_, hd.os.trans hi.os, hd.tape.trans hi.tape, hd.out.trans hi.out, Nat.le_trans hi.size hd.size, fun b hb hS => ?_, fun b hb hS => ?_, hi.le.trans hle⟩, r1⟩
  · rcases img n with ⟨k, h1, rfl⟩ | h
    · obtain ⟨e', h2⟩ := inE_some h1
      rw [show (AS.mk α.fr (updH α.H (hs'.map fun p => (φ p.1, some (p.2.ren φ))))).H (φ k) = some (e'.ren φ) from H1 k e' h2] at hn
      cases hn
      exact (hp.hok k e' h2).forth r1 h1 (o4 _ (hE_mem h2))
    · rw [show (AS.mk α.fr (updH α.H (hs'.map fun p => (φ p.1, some (p.2.ren φ))))).H n = α.H n from H2 n h] at hn
      refine (hi.hok n e hn).move hσ1 hle (r2 n h) fun l b h1 h2 => ?_
      have h3 := hi.named h1 h2
      have h4 := hd.same b h3.1 (oth n l b h h1 h2)
      exact ⟨h4.1, fun o => by rw [h4.2]; exact h3.2 o⟩
  · rcases img n with ⟨k, h1, rfl⟩ | h
    · obtain ⟨e', h2⟩ := inE_some h1
      rw [show (AS.mk α.fr (updH α.H (hs'.map fun p => (φ p.1, some (p.2.ren φ))))).H (φ k) = some (e'.ren φ) from H1 k e' h2] at hn
      cases hn
    · rw [r2 n h]
      exact hi.dom n ((H2 n h).symm.trans hn)
  · rcases img n with ⟨k, q1, rfl⟩ | q1
    · rw [r1 k q1] at h1
      rcases img m with ⟨k', q2, rfl⟩ | q2
      · rw [r1 k' q2] at h2
        exact hp.inj k k' l l' b (fun e => hnm (by rw [e])) h1 h2 h3
      · rw [r2 m q2] at h2
        intro h4
        rcases hd.own k l b h1 h3 with h5 | ⟨m0, l0, h5, h6⟩
        · have := (hi.named h2 h4).1; omega
        · exact oth m l' b q2 h2 h4 m0 l0 h5 h6
    · rw [r2 n q1] at h1
      rcases img m with ⟨k', q2, rfl⟩ | q2
      · rw [r1 k' q2] at h2
        intro h4
        rcases hd.own k' l' b h2 h4 with h5 | ⟨m0, l0, h5, h6⟩
        · have := (hi.named h1 h3).1; omega
        · exact oth n l b q1 h1 h3 m0 l0 h5 h6
      · rw [r2 m q2] at h2
        exact hi.inj n m l l' b hnm h1 h2 h3
  · rcases img n with ⟨k, q1, rfl⟩ | q1
    · rw [r1 k q1] at h1
      rcases hd.own k l b h1 h2 with h5 | ⟨m0, l0, h5, h6⟩
      · exact .inl (Nat.le_trans hi.size h5)
      · by_cases h3 : inE hs m0 = true
        · simp only [h3, if_true] at h5
          exact hi.own _ l0 b h5 h6
        · simp [h3] at h5
    · rw [r2 n q1] at h1
      exact hi.own n l b h1 h2
  · rw [(hd.same b (Nat.lt_of_lt_of_le hb hi.size) fun n l h1 h2 => ?_).1]
    · exact hi.keep b hb hS
    · by_cases h3 : inE hs n = true
      · simp only [h3, if_true] at h1
        rcases hi.own _ l b h1 h2 with h4 | h4
        · omega
        · exact hS h4
      · simp [h3] at h1
  · rw [(hd.same b (Nat.lt_of_lt_of_le hb hi.size) fun n l h1 h2 => ?_).2]
    · exact hi.old b hb hS
    · by_cases h3 : inE hs n = true
      · simp only [h3, if_true] at h1
        rcases hi.own _ l b h1 h2 with h4 | h4
        · omega
        · exact hS h4
      · simp [h3] at h1

theorem callE_ok (T : Tab) {o : Oper} {α : AS} {fo : Operand} {args : Array Operand} {ts : Array TypeId} (ho : o.op = .call { callee := .value fo, args, argTypes := ts }) {f : FuncId} {caps : List AV} (hf : fnOf (α.ev fo) = some (f, caps))
    {φ : Nat → Nat} {as : List AV} {hs hs' : List (Nat × HE)} {x : AV} (has : argsA T α args.toList ts.toList ++ caps = AVs.ren φ as) (hok : okE φ as hs x hs' = true)
    (hH : ∀ n e, hE hs n = some e → α.H (φ n) = some (e.ren φ)) (hnew : ∀ p ∈ hs', inE hs p.1 = false → α.H (φ p.1) = none) (h : PE P f as hs x hs') {rn : List Nat} :
    Snd P o α ⟨True, x.ren φ, rn, hs'.map fun p => (φ p.1, some (p.2.ren φ))⟩ := by
  intro B a w hdst ⟨σ, ρ, hi⟩ _
  obtain ⟨us, hv, hl, hu⟩ := fnOf_val hf (ev_rd hi fo)
  obtain ⟨hfn, hp⟩ := h
  have hok' := hok
  simp only [okE, Bool.and_eq_true, List.all_eq_true, decide_eq_true_eq, Bool.or_eq_true, beq_iff_eq, bne_iff_ne] at hok'
  obtain ⟨⟨⟨⟨⟨o1, o2⟩, o3⟩, o4⟩, o5⟩, o6⟩ := hok'
  obtain ⟨g1, g2⟩ := args_rd hi T (ts := ts) (args := args) hl hu
  rw [has, avs_ren] at g1 g2
  unfold Oper.wp
  rw [call_exec (σ := σ) (ρ := ρ) ho hv hfn]
  simp only [Oper.upon]
  have c1 : ∀ n, inE hs n = true → (fun k => if inE hs k then ρ (φ k) else none) n = ρ (φ n) := fun n hn => by simp [hn]
  refine (hp w σ (fun k => if inE hs k then ρ (φ k) else none) (args.map a.eval ++ us) ⟨hi.sig, fun n e hn => ?_, fun n hn => ?_, fun n m l l' b hnm h1 h2 h3 => ?_⟩ (by simpa using g1) fun j y hy => ?_).mono fun e w' he => ?_
  · exact (hi.hok _ _ (hH n e hn)).back c1 (by unfold inE; rw [hn]; rfl) (o2 _ (hE_mem hn)).1
  · simp [inE, hn]
  · by_cases q1 : inE hs n = true
    · by_cases q2 : inE hs m = true
      · simp only [q1, q2, if_true] at h1 h2
        refine hi.inj _ _ l l' b (fun e => hnm ?_) h1 h2 h3
        obtain ⟨e1, q1⟩ := inE_some (o2 _ (hE_mem (inE_some q1).choose_spec)).2
        obtain ⟨e2, q2⟩ := inE_some (o2 _ (hE_mem (inE_some q2).choose_spec)).2
        rcases o5 _ (hE_mem q1) _ (hE_mem q2) with h | h
        · exact h
        · exact absurd e h
      · simp [q2] at h2
    · simp [q1] at h1
  · exact (g2 j (y.ren φ) (by simp [hy])).back c1 y rfl (avs_ok o1 j y hy)
  · obtain ⟨v, σ', ρ', rfl, h1, h2, h3⟩ := he
    obtain ⟨ρ2, q1, q2⟩ := hi.call hok hH hnew h1 h3
    exact ⟨σ', ρ2, q1.put hdst (h2.forth q2 o3)⟩

/-! ### Functions without a Go body -/
def PX (P : Program) (f : FuncId) (as : List AV) (hs : List (Nat × HE)) (x : AV) (hs' : List (Nat × HE)) : Prop :=
  ∀ (w : World) (σ : Sig) (ρ : Names) (vs : Array Value), HpOk σ ρ w (hE hs) → vs.size = as.length → (∀ (j : Nat) (y : AV), as[j]? = some y → RdA σ ρ y (vs.getD j undef)) →
    ∃ v w' σ' ρ', (callFunc f vs).run P w = .ok (.value v) w' ∧ HpOk σ' ρ' w' (hE hs') ∧ RdA σ' ρ' x v ∧ Done σ ρ w σ' ρ' w'
theorem callX_ok (T : Tab) {o : Oper} {α : AS} {fo : Operand} {args : Array Operand} {ts : Array TypeId} (ho : o.op = .call { callee := .value fo, args, argTypes := ts }) {f : FuncId} {caps : List AV} (hf : fnOf (α.ev fo) = some (f, caps))
    {φ : Nat → Nat} {as : List AV} {hs hs' : List (Nat × HE)} {x : AV} (has : argsA T α args.toList ts.toList ++ caps = AVs.ren φ as) (hok : okE φ as hs x hs' = true)
    (hH : ∀ n e, hE hs n = some e → α.H (φ n) = some (e.ren φ)) (hnew : ∀ p ∈ hs', inE hs p.1 = false → α.H (φ p.1) = none) (h : PX P f as hs x hs') {rn : List Nat} :
    Snd P o α ⟨True, x.ren φ, rn, hs'.map fun p => (φ p.1, some (p.2.ren φ))⟩ := by
  intro B a w hdst ⟨σ, ρ, hi⟩ _
  obtain ⟨us, hv, hl, hu⟩ := fnOf_val hf (ev_rd hi fo)
  have hok' := hok
  simp only [okE, Bool.and_eq_true, List.all_eq_true, decide_eq_true_eq, Bool.or_eq_true, beq_iff_eq, bne_iff_ne] at hok'
  obtain ⟨⟨⟨⟨⟨o1, o2⟩, o3⟩, o4⟩, o5⟩, o6⟩ := hok'
  obtain ⟨g1, g2⟩ := args_rd hi T (ts := ts) (args := args) hl hu
  rw [has, avs_ren] at g1 g2
  have c1 : ∀ n, inE hs n = true → (fun k => if inE hs k then ρ (φ k) else none) n = ρ (φ n) := fun n hn => by simp [hn]
  obtain ⟨v, w', σ', ρ', hrun, h1, h2, h3⟩ := h w σ (fun k => if inE hs k then ρ (φ k) else none) (args.map a.eval ++ us) ⟨hi.sig, fun n e hn => (hi.hok _ _ (hH n e hn)).back c1 (by unfold inE; rw [hn]; rfl) (o2 _ (hE_mem hn)).1, fun n hn => by simp [inE, hn], fun n m l l' b hnm h1 h2 h3 => by
    by_cases q1 : inE hs n = true
    · by_cases q2 : inE hs m = true
      · simp only [q1, q2, if_true] at h1 h2
        refine hi.inj _ _ l l' b (fun e => hnm ?_) h1 h2 h3
        obtain ⟨e1, q1⟩ := inE_some (o2 _ (hE_mem (inE_some q1).choose_spec)).2
        obtain ⟨e2, q2⟩ := inE_some (o2 _ (hE_mem (inE_some q2).choose_spec)).2
        rcases o5 _ (hE_mem q1) _ (hE_mem q2) with h | h
        · exact h
        · exact absurd e h
      · simp [q2] at h2
    · simp [q1] at h1⟩ (by simpa using g1) fun j y hy => (g2 j (y.ren φ) (by simp [hy])).back c1 y rfl (avs_ok o1 j y hy)
  obtain ⟨ρ2, q1, q2⟩ := hi.call hok hH hnew h1 h3
  unfold Oper.wp
  have hexec : (execOp a.eval o).run P w = .ok (.value v) w' := by
    simp only [execOp, ho, resolve, hv, Deferred.ofValue, Sem.run_bind, Sem.run_pure, Result.andThen_ok, invoke, Array.empty_append, hrun]
  rw [hexec]
  exact ⟨σ', ρ2, q1.put hdst (h2.forth q2 o3)⟩

/-- A cell of a block that is handed in is stored. -/
theorem HpOk.setCell {σ : Sig} {ρ : Names} {w : World} {hs : List (Nat × HE)} {n g off : Nat} {t : TypeId} {cells : List AV} {us : Array Value} {u : Value} {y : AV} (h : HpOk σ ρ w (hE hs)) (hH : hE hs n = some (.blk t cells)) (hg : ρ n = some (.blk g))
    (hh : w.heap[g]? = some (.cells us t (0, 0))) (hl : us.size = cells.length) (hfit : off < cells.length) (ho : u.oneCell' = true) (hr : RdA σ ρ y u) (hs' : List (Nat × HE)) (hE' : ∀ m, hE hs' m = setH (hE hs) n (some (.blk t (putCells cells off [y]))) m) :
    HpOk σ ρ (w.setCell ⟨g, off, none⟩ u) (hE hs') ∧ Done σ ρ w σ ρ (w.setCell ⟨g, off, none⟩ u) := by
  have base : Inv ⟨w, σ, fun b => ∃ m l0, ρ m = some l0 ∧ l0.block = some b, 0, fun _ => none⟩ σ ρ ⟨fun _ => .j, hE hs⟩ ⟨#[], []⟩ w :=
    ⟨fun t => .j _, rfl, rfl, h.sig, h.hok, h.dom, h.inj, fun n l b h1 h2 => .inr ⟨n, l, h1, h2⟩, rfl, rfl, rfl, Nat.le_refl _, fun b _ _ => rfl, fun b _ _ => rfl, fun n l _ hq => by cases hq⟩
  have one : ∀ j (h : j < (#[u] : Array Value).size), ((#[u] : Array Value)[j]).oneCell' = true := by
    intro j hj
    have : j = 0 := by simpa using hj
    subst this; exact ho
  have rds : ∀ (j : Nat) (x : AV), [y][j]? = some x → RdA σ ρ x ((#[u] : Array Value).getD j undef) := by
    intro j x hx
    cases j with
    | zero => simp at hx; subst hx; exact hr
    | succ j => simp at hx
  have st := base.store (off := off) (vs := [y]) (ws := #[u]) hH hg hh rfl (by simp; omega) one rds
  have e : (w.setRow g (us.toList.take off ++ (#[u] : Array Value).toList ++ us.toList.drop (off + (#[u] : Array Value).toList.length)).toArray) = w.setCell ⟨g, off, none⟩ u := by
    rw [setCell_eq_setRow w g off us t (0, 0) u hh]
    congr 1
    apply Array.ext'
    rw [Array.toList_setIfInBounds]
    have := putCells_get (cs := us.toList) (vs := [u]) (off := off) (by simp; omega)
    show putCells us.toList off [u] = _
    apply List.ext_getElem?
    intro j
    rw [this, List.getElem?_set]
    by_cases e1 : j < off
    · simp [e1, show ¬ off = j by omega]
    · by_cases e2 : j = off
      · subst e2; simp; omega
      · simp [e1, show ¬ j < off + 1 by omega, show ¬ off = j by omega]
  rw [e] at st
  refine ⟨⟨st.sig, fun m e hm => st.hok m e ((hE' m).symm.trans hm), fun m hm => st.dom m ((hE' m).symm.trans hm), st.inj⟩, ⟨st.os, st.tape, st.out, st.size, fun b hb hS => ⟨st.keep b hb ?_, rfl⟩, Names.le_refl ρ, fun n l b h1 h2 => .inr ⟨n, l, h1, h2⟩⟩⟩
  rintro ⟨m, l0, h1, h2⟩; exact hS m l0 h1 h2
theorem blk_ptr {σ : Sig} {ρ : Names} {w : World} {hs : List (Nat × HE)} {n off : Nat} {t : TypeId} {cells : List AV} {c : Value} {v : Value} (h : HpOk σ ρ w (hE hs)) (hH : hE hs n = some (.blk t cells)) (hc : cells[off]? = some (.d (.c c))) (hv : RdA σ ρ (.r n off) v) :
    ∃ g us, ρ n = some (.blk g) ∧ v = .pointer (some ⟨g, off, none⟩) ∧ w.heap[g]? = some (.cells us t (0, 0)) ∧ us.size = cells.length ∧ w.cell? ⟨g, off, none⟩ = some c ∧ w.frozen? ⟨g, off, none⟩ = false := by
  obtain ⟨g, us, h1, h2, h3, h4, h5, h6⟩ := h.hok n _ hH
  cases hv with | r hr =>
  rw [h1] at hr
  cases hr
  have hlt := (List.getElem?_eq_some_iff.1 hc).1
  have hu := rd_c (h5 off _ hc)
  refine ⟨g, us, h1, rfl, h2, h3, ?_, by simp [World.frozen?, h2]⟩
  rw [cell_of_row w g _ us t (0, 0) h2, getD_of (by omega), hu]
end Go.AM
