/- The abstract machine, part G: names are given and taken back; loops that change few temporaries. -/
import Derived.Test.YtnmhinolpnnkkaaGreatZam21
set_option linter.unusedSimpArgs false
set_option linter.unusedVariables false
namespace Go.AM
open Go.RowKit Go.Lib
variable {P : Program} {T : Tab}

/-- The names that are given up (rows, blocks of data), and what stands behind them. -/
def isDrop : Option HE → Bool | some (.row ..) => true | some (.blk _ cells) => (toDs cells).isSome | _ => false
def dropP (hs hs' : List (Nat × Option HE)) (n : Nat) : Bool := !hasN hs' n && isDrop (hL hs n)
def dropH (hs hs' : List (Nat × Option HE)) (n : Nat) : Option HE := if dropP hs hs' n then hL hs n else none
/-- A pointer to a block of data reads as data, too. -/
def resX (H : Nat → Option HE) : AV → Option D
  | .r n o => match H n with
    | some (.blk _ cells) => match toDs cells with | some ds => some (.p (ds.drop o)) | none => none
    | _ => none
  | x => resG H x
theorem resD_ok {H : Nat → Option HE} {p : Nat → Bool} (hp : ∀ n e, H n = some e → p n = true) : ∀ {x : AV} {d : D}, resD H x = some d → x.ok p = true
  | .d x, _, _ => rfl
  | .fl _ _, _, _ => rfl
  | .s m k, d, h => by
    simp only [resD] at h
    split at h <;> first | (cases h; done) | skip
    rename_i hH
    exact hp _ _ hH
  | .r _ _, _, h => by simp [resD] at h
  | .e .., _, h => by simp [resD] at h
  | .g _, _, h => by simp [resD] at h
  | .t _, _, h => by simp [resD] at h
  | .f _ _, _, h => by simp [resD] at h
  | .j, _, h => by simp [resD] at h
theorem resDs_ok {H : Nat → Option HE} {p : Nat → Bool} (hp : ∀ n e, H n = some e → p n = true) : ∀ {xs : List AV} {ds : List D}, resDs H xs = some ds → AVs.ok p xs = true
  | [], _, _ => rfl
  | x :: xs, ds, h => by
    simp only [resDs] at h
    split at h <;> first | (cases h; done) | skip
    rename_i d0 ds0 h1 h2
    rw [AVs.ok, resD_ok hp h1, resDs_ok hp h2]; rfl
theorem resG_ok {H : Nat → Option HE} {p : Nat → Bool} (hp : ∀ n e, H n = some e → p n = true) {x : AV} {d : D} (h : resG H x = some d) : x.ok p = true := by
  cases x with
  | g cs =>
    simp only [resG] at h
    split at h <;> first | (cases h; done) | skip
    rename_i ds hd
    rw [AV.ok]; exact resDs_ok hp hd
  | _ => exact resD_ok hp (by simpa [resG] using h)
theorem toD_ok {p : Nat → Bool} {x : AV} {d : D} (h : toD x = some d) : x.ok p = true := by
  cases x <;> simp [toD] at h <;> rfl
theorem toDs_ok {p : Nat → Bool} : ∀ {xs : List AV} {ds : List D}, toDs xs = some ds → AVs.ok p xs = true
  | [], _, _ => rfl
  | x :: xs, ds, h => by
    simp only [toDs] at h
    split at h <;> first | (cases h; done) | skip
    rename_i d0 ds0 h1 h2
    rw [AVs.ok, toD_ok h1, toDs_ok h2]; rfl
theorem resX_ok {H : Nat → Option HE} {p : Nat → Bool} (hp : ∀ n e, H n = some e → p n = true) {x : AV} {d : D} (h : resX H x = some d) : x.ok p = true := by
  cases x with
  | r n o =>
    simp only [resX] at h
    split at h <;> first | (cases h; done) | skip
    rename_i hH
    exact hp _ _ hH
  | _ => exact resG_ok hp (by simpa [resX] using h)
theorem resX_rd {B : Base} {σ : Sig} {ρ : Names} {α : AS} {a : Act} {w : World} (hi : Inv B σ ρ α a w) {x : AV} {d : D} (h : resX α.H x = some d) {v : Value} (r : RdA σ ρ x v) : Rd (frozen σ ρ w) d v := by
  cases x with
  | r n o =>
    simp only [resX] at h
    split at h <;> first | (cases h; done) | skip
    rename_i t cells hH
    split at h <;> first | (cases h; done) | skip
    rename_i ds hd
    simp only [Option.some.injEq] at h; subst h
    obtain ⟨g, us, q1, q2, q3, q4, q5, q6⟩ := hi.hok n _ hH
    obtain ⟨h1, h2⟩ := toDs_get hd
    cases r with | r hr =>
    rw [q1] at hr
    cases hr
    refine .p (fun j => us.getD (o + j) undef) (fun j hj => ?_) (fun j hj => ?_) fun j d hj => ?_
    · rw [List.length_drop] at hj
      unfold frozen
      rw [if_pos ⟨n, _, q1, rfl⟩, cell_of_row w g _ us t (0, 0) q2, getD_of (by omega)]
    · rw [List.length_drop] at hj
      have hlt : o + j < us.size := by omega
      have := q4 (o + j) hlt
      simpa [Array.getD, hlt] using this
    · rw [List.getElem?_drop] at hj
      obtain ⟨y, hy, hyd⟩ := h2 _ _ hj
      exact (toD_rd hyd (q5 _ y hy)).mono (frozen_le hi)
  | _ => exact resG_rd hi (by simpa [resX] using h) r
/-- Less is known of a value, or it is data from now on. -/
def Fz (hs hs' : List (Nat × Option HE)) (y x : AV) : Prop := Wk y x ∨ ∃ d, resX (dropH hs hs') y = some d ∧ x = .d d
theorem sub_fz {l l' : List (Nat × AV)} {hs hs' : List (Nat × Option HE)} (h1 : ∀ p ∈ l', Fz hs hs' (frL l p.1) p.2) (h2 : fitH hs hs') (h3 : okS hs l' hs' = true) : Sub (st l hs) (st l' hs') := by
  simp only [okS, Bool.and_eq_true, List.all_eq_true] at h3
  obtain ⟨⟨o1, o2⟩, o3⟩ := h3
  intro B a w ⟨σ, ρ, hi⟩
  have keep : ∀ (p : Nat → Bool) n l, keepN p ρ n = some l → ρ n = some l ∧ p n = true := by
    intro p n l hn
    unfold keepN at hn
    split at hn
    · exact ⟨hn, ‹_›⟩
    · cases hn
  have q1 : ∀ n e, hL hs' n = some e → hL hs n = some e ∧ e.ok (hasN hs') = true := by
    intro n e hn
    refine ⟨?_, by have := o2 _ (hL_mem hn); simpa [okHE] using this⟩
    have : ∀ (h' : List (Nat × Option HE)), fitH hs h' → hL h' n = some e → hL hs n = some e := by
      intro h'
      induction h' with
      | nil => intro _ h; simp [hL] at h
      | cons p r ih =>
        obtain ⟨a, x⟩ := p
        intro hf h
        rw [hL] at h
        split at h
        · rename_i q; subst q; rw [hf.1, h]
        · exact ih hf.2 h
    exact this hs' h2 hn
  have q2 : ∀ n, n < 1000 → hL hs' n = none → hL hs n = none := by
    intro n hn hq
    cases hx : hL hs n with
    | none => rfl
    | some e =>
      have := o3 _ (hL_mem hx)
      simp [hasN, hq] at this
      omega
  have hid : Inv { B with ρ0 := fun _ => none } σ (keepN (dropP hs hs') ρ) ⟨fun _ => .j, dropH hs hs'⟩ a w := by
    refine ⟨fun t => .j _, hi.sz, hi.df, hi.sig, fun n e hn => ?_, fun n hn => ?_, fun n m l l' b h1 h2 h3 => hi.inj n m l l' b h1 (keep _ n l h2).1 (keep _ m l' h3).1, fun n l b h1 => hi.own n l b (keep _ n l h1).1, hi.os, hi.tape, hi.out, hi.size, hi.keep, hi.old, fun _ _ _ h => by cases h⟩
    · simp only [dropH] at hn
      split at hn <;> first | (cases hn; done) | skip
      rename_i hp
      have h3 := hi.hok n e hn
      cases e with
      | blk t cells =>
        rw [dropP, hn] at hp
        simp only [isDrop, Bool.and_eq_true] at hp
        obtain ⟨ds, hd⟩ := Option.isSome_iff_exists.1 hp.2
        obtain ⟨g, us, r1, r2, r3, r4, r5, r6⟩ := h3
        exact ⟨g, us, by rw [keepN, if_pos (by rw [dropP, hn]; simp only [isDrop, Bool.and_eq_true]; exact hp)]; exact r1, r2, r3, r4, fun j x hx => (r5 j x hx).keep (avs_ok (toDs_ok hd) j x hx), r6⟩
      | row e sz k xs =>
        obtain ⟨v, us, r1, r2⟩ := h3
        exact ⟨v, us, by rw [keepN, if_pos hp]; exact r1, r2⟩
    · simp only [dropH] at hn
      unfold keepN
      split
      · rename_i hp
        rw [if_pos hp] at hn
        exact hi.dom n hn
      · rfl
  have hne : ∀ n b, hasN hs' n = true → ∀ l, ρ n = some l → l.block = some b → frozen σ (keepN (dropP hs hs') ρ) w b = σ b := by
    intro n b hn l hl hb
    funext o
    unfold frozen
    rw [if_neg]
    rintro ⟨m, l2, r1, r2⟩
    obtain ⟨r3, r4⟩ := keep _ m l2 r1
    have hnm : n ≠ m := by
      rintro rfl
      simp [dropP, hn] at r4
    exact hi.inj n m l l2 b hnm hl r3 hb r2
  refine ⟨frozen σ (keepN (dropP hs hs') ρ) w, keepN (hasN hs') ρ, fun t => ?_, hi.sz, hi.df, frozen_sig hid, fun n e hn => ?_, fun n hn => ?_, fun n m l l' b h1 h2 h3 => hi.inj n m l l' b h1 (keep _ n l h2).1 (keep _ m l' h3).1, fun n l b h1 => hi.own n l b (keep _ n l h1).1, hi.os, hi.tape, hi.out, hi.size, hi.keep, fun b hb hS => ?_, fun n l r1 r2 => ?_⟩
  · have : ∀ (l2 : List (Nat × AV)), (∀ p ∈ l2, Fz hs hs' (frL l p.1) p.2) → (∀ p ∈ l2, p.2.ok (hasN hs') = true) → RdA (frozen σ (keepN (dropP hs hs') ρ) w) (keepN (hasN hs') ρ) (frL l2 t) (a.tmps.getD t undef) := by
      intro l2
      induction l2 with
      | nil => intro _ _; exact .j _
      | cons p r ih =>
        obtain ⟨b, x⟩ := p
        intro g1 g2
        rw [frL]
        split
        · rename_i q; subst q
          rcases g1 (t, x) (by simp) with g3 | ⟨d, g3, g4⟩
          · exact ((g3.rd (hi.fr t)).keep (g2 (t, x) (by simp))).mono (frozen_le hid) (Names.le_refl _)
          · simp only at g4
            subst g4
            refine .d (resX_rd hid g3 ((hi.fr t).keep (resX_ok (fun n e hn => ?_) g3)))
            simp only [dropH] at hn
            split at hn
            · assumption
            · cases hn
        · exact ih (fun p hp => g1 p (by simp [hp])) (fun p hp => g2 p (by simp [hp]))
    exact this l' h1 (fun p hp => o1 p hp)
  · obtain ⟨h1, h2⟩ := q1 n e hn
    have hn' : hasN hs' n = true := by unfold hasN; rw [show hL hs' n = some e from hn]; rfl
    have h3 := hi.hok n e h1
    cases e with
    | blk t cells =>
      obtain ⟨g, us, q1, q2, q3, q4, q5, q6⟩ := h3
      exact ⟨g, us, by rw [keepN, if_pos hn']; exact q1, q2, q3, q4, fun j x hx => ((q5 j x hx).keep (avs_ok (by simpa [HE.ok] using h2) j x hx)).mono (frozen_le hid) (Names.le_refl _), fun o => by rw [hne n g hn' _ q1 rfl]; exact q6 o⟩
    | row e sz k xs =>
      obtain ⟨v, us, q1, q2, q3, q4, q5⟩ := h3
      exact ⟨v, us, by rw [keepN, if_pos hn']; exact q1, q2, q3, fun i x hx => ⟨(q4 i x hx).1, fun j d hd => ((q4 i x hx).2 j d hd).mono (frozen_le hid)⟩, fun g hg o => by rw [hne n g hn' _ q1 hg]; exact q5 g hg o⟩
  · have : hasN hs' n = false := by unfold hasN; rw [show hL hs' n = none from hn]; rfl
    rw [keepN, this]; rfl
  · funext o
    unfold frozen
    rw [if_neg]
    · exact congrFun (hi.old b hb hS) o
    · rintro ⟨n, l, h1, h2⟩
      rcases hi.own n l b (keep _ n l h1).1 h2 with h3 | h3
      · omega
      · exact hS h3
  · have h3 := hi.le n l r1 r2
    cases hq : hL hs' n with
    | some e => rw [keepN, if_pos (by unfold hasN; rw [hq]; rfl)]; exact h3
    | none =>
      rw [hi.dom n (q2 n r1 hq)] at h3
      cases l with
      | blk g => cases h3
      | row k v => obtain ⟨_, _, h4, _⟩ := h3; cases h4

/-- A slice without elements gets a name: it may grow. -/
theorem sub_nm {l : List (Nat × AV)} {hs : List (Nat × Option HE)} (t n : Nat) (e : TypeId) {sz : Nat} (ht : frL l t = .fl sz []) (hn : hL hs n = none) (h0 : 1000 ≤ n) :
    Sub (st l hs) (st ((t, .s n 0) :: l) ((n, some (.row e sz 0 [])) :: hs)) := by
  intro B a w ⟨σ, ρ, hi⟩
  have hv := hi.fr t
  rw [show (st l hs).fr t = .fl sz [] from ht] at hv
  generalize hvv : a.tmps.getD t undef = v at hv
  cases hv with | @fl _ _ ad m hr =>
  obtain ⟨ad', c', hf, _⟩ := l_form hr
  cases hf
  have hρ : ρ n = none := hi.dom n hn
  have hle : ρ.le (setN ρ n (some (.row 0 (.slice ad 0 0)))) := by
    refine Names.le_iff.2 fun m l hm => ?_
    by_cases q : m = n
    · subst q; rw [hρ] at hm; cases hm
    · simp only [setN, if_neg q, hm]; exact Loc.le_refl l
  refine ⟨σ, setN ρ n (some (.row 0 (.slice ad 0 0))), fun t' => ?_, hi.sz, hi.df, hi.sig, fun m e' hm => ?_, fun m hm => ?_, fun m m' l1 l2 b h1 h2 h3 h4 => ?_, fun m l1 b h1 h2 => ?_, hi.os, hi.tape, hi.out, hi.size, hi.keep, hi.old, fun m l1 h1 h2 => ?_⟩
  · show RdA _ _ (frL ((t, AV.s n 0) :: l) t') _
    rw [frL]
    split
    · rename_i q; subst q; rw [hvv]; exact .s (k' := 0) (v0 := .slice ad 0 0) (by simp [setN]) (Nat.le_refl _) (fun _ => rfl) rfl
    · exact (hi.fr t').mono (fun _ _ _ h => h) hle
  · have hm' : hL ((n, some (HE.row e sz 0 [])) :: hs) m = some e' := hm
    rw [hL] at hm'
    split at hm'
    · rename_i q; subst q
      cases hm'
      exact ⟨_, [], by simp [setN], ⟨by simp, .inl ⟨rfl, ad, rfl⟩⟩, by simp, fun i x hx => by simp at hx, fun g hg => by simp [rowBlock] at hg⟩
    · rename_i q
      have h1 := hi.hok m e' hm'
      cases e' with
      | blk t cells =>
        obtain ⟨g, us, q1, q2, q3, q4, q5, q6⟩ := h1
        exact ⟨g, us, by rw [setN, if_neg q]; exact q1, q2, q3, q4, fun j x hx => (q5 j x hx).mono (fun _ _ _ h => h) hle, q6⟩
      | row e sz k xs =>
        obtain ⟨v, us, q1, q2⟩ := h1
        exact ⟨v, us, by rw [setN, if_neg q]; exact q1, q2⟩
  · have hm' : hL ((n, some (HE.row e sz 0 [])) :: hs) m = none := hm
    rw [hL] at hm'
    split at hm'
    · cases hm'
    · rename_i q; rw [setN, if_neg q]; exact hi.dom m hm'
  · unfold setN at h2 h3
    split at h2
    · simp only [Option.some.injEq] at h2; subst h2; simp [Loc.block, rowBlock] at h4
    · split at h3
      · simp only [Option.some.injEq] at h3; subst h3; simp [Loc.block, rowBlock]
      · exact hi.inj m m' l1 l2 b h1 h2 h3 h4
  · unfold setN at h1
    split at h1
    · simp only [Option.some.injEq] at h1; subst h1; simp [Loc.block, rowBlock] at h2
    · exact hi.own m l1 b h1 h2
  · have q : m ≠ n := by omega
    rw [setN, if_neg q]; exact hi.le m l1 h1 h2

section
variable {B : Base} {Q : Exit → AS → Prop} {l : List (Nat × AV)} {hs : List (Nat × Option HE)}
/-- A loop that changes few temporaries and names. -/
theorem aw_loop {ι : Type} {c : Code} (m : ι → List (Nat × AV)) (g : ι → List (Nat × Option HE)) (μ : ι → Nat) (i0 : ι) (h0 : Sub (st l hs) (st (m i0 ++ l) (g i0 ++ hs)))
    (round : ∀ i, awp P B c (fun e β => match e with | .normal => ∃ i', Sub β (st (m i' ++ l) (g i' ++ hs)) ∧ μ i' < μ i | e => Q e β) (st (m i ++ l) (g i ++ hs))) : awp P B (.loop c) Q (st l hs) :=
  awp_loop (fun i => st (m i ++ l) (g i ++ hs)) μ i0 h0 round
end
end Go.AM
