/- The abstract machine, part 6: how a state goes on when the world grows. -/
import Derived.Test.YtnmhinolpnnkkaaGreatZam5
set_option linter.unusedSimpArgs false
set_option linter.unusedVariables false
namespace Go.AM
open Go.RowKit
variable {P : Program} {T : Tab}

theorem HOk.move {σ σ' : Sig} {ρ ρ' : Names} {w w' : World} {n : Nat} {e : HE} (h : HOk σ ρ w n e) (hσ : ∀ b o u, σ b o = some u → σ' b o = some u) (hρ : ρ.le ρ') (hn : ρ' n = ρ n)
    (hb : ∀ l b, ρ n = some l → l.block = some b → w'.heap[b]? = w.heap[b]? ∧ ∀ o, σ' b o = none) : HOk σ' ρ' w' n e := by
  cases e with
  | blk t cells =>
    obtain ⟨g, us, h1, h2, h3, h4, h5, h6⟩ := h
    obtain ⟨b1, b2⟩ := hb _ g h1 rfl
    exact ⟨g, us, hn.trans h1, b1.trans h2, h3, h4, fun j x hx => (h5 j x hx).mono hσ hρ, b2⟩
  | row e sz k xs =>
    obtain ⟨v, us, h1, h2, h3, h4, h5⟩ := h
    refine ⟨v, us, hn.trans h1, ⟨h2.1, ?_⟩, h3, fun i x hx => ⟨(h4 i x hx).1, fun j d hd => ((h4 i x hx).2 j d hd).mono hσ⟩, fun g hg => (hb _ g h1 hg).2⟩
    rcases h2.2 with hv | ⟨g, cap, cur, fr, rfl, q2, q3⟩
    · exact .inl hv
    · exact .inr ⟨g, cap, cur, fr, rfl, (hb _ g h1 rfl).1.trans q2, q3⟩

theorem RowAt.lt {w : World} {e : TypeId} {sz : Nat} {v : Value} {n : Nat} {us : List Value} (h : RowAt w e sz v n us) {b : Nat} (hb : rowBlock v = some b) : b < w.heap.size := by
  rcases h.2 with ⟨_, a, rfl⟩ | ⟨g, cap, cur, fr, rfl, hh, _⟩
  · simp [rowBlock] at hb
  · simp only [rowBlock, Option.some.injEq] at hb
    subst hb
    exact (Array.getElem?_eq_some_iff.1 hh).1
theorem RowAt.cells {w : World} {e : TypeId} {sz : Nat} {v : Value} {n : Nat} {us : List Value} (h : RowAt w e sz v n us) {g : Nat} (hg : rowBlock v = some g) : ∀ (j : Nat) (u : Value), us[j]? = some u → w.cell? ⟨g, j, none⟩ = some u := by
  intro j u hu
  rcases h.2 with ⟨_, a, rfl⟩ | ⟨g', cap, cur, fr, rfl, hh, _, _, _, _, htake⟩
  · simp [rowBlock] at hg
  · simp only [rowBlock, Option.some.injEq] at hg
    subst hg
    rw [cell_of_row w g' j cur e fr hh]
    rw [← htake, List.getElem?_take] at hu
    split at hu
    · simpa using hu
    · cases hu
theorem HOk.block {σ : Sig} {ρ : Names} {w : World} {n : Nat} {e : HE} (h : HOk σ ρ w n e) : ∃ l, ρ n = some l ∧ ∀ b, l.block = some b → b < w.heap.size ∧ ∀ o, σ b o = none := by
  cases e with
  | blk t cells =>
    obtain ⟨g, us, h1, h2, h3, h4, h5, h6⟩ := h
    refine ⟨_, h1, fun b hb => ?_⟩
    simp only [Loc.block, Option.some.injEq] at hb; subst hb
    exact ⟨(Array.getElem?_eq_some_iff.1 h2).1, h6⟩
  | row e sz k xs =>
    obtain ⟨v, us, h1, h2, h3, h4, h5⟩ := h
    exact ⟨_, h1, fun b hb => ⟨h2.lt hb, h5 b hb⟩⟩

section
variable {B : Base} {σ : Sig} {ρ : Names} {α : AS} {a : Act} {w : World}
theorem Inv.named (h : Inv B σ ρ α a w) {n : Nat} {l : Loc} (hn : ρ n = some l) {b : Nat} (hb : l.block = some b) : b < w.heap.size ∧ ∀ o, σ b o = none := by
  cases hH : α.H n with
  | none => rw [h.dom n hH] at hn; cases hn
  | some e =>
    obtain ⟨l', h1, h2⟩ := (h.hok n e hH).block
    rw [h1] at hn
    cases hn
    exact h2 b hb
theorem Inv.new (h : Inv B σ ρ α a w) {b : Nat} (hb : w.heap.size ≤ b) (o : Nat) : σ b o = none := by
  cases hs : σ b o with
  | none => rfl
  | some u =>
    have := World.block_lt_of_cell? w _ (h.sig b o u hs)
    simp only at this
    omega

/-- The world grows; one name is new, or its row goes on. -/
theorem Inv.grow1 (h : Inv B σ ρ α a w) {w' : World} {σ' : Sig} {ρ' : Names} {H' : Nat → Option HE} {row : Option Nat} (m : Nat) (hg : w.grownBy w' row)
    (hσ : ∀ b, b < w.heap.size → σ' b = σ b) (hsig : ∀ b o u, w.heap.size ≤ b → σ' b o = some u → w'.cell? ⟨b, o, none⟩ = some u)
    (hρ : ∀ n, n ≠ m → ρ' n = ρ n) (hH : ∀ n, n ≠ m → H' n = α.H n) (hle : ρ.le ρ') (hm : ∀ e, H' m = some e → HOk σ' ρ' w' m e) (hdom : H' m = none → ρ' m = none)
    (hblk : ∀ l b, ρ' m = some l → l.block = some b → w.heap.size ≤ b ∨ ∃ l0, ρ m = some l0 ∧ l0.block = some b)
    (hrow : ∀ b, row = some b → ∃ l, ρ m = some l ∧ l.block = some b) : Inv B σ' ρ' ⟨α.fr, H'⟩ a w' := by
  have hσ1 : ∀ b o u, σ b o = some u → σ' b o = some u := fun b o u hs => by
    have := World.block_lt_of_cell? w _ (h.sig b o u hs)
    rw [hσ b this]; exact hs
  have notrow : ∀ b o u, σ b o = some u → some b ≠ row := fun b o u hs e => by
    obtain ⟨l, h1, h2⟩ := hrow b e.symm
    rw [(h.named h1 h2).2 o] at hs
    cases hs
  refine ⟨fun t => (h.fr t).mono hσ1 hle, h.sz, h.df, fun b o u hs => ?_, fun n e hn => ?_, fun n hn => ?_, fun n k l l' b hnk h1 h2 h3 => ?_, fun n l b h1 h2 => ?_, hg.os.trans h.os, hg.tape.trans h.tape, hg.output.trans h.out, Nat.le_trans h.size hg.size, fun b hb hS => ?_, fun b hb hS => ?_, h.le.trans hle⟩
  · rcases Nat.lt_or_ge b w.heap.size with hb | hb
    · rw [hσ b hb] at hs
      exact hg.cell (a := ⟨b, o, none⟩) (h.sig b o u hs) (notrow b o u hs)
    · exact hsig b o u hb hs
  · by_cases e1 : n = m
    · subst e1; exact hm e hn
    · have hn : α.H n = some e := by rw [← hH n e1]; exact hn
      refine (h.hok n e hn).move hσ1 hle (hρ n e1) fun l b h1 h2 => ?_
      have h3 := h.named h1 h2
      refine ⟨hg.block b h3.1 fun e => ?_, fun o => by rw [hσ b h3.1]; exact h3.2 o⟩
      obtain ⟨l2, h4, h5⟩ := hrow b e.symm
      exact h.inj n m l l2 b e1 h1 h4 h2 h5
  · by_cases e1 : n = m
    · subst e1; exact hdom hn
    · rw [hρ n e1]; exact h.dom n (by rw [← hH n e1]; exact hn)
  · by_cases e1 : n = m
    · subst e1
      rw [hρ k (fun e => hnk e.symm)] at h2
      intro h4
      rcases hblk l b h1 h3 with h5 | ⟨l0, h5, h6⟩
      · have := (h.named h2 h4).1; omega
      · exact h.inj n k l0 l' b hnk h5 h2 h6 h4
    · rw [hρ n e1] at h1
      by_cases e2 : k = m
      · subst e2
        intro h4
        rcases hblk l' b h2 h4 with h5 | ⟨l0, h5, h6⟩
        · have := (h.named h1 h3).1; omega
        · exact h.inj n k l l0 b hnk h1 h5 h3 h6
      · rw [hρ k e2] at h2
        exact h.inj n k l l' b hnk h1 h2 h3
  · by_cases e1 : n = m
    · subst e1
      rcases hblk l b h1 h2 with h5 | ⟨l0, h5, h6⟩
      · exact .inl (Nat.le_trans h.size h5)
      · exact h.own n l0 b h5 h6
    · rw [hρ n e1] at h1; exact h.own n l b h1 h2
  · rw [hg.block b (Nat.lt_of_lt_of_le hb h.size) fun e => ?_]
    · exact h.keep b hb hS
    · obtain ⟨l, h1, h2⟩ := hrow b e.symm
      rcases h.own m l b h1 h2 with h3 | h3
      · omega
      · exact hS h3
  · rw [hσ b (Nat.lt_of_lt_of_le hb h.size)]; exact h.old b hb hS

/-- The world grows; no name is touched. -/
theorem Inv.grow0 (h : Inv B σ ρ α a w) {w' : World} {σ' : Sig} (hg : w.grownBy w' none)
    (hσ : ∀ b, b < w.heap.size → σ' b = σ b) (hsig : ∀ b o u, w.heap.size ≤ b → σ' b o = some u → w'.cell? ⟨b, o, none⟩ = some u) : Inv B σ' ρ α a w' := by
  have hσ1 : ∀ b o u, σ b o = some u → σ' b o = some u := fun b o u hs => by
    have := World.block_lt_of_cell? w _ (h.sig b o u hs)
    rw [hσ b this]; exact hs
  refine ⟨fun t => (h.fr t).mono hσ1 (Names.le_refl ρ), h.sz, h.df, fun b o u hs => ?_, fun n e hn => ?_, h.dom, h.inj, h.own, hg.os.trans h.os, hg.tape.trans h.tape, hg.output.trans h.out, Nat.le_trans h.size hg.size, fun b hb hS => ?_, fun b hb hS => ?_, h.le⟩
  · rcases Nat.lt_or_ge b w.heap.size with hb | hb
    · rw [hσ b hb] at hs
      exact hg.cell (a := ⟨b, o, none⟩) (h.sig b o u hs) (by simp)
    · exact hsig b o u hb hs
  · refine (h.hok n e hn).move hσ1 (Names.le_refl ρ) rfl fun l b h1 h2 => ?_
    have h3 := h.named h1 h2
    exact ⟨hg.block b h3.1 (by simp), fun o => by rw [hσ b h3.1]; exact h3.2 o⟩
  · rw [hg.block b (Nat.lt_of_lt_of_le hb h.size) (by simp)]; exact h.keep b hb hS
  · rw [hσ b (Nat.lt_of_lt_of_le hb h.size)]; exact h.old b hb hS

def setN (ρ : Names) (m : Nat) (l : Option Loc) : Names := fun n => if n = m then l else ρ n
theorem setN_le {m : Nat} {l : Loc} (hm : ρ m = none) : ρ.le (setN ρ m (some l)) := by
  intro n l' hn
  have : n ≠ m := fun e => by subst e; rw [hm] at hn; cases hn
  simp only [setN, if_neg this]
  exact Names.le_refl ρ n l' hn
theorem setH_same (H : Nat → Option HE) (n : Nat) (e : Option HE) : setH H n e n = e := by simp [setH]
theorem setH_ne (H : Nat → Option HE) {n m : Nat} (e : Option HE) (h : m ≠ n) : setH H n e m = H m := by simp [setH, h]
theorem grownBy_alloc' (w : World) (o : Obj) : w.grownBy (w.alloc o) none := World.grownBy_alloc w o none

/-- A new variable. -/
theorem Inv.alloc (h : Inv B σ ρ α a w) {m : Nat} (hm : α.H m = none) {t : TypeId} {us : Array Value} {cells : List AV} (hl : us.size = cells.length)
    (ho : ∀ j (h : j < us.size), (us[j]).oneCell' = true) (hr : ∀ (j : Nat) (x : AV), cells[j]? = some x → RdA σ ρ x (us.getD j undef)) :
    ∃ ρ', Inv B σ ρ' ⟨α.fr, setH α.H m (some (.blk t cells))⟩ a (w.alloc (.cells us t)) ∧ ρ' m = some (.blk w.heap.size) := by
  have h0 := h.dom m hm
  refine ⟨setN ρ m (some (.blk w.heap.size)), ?_, by simp [setN]⟩
  refine h.grow1 m (grownBy_alloc' w _) (fun _ _ => rfl) (fun b o u hb hs => ?_) (fun n hn => by simp [setN, hn]) (fun n hn => setH_ne _ _ hn) (setN_le h0) (fun e he => ?_) (fun he => ?_) (fun l b h1 h2 => ?_) (fun b hb => by cases hb)
  · rw [h.new hb] at hs; cases hs
  · rw [setH_same] at he
    cases he
    exact ⟨w.heap.size, us, by simp [setN], heap_alloc_new w _, hl, ho, fun j x hx => (hr j x hx).mono (fun _ _ _ h => h) (setN_le h0), fun o => h.new (Nat.le_refl _) o⟩
  · rw [setH_same] at he; cases he
  · simp only [setN, if_true, Option.some.injEq] at h1
    subst h1
    simp only [Loc.block, Option.some.injEq] at h2
    exact .inl (by omega)

theorem setRow_grown (w : World) (g : Nat) (cs : Array Value) : w.grownBy (w.setRow g cs) (some g) :=
  ⟨rfl, rfl, rfl, by simp [World.setRow], fun k _ hk => setRow_other w g k _ (fun e => hk (by simp [e]))⟩

def putCells {α : Type} (cs : List α) (off : Nat) (vs : List α) : List α := cs.take off ++ vs ++ cs.drop (off + vs.length)
theorem putCells_length {α : Type} {cs vs : List α} {off : Nat} (h : off + vs.length ≤ cs.length) : (putCells cs off vs).length = cs.length := by
  simp [putCells]; omega
theorem putCells_get {α : Type} {cs vs : List α} {off : Nat} (h : off + vs.length ≤ cs.length) (j : Nat) :
    (putCells cs off vs)[j]? = if j < off then cs[j]? else if j < off + vs.length then vs[j - off]? else cs[j]? := by
  unfold putCells
  rw [List.append_assoc, List.getElem?_append, List.length_take, Nat.min_eq_left (by omega)]
  split
  · rename_i hj; rw [List.getElem?_take, if_pos hj]
  · rename_i hj
    rw [List.getElem?_append]
    split
    · rename_i h2; rw [if_pos (by omega)]
    · rename_i h2
      rw [if_neg (by omega), List.getElem?_drop]
      congr 1
      omega

/-- A store into a variable's cells. -/
theorem Inv.store (h : Inv B σ ρ α a w) {m g off : Nat} {t : TypeId} {cells vs : List AV} {us ws : Array Value} (hH : α.H m = some (.blk t cells)) (hg : ρ m = some (.blk g)) (hh : w.heap[g]? = some (.cells us t (0, 0)))
    (hl : ws.size = vs.length) (hfit : off + vs.length ≤ cells.length)
    (ho : ∀ j (h : j < ws.size), (ws[j]).oneCell' = true) (hr : ∀ (j : Nat) (x : AV), vs[j]? = some x → RdA σ ρ x (ws.getD j undef)) :
    Inv B σ ρ ⟨α.fr, setH α.H m (some (.blk t (putCells cells off vs)))⟩ a (w.setRow g (us.toList.take off ++ ws.toList ++ us.toList.drop (off + ws.toList.length)).toArray) := by
  obtain ⟨g', us', h1, h2, h3, h4, h5, h6⟩ := h.hok m _ hH
  rw [hg] at h1
  simp only [Option.some.injEq, Loc.blk.injEq] at h1
  subst h1
  rw [hh] at h2
  simp only [Option.some.injEq, Obj.cells.injEq] at h2
  obtain ⟨rfl, _⟩ := h2
  have hwl : ws.toList.length = vs.length := by simpa using hl
  have hus : us.toList.length = cells.length := by simpa using h3
  refine h.grow1 m (setRow_grown w g _) (fun _ _ => rfl) (fun b o u hb hs => ?_) (fun n hn => rfl) (fun n hn => setH_ne _ _ hn) (Names.le_refl ρ) (fun e he => ?_) (fun he => ?_) (fun l b q1 q2 => .inr ⟨l, q1, q2⟩) (fun b hb => ?_)
  · rw [h.new hb] at hs; cases hs
  · rw [setH_same] at he
    cases he
    refine ⟨g, _, hg, setRow_heap w g us _ t _ hh, ?_, ?_, fun j x hx => ?_, h6⟩
    · rw [putCells_length hfit]
      show (putCells us.toList off ws.toList).length = _
      rw [putCells_length (by omega)]; omega
    · intro j hj
      have hj' : j < (putCells us.toList off ws.toList).length := by simpa [putCells] using hj
      have e : (putCells us.toList off ws.toList)[j]? = some ((putCells us.toList off ws.toList)[j]) := List.getElem?_eq_getElem hj'
      show ((putCells us.toList off ws.toList)[j]).oneCell' = true
      rw [putCells_get (by omega)] at e
      have key : ∀ (l : Array Value) (i : Nat) (v : Value), (∀ j (h : j < l.size), (l[j]).oneCell' = true) → l.toList[i]? = some v → v.oneCell' = true := by
        intro l i v hl hv
        obtain ⟨hi, rfl⟩ := List.getElem?_eq_some_iff.1 hv
        exact hl i (by simpa using hi)
      split at e
      · exact key us _ _ h4 e
      · split at e
        · exact key ws _ _ ho e
        · exact key us _ _ h4 e
    · rw [putCells_get hfit] at hx
      have e : (putCells us.toList off ws.toList).toArray.getD j undef = if j < off then us.getD j undef else if j < off + vs.length then ws.getD (j - off) undef else us.getD j undef := by
        have := putCells_get (cs := us.toList) (vs := ws.toList) (off := off) (by omega) j
        rw [Array.getD_eq_getD_getElem?, List.getElem?_toArray, this, hwl]
        split
        · simp [Array.getD_eq_getD_getElem?]
        · split <;> simp [Array.getD_eq_getD_getElem?]
      show RdA σ ρ x ((putCells us.toList off ws.toList).toArray.getD j undef)
      rw [e]
      split at hx
      · rename_i hj; rw [if_pos hj]; exact h5 j x hx
      · rename_i hj
        rw [if_neg hj]
        split at hx
        · rename_i h2; rw [if_pos h2]; exact hr _ _ hx
        · rename_i h2; rw [if_neg h2]; exact h5 j x hx
  · rw [setH_same] at he; cases he
  · simp only [Option.some.injEq] at hb; subst hb
    exact ⟨_, hg, rfl⟩
end
end Go.AM
