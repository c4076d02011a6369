/- The abstract machine, part 10: append. -/
import Derived.Test.YtnmhinolpnnkkaaGreatZam9
import Derived.Lib.AppendStr
set_option linter.unusedSimpArgs false
set_option linter.unusedVariables false
namespace Go.AM
open Go.RowKit
variable {P : Program} {T : Tab}

theorem run_storeCells_fr (g o : Nat) (t : TypeId) (fr : Nat × Nat) : ∀ (vs : List Value) (i : Nat) (cur : Array Value) (w : World), w.heap[g]? = some (.cells cur t fr) → o + i + vs.length ≤ cur.size →
    (∀ j, j < cur.size → ¬ (fr.1 ≤ j ∧ j < fr.2)) → (∀ v ∈ vs, v.oneCell' = true) →
    (storeCells ⟨g, o, none⟩ vs i).run P w = .ok () (w.setRow g (putCells cur.toList (o + i) vs).toArray)
  | [], i, cur, w, hg, _, _, _ => by
    simp only [storeCells, putCells, List.append_nil, List.length_nil, Nat.add_zero, List.take_append_drop, Array.toArray_toList]
    rw [setRow_self w g cur t fr hg]
    rfl
  | v :: rest, i, cur, w, hg, hl, hf, h1 => by
    have hi : o + i < cur.size := by simp at hl; omega
    have hcell : w.cell? ⟨g, o + i, none⟩ = some cur[o + i] := by simp [World.cell?, hg, hi]
    have hfro : w.frozen? ⟨g, o + i, none⟩ = false := by
      have := hf (o + i) hi
      simp only [World.frozen?, hg, Bool.and_eq_false_iff, decide_eq_false_iff_not]
      omega
    have hst : (store ((⟨g, o, none⟩ : Addr).add i) v).run P w = .ok () (w.setRow g (cur.setIfInBounds (o + i) v)) := by
      rw [Addr.add_mid, run_store P w _ v _ (h1 v (by simp)), hcell]
      simp [hfro, setCell_eq_setRow w g (o + i) cur t fr v hg]
    have ih := run_storeCells_fr g o t fr rest (i + 1) (cur.setIfInBounds (o + i) v) (w.setRow g (cur.setIfInBounds (o + i) v)) (setRow_heap w g cur _ t _ hg) (by simp at hl ⊢; omega) (by simpa using hf) (fun x hx => h1 x (by simp [hx]))
    simp only [storeCells, Sem.run_bind, hst, Result.andThen_ok, ih, setRow_setRow]
    congr 3
    have e := list_seg_step cur.toList (o + i) v rest (by simp at hl ⊢; omega)
    simpa [putCells, Array.toList_setIfInBounds, Nat.add_assoc] using e

/-- What is appended: how many elements, which cells. -/
structure News (P : Program) (w : World) (xt : TypeId) (size : Nat) (x : Value) (n : Nat) (news : List Value) : Prop where
  ty : (∃ e', P.underlying xt = some (.slice e')) ∨ P.underlying xt = some .string
  len : ∀ w' : World, w'.heap = w.heap → (Builtin.lenOf x).run P w' = .ok n w'
  cells : ∀ w' : World, w'.heap = w.heap → (Builtin.firstCells size n x).run P w' = .ok news.toArray w'
  size : news.length = n * size
  one : ∀ v ∈ news, v.oneCell' = true

theorem run_app_room {t xt ty e : TypeId} (ht : P.underlying t = some (.slice e)) (he : TOk P e (T e)) {w : World} {g sLen sCap : Nat} {x : Value} {n : Nat} {news : List Value}
    (hx : News P w xt (T e).size x n news) {cur : Array Value} {fr : Nat × Nat} (hg : w.heap[g]? = some (.cells cur e fr)) (hf : ∀ j, j < cur.size → ¬ (fr.1 ≤ j ∧ j < fr.2))
    (hroom : sLen + n ≤ sCap) (hfit : sLen * (T e).size + news.length ≤ cur.size) :
    (Builtin.append_ #[t, xt] ty #[.slice (some ⟨g, 0, none⟩) sLen sCap, x]).run P w = .ok (.slice (some ⟨g, 0, none⟩) (sLen + n) sCap) (w.setRow g (putCells cur.toList (sLen * (T e).size) news).toArray) := by
  have hst := run_storeCells_fr (P := P) g (sLen * (T e).size) e fr news 0 cur w hg (by simpa using hfit) hf hx.one
  simp only [Nat.add_zero] at hst
  have hl := hx.len w rfl
  have hc := hx.cells w rfl
  obtain ⟨i, z, h1, h2, h3, h4, h5⟩ := he.info'
  rw [← h2] at hst hc ⊢
  rcases hx.ty with ⟨e', hd⟩ | hd <;>
    simp [Builtin.append_, run_underlying ht, run_underlying hd, sizeOf, typeInfo, h1, hl, hroom, hc, Addr.add_mid, hst]
theorem run_app_none {t xt ty e : TypeId} (ht : P.underlying t = some (.slice e)) (he : TOk P e (T e)) {w : World} {a : Option Addr} {x : Value} {news : List Value} {sLen sCap : Nat}
    (hx : News P w xt (T e).size x 0 news) (hle : sLen ≤ sCap) :
    (Builtin.append_ #[t, xt] ty #[.slice a sLen sCap, x]).run P w = .ok (.slice a sLen sCap) w := by
  have hl := hx.len w rfl
  have hc := hx.cells w rfl
  have hn : news = [] := List.eq_nil_of_length_eq_zero (by simpa using hx.size)
  subst hn
  obtain ⟨i, z, h1, h2, h3, h4, h5⟩ := he.info'
  rw [← h2] at hc
  rcases hx.ty with ⟨e', hd⟩ | hd <;> cases a <;>
    simp [Builtin.append_, run_underlying ht, run_underlying hd, sizeOf, typeInfo, h1, hl, hle, hc, storeCells]
theorem run_app_grow {t xt ty e : TypeId} (ht : P.underlying t = some (.slice e)) (he : TOk P e (T e)) {w : World} {b : Option Addr} {sLen sCap : Nat} {olds : List Value}
    (hold : ∀ w' : World, w'.heap = w.heap → (Builtin.firstCells (T e).size sLen (.slice b sLen sCap)).run P w' = .ok olds.toArray w') {x : Value} {n : Nat} {news : List Value}
    (hx : News P w xt (T e).size x n news) (hg : sCap < sLen + n) (h63 : ((sLen + n : Nat) : Int) ≤ 9223372036854775807) (hfit : Builtin.nextslicecap (sLen + n) sCap * (T e).bytes ≤ 281474976710656) :
    ∃ zs : List Value, (Builtin.append_ #[t, xt] ty #[.slice b sLen sCap, x]).run P w =
      .ok (.slice (some ⟨w.heap.size, 0, none⟩) (sLen + n) (grownCap w (sLen + n) sCap e)) (w.drew.alloc (.cells (olds ++ news ++ zs).toArray e)) ∧ zs.length = (grownCap w (sLen + n) sCap e - (sLen + n)) * (T e).size := by
  have hn : ¬ (sLen + n ≤ sCap) := by omega
  have h63' : ¬ (9223372036854775807 < ((sLen : Int) + (n : Int))) := by omega
  have hl := hx.len w rfl
  have hc := hx.cells w.drew rfl
  have ho := hold w.drew rfl
  obtain ⟨i, z, h1, h2, h3, h4, h5⟩ := he.info'
  have hzs : z.cells.size = (T e).size := by
    have : z.cells.toList.length = (T e).zero.length := by rw [h5]; simp
    rw [he.zl] at this
    simpa using this
  have h48' : ¬ (281474976710656 < Builtin.nextslicecap (sLen + n) sCap * i.bytes) := by rw [h3]; omega
  refine ⟨(Builtin.zeroCells z.cells (grownCap w (sLen + n) sCap e - (sLen + n))).toList, ?_, by simp [Builtin.zeroCells, hzs]⟩
  rw [← h2] at hc ho
  rcases hx.ty with ⟨e', hd⟩ | hd
  all_goals
    simp [Builtin.append_, run_underlying ht, run_underlying hd, sizeOf, typeInfo, zeroValue, h1, h4, hl, hn, h63', h48', Question.forced, hc, ho, newRow, grownCap]
    congr 2
    apply Array.ext'
    simp [List.append_assoc]
end Go.AM
