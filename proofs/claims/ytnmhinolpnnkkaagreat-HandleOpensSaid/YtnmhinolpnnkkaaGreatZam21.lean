/- The abstract machine, part 21: cells of data. -/
import Derived.Test.YtnmhinolpnnkkaaGreatZam20
set_option linter.unusedSimpArgs false
set_option linter.unusedVariables false
namespace Go.AM
open Go.RowKit Go.Lib
/-- Cells that are data alone. -/
def dl : List D → List AV
  | [] => []
  | d :: r => .d d :: dl r
theorem dl_nil : dl [] = [] := rfl
theorem dl_cons (d : D) (r : List D) : dl (d :: r) = .d d :: dl r := rfl
theorem dl_ok (p : Nat → Bool) : ∀ ds, AVs.ok p (dl ds) = true
  | [] => rfl
  | d :: r => by rw [dl, AVs.ok, dl_ok p r]; rfl
theorem dl_ren (φ : Nat → Nat) : ∀ ds, AVs.ren φ (dl ds) = dl ds
  | [] => rfl
  | d :: r => by rw [dl, AVs.ren, dl_ren φ r]; rfl
theorem dl_put : ∀ (cs : List D) (off : Nat) (vs : List D), putCells (dl cs) off (dl vs) = dl (putCells cs off vs) := by
  have e : ∀ ds, dl ds = ds.map .d := by intro ds; induction ds with | nil => rfl | cons d r ih => rw [dl, ih]; rfl
  intro cs off vs
  simp only [e, putCells, List.map_append, List.map_take, List.map_drop, List.length_map]
/-- Data put into a row of cells. -/
def putD (cs : List D) (off : Nat) (vs : List D) : List D := putCells cs off vs
theorem dl_get (ds : List D) (i : Nat) (d : D) (h : ds[i]? = some d) : (dl ds)[i]? = some (.d d) := by
  have e : ∀ ds, dl ds = ds.map .d := by intro ds; induction ds with | nil => rfl | cons d r ih => rw [dl, ih]; rfl
  rw [e, List.getElem?_map, h]; rfl
section
variable {P : Program} {f : FuncId} {as : List AV} {H : Nat → Option HE} {F : KF} {t : Tg F} {off : Nat} {as0 ds ds' : List D} {ty : TypeId} {x : D}
theorem okE_one (n : Nat) : okE (fun _ => n) (.r 0 off :: dl as0) [(0, .blk ty (dl ds))] (.d x) [(0, .blk ty (dl ds'))] = true := by
  have h1 : inE [(0, .blk ty (dl ds))] 0 = true := rfl
  have h2 : inE [(0, .blk ty (dl ds'))] 0 = true := rfl
  simp [okE, AVs.ok, AV.ok, HE.ok, dl_ok, h1, h2]
/-- A method of a struct of data: its block is changed. -/
theorem call_pe1 (h : PE P f (.r 0 off :: dl as0) [(0, .blk ty (dl ds))] (.d x) [(0, .blk ty (dl ds'))]) (n : Nat) (h1 : as = .r n off :: dl as0) (h3 : H n = some (.blk ty (dl ds))) (hk : F (.d x) [n] [(n, some (.blk ty (dl ds')))]) : CallT P f as H F t := by
  refine call_pe h (fun _ => n) ?_ (okE_one n) ⟨?_, trivial⟩ ⟨fun h => (by cases h), trivial⟩ ?_
  · rw [h1, AVs.ren, dl_ren]; rfl
  · show H n = some (.blk ty (AVs.ren _ (dl ds))); rw [dl_ren]; exact h3
  · show F (.d x) [n] [(n, some (.blk ty (AVs.ren _ (dl ds'))))]; rw [dl_ren]; exact hk
theorem call_px1 (h : PX P f (.r 0 off :: dl as0) [(0, .blk ty (dl ds))] (.d x) [(0, .blk ty (dl ds'))]) (n : Nat) (h1 : as = .r n off :: dl as0) (h3 : H n = some (.blk ty (dl ds))) (hk : F (.d x) [n] [(n, some (.blk ty (dl ds')))]) : CallT P f as H F t := by
  refine call_px h (fun _ => n) ?_ (okE_one n) ⟨?_, trivial⟩ ⟨fun h => (by cases h), trivial⟩ ?_
  · rw [h1, AVs.ren, dl_ren]; rfl
  · show H n = some (.blk ty (AVs.ren _ (dl ds))); rw [dl_ren]; exact h3
  · show F (.d x) [n] [(n, some (.blk ty (AVs.ren _ (dl ds'))))]; rw [dl_ren]; exact hk
theorem okC_one : okC [(0, .blk ty (dl ds))] (.d x) [(0, .blk ty (dl ds'))] = true := by
  have h2 : inE [(0, .blk ty (dl ds'))] 0 = true := rfl
  simp [okC, AV.ok, HE.ok, dl_ok, h2]
end
attribute [go_sem] dl_nil dl_cons dl_put dl_ren allR allN allH List.nil_append List.cons_append List.length_nil List.length_cons Bool.true_and Bool.false_and Bool.and_true Bool.and_false Bool.true_or Bool.false_or Bool.or_true Bool.or_false Bool.not_true Bool.not_false HE.ren AV.ren AVs.ren pv List.all_cons List.all_nil List.take_succ_cons List.take_zero List.take_nil List.drop_succ_cons List.drop_zero List.drop_nil List.flatten_cons List.flatten_nil List.replicate_succ List.replicate_zero id_eq and_self Option.some.injEq decide_true decide_false not_false_eq_true not_true_eq_false
end Go.AM
