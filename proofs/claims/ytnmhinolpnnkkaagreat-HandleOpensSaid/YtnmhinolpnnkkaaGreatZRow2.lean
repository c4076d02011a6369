/- HandleOpens: called with any conf, in whatever memory, the statement's function returns true: a log is opened just of a conf that may be. No conditions beyond the row's own. -/
import Derived.Test.YtnmhinolpnnkkaaGreatZRow
set_option maxRecDepth 100000
namespace Go.Proofs.YtnmhinolpnnkkaaGreat
open Go.ChangeShapes Go.WideShapes Go.ChangeAt Go.RowKit
theorem h_holds : Rows.HandleOpensSaid :=
  OpenClaim.holds_of_wide 3 Tryz.f3 rfl rfl rfl rfl rfl rfl rfl ⟨rfl, rfl, rfl, rfl, rfl⟩ rfl rfl rfl rfl rfl (by kernel_rfl) Tryz.func3 (by kernel_rfl)
    (of_decide_eq_true (by kernel_rfl)) (by unfold Func.isWrapper; first | (rw [if_pos (by decide +kernel)]; kernel_rfl) | (rw [if_neg (by decide +kernel)]; exact ⟨rfl, rfl⟩))
    (fun os started H enc _ => h_lifted os started H enc)
end Go.Proofs.YtnmhinolpnnkkaaGreat
