/- HouseNone answers true at every act, and leaves its input as it was: no condition. -/
import Derived.Test.YtaoepimoakcdaaaGreatAl9
namespace Go.Proofs.YtaoepimoakcdaaaGreat
open Go Go.Proofs Go.Al Go.ChangeShapes Go.WideShapes Go.ChangeAt Go.RowKit

set_option maxRecDepth 100000 in
theorem houseNone_holds : Rows.HouseNoneSaid :=
  OpenClaim.holds_of_wide 5 Tryz.f5 rfl rfl rfl rfl rfl rfl rfl ⟨rfl, rfl, rfl, rfl, rfl⟩ rfl rfl rfl rfl rfl (by kernel_rfl) Tryz.func5 (by kernel_rfl)
    (of_decide_eq_true (by kernel_rfl)) (by unfold Func.isWrapper; first | (rw [if_pos (by decide +kernel)]; kernel_rfl) | (rw [if_neg (by decide +kernel)]; exact ⟨rfl, rfl⟩))
    (fun os started H enc _ => houseNone_lifted os started H enc)
#print axioms houseNone_holds
end Go.Proofs.YtaoepimoakcdaaaGreat
