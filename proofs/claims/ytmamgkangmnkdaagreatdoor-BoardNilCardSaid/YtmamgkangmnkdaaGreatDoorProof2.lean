/- BoardNil, the row: out of what was lifted. -/
import Derived.Test.YtmamgkangmnkdaaGreatDoorProof1
namespace Go.Proofs.YtmamgkangmnkdaaGreatDoor
open Go Go.ChangeShapes Go.WideShapes Go.ChangeAt Go.RowKit Go.Joins

set_option maxRecDepth 100000 in
set_option maxHeartbeats 40000000 in
theorem facts : joinedFacts Tryz.prog 3 Tryz.f3 Rows.boardNilSpec Rows.boardNilRow = true := by
  simp only [joinedFacts, Bool.and_eq_true]
  repeat' (with_reducible apply And.intro)
  all_goals as_aux_lemma => kernel_rfl
set_option maxHeartbeats 40000000 in
theorem over : Rows.BoardNilSaid :=
  OpenClaim.holds_of_wide 3 Tryz.f3 rfl rfl rfl rfl rfl rfl rfl ⟨rfl, rfl, rfl, rfl, rfl⟩ rfl rfl rfl rfl rfl (by as_aux_lemma => kernel_rfl) Tryz.func3 facts
    (of_decide_eq_true (by as_aux_lemma => kernel_rfl)) (by unfold Func.isWrapper; first | (rw [if_pos (by decide +kernel)]; kernel_rfl) | (rw [if_neg (by decide +kernel)]; exact ⟨rfl, rfl⟩))
    (fun os started H enc _ => lifted os started H enc)
end Go.Proofs.YtmamgkangmnkdaaGreatDoor
