/- BoardNil holds: the tied card. -/
import Derived.Test.YtmamgkangmnkdaaGreatDoorProof2
namespace Go.Proofs.YtmamgkangmnkdaaGreatDoor
open Go Go.ChangeShapes Go.WideShapes Go.ChangeAt Go.RowKit Go.Joins

set_option maxHeartbeats 40000000 in
theorem boardNil_holds : Rows.BoardNilCardSaid :=
  Claim7.holds_tied_plain_at .later [] [.handle] true (true, "d82b0b0ab5ff95d6606f18ffd60f6f6d9ad28f5c15789a26fc039eb98361c6c6") true
    over (fun _ h => by cases h) (by as_aux_lemma => kernel_rfl) (fun _ h => by cases h) boardNil_row_tie rfl ⟨rfl, rfl⟩ (by as_aux_lemma => kernel_rfl) rfl
    (fun f fn hf hfn => by
      obtain rfl : f = 3 := Option.some.inj ((show Tryz.prog.funcNamed "intaglio/intagliolaw23.BoardNil" = some 3 by as_aux_lemma => kernel_rfl).symm.trans hf) |>.symm
      obtain rfl : fn = Tryz.f3 := (Option.some.inj (Tryz.func3.symm.trans hfn)).symm
      exact ⟨by as_aux_lemma => kernel_rfl, fun j t ht => by
        rw [Tryz.params3] at ht
        have h3 : t = 3 ∨ t = 23 := by
          rcases j with _ | _ | j
          · left; simpa using ht.symm
          · right; simpa using ht.symm
          · simp at ht
        rcases h3 with rfl | rfl
        · exact (show Tryz.prog.wantsStandIn 3 = false by as_aux_lemma => kernel_rfl)
        · exact (show Tryz.prog.wantsStandIn 23 = false by as_aux_lemma => kernel_rfl)⟩)
    (by as_aux_lemma => kernel_rfl)
end Go.Proofs.YtmamgkangmnkdaaGreatDoor
