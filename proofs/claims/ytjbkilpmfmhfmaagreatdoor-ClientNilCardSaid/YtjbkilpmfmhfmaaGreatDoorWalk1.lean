/- The walk of intagliolaw21.ClientNil: awake answers true in every world in which errors.errorType is as it was laid; and so does ClientNil, at every two ints. -/
import Derived.Test.YtjbkilpmfmhfmaaGreatDoorSxMemo
import Derived.Test.YtjbkilpmfmhfmaaGreatDoorChecked
namespace Go.Proofs.YtjbkilpmfmhfmaaGreatDoor
open Go Go.Sx
set_option maxRecDepth 100000

def iL (n : Int) : CV := .int .i64 (.lit n)
def G0 : List CV := [.iface 228 (.agg [.gptr 1 56])]
def cfg : CV := .agg [iL 1, iL 5, iL 1, iL 3, iL 6, iL 0, iL 14, iL 0, iL 1]
def none0 (_ : FuncId) (_ : List CV) (_ : St) : Option (List Leaf) := none
theorem mixed : Tryz.prog.follows .mixedOrders = true := by kernel_rfl

def eRight : Ment := ⟨33, [cfg], .bool (.lit true)⟩
def eTop0 : Ment := ⟨40, [.nilIface], iL 0⟩
def eTop12 : Ment := ⟨40, [.iface 41 (iL 12)], iL 12⟩
def eTop20 : Ment := ⟨40, [.iface 41 (iL 20)], iL 20⟩
def eAwake : Ment := ⟨9, [], .bool (.lit true)⟩
theorem right_ok : MentOk Tryz.prog G0 eRight := ment_run mixed (fun _ => noCalls _ _) 2000 20000 rfl rfl (by kernel_rfl)
theorem top0_ok : MentOk Tryz.prog G0 eTop0 := ment_run mixed (fun _ => noCalls _ _) 2000 20000 rfl rfl (by kernel_rfl)
theorem top12_ok : MentOk Tryz.prog G0 eTop12 := ment_run mixed (fun _ => noCalls _ _) 2000 20000 rfl rfl (by kernel_rfl)
theorem top20_ok : MentOk Tryz.prog G0 eTop20 := ment_run mixed (fun _ => noCalls _ _) 2000 20000 rfl rfl (by kernel_rfl)
def T1 : List Ment := [eRight, eTop0, eTop12, eTop20]
theorem T1_ok : ∀ e ∈ T1, MentOk Tryz.prog G0 e := ments_cons right_ok (ments_cons top0_ok (ments_cons top12_ok (ments_cons top20_ok (by simp))))
theorem awake_ok : MentOk Tryz.prog G0 eAwake := ment_run mixed (fun _ => memo_ok rfl (noCalls _ _) T1_ok) 2000 20000 rfl rfl (by kernel_rfl)
def T2 : List Ment := [eRight, eTop0, eTop12, eTop20, eAwake]
theorem T2_ok : ∀ e ∈ T2, MentOk Tryz.prog G0 e := ments_cons right_ok (ments_cons top0_ok (ments_cons top12_ok (ments_cons top20_ok (ments_cons awake_ok (by simp)))))

def i64B : Int × Int := (-9223372036854775808, 9223372036854775807)
theorem law_run : allTrue [i64B, i64B] 20000 (run Tryz.prog [i64B, i64B] (hooks Tryz.prog [i64B, i64B] (memo G0 T2 (fun _ _ _ => none))) 3000 (.call 3 [.int .i64 (.var 0), .int .i64 (.var 1)]) (st0 G0 [])) = true := by kernel_rfl
theorem law_true (a b : Int) (ha : (Lit.int .i64 a).wf = true) (hb : (Lit.int .i64 b).wf = true) (w : World) (o : Obj) (h : laid G0 w o) :
    Calls Tryz.prog 3 #[.int .i64 a, .int .i64 b] w (fun e w' => e = .returned (.bool true) ∧ RowKit.Below w.heap.size w w') := by
  refine call_true (σ := { i := fun x => if x = 0 then a else b, b := fun _ => false, v := fun _ => .bool false, one := fun _ => rfl, N := 0, gob := fun _ => o }) mixed (B := [i64B, i64B]) ?_
    (fun N => memo_ok rfl (noCalls _ _) T2_ok)
    (cs := [.int .i64 (.var 0), .int .i64 (.var 1)]) (by simp [dvs, dv, SI.den]) (A := []) (by intro _ h; simp at h) law_run h
  intro x l u hx
  have fa : -9223372036854775808 ≤ a ∧ a ≤ 9223372036854775807 := by simpa [Lit.wf, IntKind.min, IntKind.max, IntKind.signed, IntKind.bits] using ha
  have fb : -9223372036854775808 ≤ b ∧ b ≤ 9223372036854775807 := by simpa [Lit.wf, IntKind.min, IntKind.max, IntKind.signed, IntKind.bits] using hb
  match x, hx with
  | 0, hx => simp [i64B] at hx; obtain ⟨rfl, rfl⟩ := hx; exact fa
  | 1, hx => simp [i64B] at hx; obtain ⟨rfl, rfl⟩ := hx; exact fb
end Go.Proofs.YtjbkilpmfmhfmaaGreatDoor
