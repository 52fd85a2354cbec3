/- The walk of intagliolaw23.BoardNil, part 1: what is known of calls at numbers alone; awake answers true in every world in which errors.errorType is as it was laid. -/
import Derived.Test.YtmamgkangmnkdaaGreatDoorSxMemo
import Derived.Test.YtmamgkangmnkdaaGreatDoorChecked
namespace Go.Proofs.YtmamgkangmnkdaaGreatDoor
open Go Go.Sx
set_option maxRecDepth 100000

def iL (n : Int) : CV := .int .i64 (.lit n)
def G0 : List CV := [.iface 214 (.agg [.gptr 1 34])]
def cfg : CV := .agg [iL 1, iL 6, iL 1, iL 3, iL 7, iL 0, iL 14, iL 0, iL 1]
def cfg0 : CV := .agg [iL 0, iL 0, iL 0, iL 0, iL 0, iL 0, iL 0, iL 0, iL 0]
def spec0 : CV := .agg [iL 0, iL 0, iL 0, iL 0, iL 0]
theorem mixed : Tryz.prog.follows .mixedOrders = true := by kernel_rfl
instance goFree : GoFree Tryz.prog := GoFree.of (by kernel_rfl)
def eRight : Ment := ⟨66, [cfg], .bool (.lit true)⟩
def eRight0 : Ment := ⟨66, [cfg0], .bool (.lit false)⟩
def eSpec : Ment := ⟨4, [spec0], cfg⟩
def eTop0 : Ment := ⟨18, [.nilIface], iL 0⟩
def eTop1 : Ment := ⟨18, [.iface 55 (iL 1)], iL 1⟩
def eTop12 : Ment := ⟨18, [.iface 55 (iL 12)], iL 12⟩
def eCheck : Ment := ⟨44, [cfg], .nilIface⟩
def eStart : Ment := ⟨57, [cfg, iL 5], iL 0⟩
def eSize : Ment := ⟨46, [cfg], iL 20⟩
def ePack : Ment := ⟨48, [cfg], .int .u64 (.lit 7881540140811009)⟩
def eBlocks : Ment := ⟨36, [cfg], iL 0⟩
def eControl : Ment := ⟨171, [cfg, iL 0], iL 6⟩
theorem right_ok : MentOk Tryz.prog G0 eRight := ment_run mixed (fun _ => noCalls _ _) 2000 20000 rfl rfl (by kernel_rfl)
theorem right0_ok : MentOk Tryz.prog G0 eRight0 := ment_run mixed (fun _ => noCalls _ _) 2000 20000 rfl rfl (by kernel_rfl)
theorem spec_ok : MentOk Tryz.prog G0 eSpec := ment_run mixed (fun _ => noCalls _ _) 2000 20000 rfl rfl (by kernel_rfl)
theorem top0_ok : MentOk Tryz.prog G0 eTop0 := ment_run mixed (fun _ => noCalls _ _) 2000 20000 rfl rfl (by kernel_rfl)
theorem top1_ok : MentOk Tryz.prog G0 eTop1 := ment_run mixed (fun _ => noCalls _ _) 2000 20000 rfl rfl (by kernel_rfl)
theorem top12_ok : MentOk Tryz.prog G0 eTop12 := ment_run mixed (fun _ => noCalls _ _) 2000 20000 rfl rfl (by kernel_rfl)
def T1 : List Ment := [eRight, eRight0, eSpec, eTop0, eTop1, eTop12]
theorem T1_ok : ∀ e ∈ T1, MentOk Tryz.prog G0 e := (ments_cons right_ok (ments_cons right0_ok (ments_cons spec_ok (ments_cons top0_ok (ments_cons top1_ok (ments_cons top12_ok (by simp)))))))
theorem check_ok : MentOk Tryz.prog G0 eCheck := ment_run mixed (fun _ => memo_ok rfl (noCalls _ _) T1_ok) 2000 20000 rfl rfl (by kernel_rfl)
theorem start_ok : MentOk Tryz.prog G0 eStart := ment_run mixed (fun _ => memo_ok rfl (noCalls _ _) T1_ok) 2000 20000 rfl rfl (by kernel_rfl)
theorem size_ok : MentOk Tryz.prog G0 eSize := ment_run mixed (fun _ => memo_ok rfl (noCalls _ _) T1_ok) 2000 20000 rfl rfl (by kernel_rfl)
theorem pack_ok : MentOk Tryz.prog G0 ePack := ment_run mixed (fun _ => memo_ok rfl (noCalls _ _) T1_ok) 2000 20000 rfl rfl (by kernel_rfl)
theorem blocks_ok : MentOk Tryz.prog G0 eBlocks := ment_run mixed (fun _ => memo_ok rfl (noCalls _ _) T1_ok) 2000 20000 rfl rfl (by kernel_rfl)
theorem control_ok : MentOk Tryz.prog G0 eControl := ment_run mixed (fun _ => memo_ok rfl (noCalls _ _) T1_ok) 2000 20000 rfl rfl (by kernel_rfl)
def T2 : List Ment := [eRight, eRight0, eSpec, eTop0, eTop1, eTop12, eCheck, eStart, eSize, ePack, eBlocks, eControl]
theorem T2_ok : ∀ e ∈ T2, MentOk Tryz.prog G0 e := (ments_cons right_ok (ments_cons right0_ok (ments_cons spec_ok (ments_cons top0_ok (ments_cons top1_ok (ments_cons top12_ok (ments_cons check_ok (ments_cons start_ok (ments_cons size_ok (ments_cons pack_ok (ments_cons blocks_ok (ments_cons control_ok (by simp)))))))))))))
def eAwake : Ment := ⟨11, [], .bool (.lit true)⟩
theorem awake_ok : MentOk Tryz.prog G0 eAwake := ment_run mixed (fun _ => memo_ok rfl (noCalls _ _) T2_ok) 2000 20000 rfl rfl (by kernel_rfl)
def T3 : List Ment := eAwake :: T2
theorem T3_ok : ∀ e ∈ T3, MentOk Tryz.prog G0 e := ments_cons awake_ok T2_ok

def i64B : Int × Int := (-9223372036854775808, 9223372036854775807)
def B5 : Bnds := [i64B, i64B, i64B, i64B, i64B]
def args : List CV := [.int .i64 (.var 0), .agg [.int .i64 (.var 1), .int .i64 (.var 2), .int .i64 (.var 3), .int .i64 (.var 4)]]
noncomputable def law (A : List SB) : Bool := allTrue B5 20000 (run Tryz.prog B5 (hooks Tryz.prog B5 (memo G0 T3 (fun _ _ _ => none))) 3000 (.call 3 args) (st0 G0 A))
def xKind : SI := .bits .and .i64 (.var 2) (.lit 15)
def xKey : SI := .bits .and .i64 (.var 3) (.lit 7)
def xN : SI := .bits .and .i64 (.bits .and .i64 (.var 4) (.lit 4095)) (.lit 3)
def isK (c : Int) : SB := .eq xKind (.lit c)
def isQ (c : Int) : SB := .eq xKey (.lit c)
def isN (c : Int) : SB := .eq xN (.lit c)
end Go.Proofs.YtmamgkangmnkdaaGreatDoor
