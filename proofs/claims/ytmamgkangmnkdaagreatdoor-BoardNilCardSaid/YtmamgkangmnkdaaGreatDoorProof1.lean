/- BoardNil holds: of no board nothing comes, at every number of a client and every act; as a tied card, the one package variable that its row lists (errors.errorType) tied to the program's text. -/
import Derived.Test.YtmamgkangmnkdaaGreatDoorRows
import Derived.Test.YtmamgkangmnkdaaGreatDoorCards
import Derived.Test.YtmamgkangmnkdaaGreatDoorTie
import Derived.Test.YtmamgkangmnkdaaGreatDoorWalk3
import Derived.WalkKit
import Derived.ProofKit
import Derived.OpenShut
import Derived.ChangeSame
import Derived.ChangeVars
import Derived.JoinedOf
import Derived.LaidLaws
import Derived.LaidHandle
import Derived.SevenTiedAt
import Derived.Lib.SmallJoins
namespace Go.Proofs.YtmamgkangmnkdaaGreatDoor
open Go Go.ChangeShapes Go.WideShapes Go.ChangeAt Go.RowKit Go.Joins

/-- Behind a call that met no memory of its arguments. -/
theorem post_bare {H : Type} {enc : TypeId × Value → H} {P : Program} {f : Func} {s : ChangeSpec} {apart fresh handsOn again : Bool} {W W' : World} {args : Array Value} {v : Value} {ds gs : List (DataW H)}
    (hW : DataW.Whole enc P f.params.toList s.vars apart W args.toList ds gs [])
    (hres : ∀ (b : Nat) (sp : Nat → Bool) (hd : Bool), DataW.TrodAll enc P W' b sp hd f.resultTypes.toList (v.resultList f.resultTypes.size) (s.fn H (ds ++ gs)).results [])
    (hargs : ∀ sp : Nat → Bool, DataW.TrodAll enc P W' 0 sp true f.params.toList args.toList (s.fn H (ds ++ gs)).args [])
    (hvars : ∀ sp : Nat → Bool, DataW.TrodVars enc P W' sp s.vars (s.fn H (ds ++ gs)).vars [])
    (hk : ∀ may, W.keptBut W' may)
    (hok : ∀ (j : Nat) (t : TypeId) (r : Value), f.resultTypes[j]? = some t → (v.resultList f.resultTypes.size)[j]? = some r → Value.okWide P W' .any 0 t r) :
    s.post enc P f apart fresh handsOn again W args v W' := by
  refine ⟨ds, gs, [], [], [], [], hW, hres _ _ _, hargs _, hvars _, hk _, fun _ => ⟨hok, _, _, [], ⟨[], [], trodAll_append (hargs _) (hres _ _ _), hvars _, rfl, ?_, ?_⟩, ?_⟩⟩
  · intro b off hp; simp at hp
  · intro _; simp
  · intro p hp _; simp at hp

theorem own : ownKnob Tryz.prog.godebug = none := by as_aux_lemma => kernel_rfl
theorem et : Tryz.prog.globalNamed "errors.errorType" = some 0 := by as_aux_lemma => kernel_rfl
theorem rt : (Tryz.prog.cutTypes.find? (·.1 == "internal/reflectlite.rtype")).map (·.2) = some 214 := by as_aux_lemma => kernel_rfl
theorem size : Tryz.prog.types.size = 425 := by as_aux_lemma => kernel_rfl
theorem oneRow : ((List.range 425).filter fun t => Tryz.prog.rowNamed t [101, 114, 114, 111, 114]) = [34] := by as_aux_lemma => kernel_rfl

/-- What the condition gives a walk: the variable's one cell. -/
theorem handle_of_laid {W : World} (h : laidMetH Tryz.prog [("errors.errorType", Rows.laid_errors_errorType)] W) : W.cell? ⟨0, 0, none⟩ = some (.iface 214 (.agg #[.pointer (some ⟨1, 34, none⟩)])) := by
  have h' : laidMet Tryz.prog [] W ∧ handlesMet Tryz.prog [("errors.errorType", Rows.laid_errors_errorType)] W := h
  obtain ⟨name, u, ty, e1, e2, e3, e4, e5⟩ := h'.2 _ (List.mem_singleton.2 rfl)
  have en : name = [101, 114, 114, 111, 114] := (Option.some.inj e1).symm
  subst en
  obtain rfl := Option.some.inj (rt.symm.trans e2)
  have hm : ty ∈ (List.range 425).filter fun t => Tryz.prog.rowNamed t [101, 114, 114, 111, 114] := List.mem_filter.2 ⟨List.mem_range.2 (by rw [← size]; exact e3), e4⟩
  rw [oneRow] at hm
  obtain rfl := List.mem_singleton.1 hm
  have hh : typeHandle Tryz.prog 34 = .pointer (some ⟨1, 34, none⟩) := by as_aux_lemma => kernel_rfl
  rw [hh] at e5
  simpa using World.var?_cell et e5 0

noncomputable def laidWorld (os : Os) : World :=
  let w0 := World.holding Tryz.prog os ⟨#[], #[], []⟩
  { w0 with heap := w0.heap.modify 0 fun
      | .cells _ t frozen => .cells #[.iface 214 (.agg #[.pointer (some ⟨1, 34, none⟩)])] t frozen
      | o => o }
theorem laidWorld_met (os : Os) (args : Array Value) : laidMetH Tryz.prog [("errors.errorType", Rows.laid_errors_errorType)] ((laidWorld os).forCall (fun _ _ => 0) ⟨#[], args, []⟩).memory :=
  laidMetH_of_parts (laidMet_nil _ _) (by as_aux_lemma => kernel_rfl)

set_option maxRecDepth 100000 in
theorem lifted (os : Os) (started : os.Started) (H : Type) (enc : TypeId × Value → H) :
    ReturnsInHanded {} Tryz.checked os 3 .any (fun w args => (Rows.boardNilSpec.pre enc Tryz.prog Tryz.f3 [] false w args ∧ laidMetH Tryz.prog [("errors.errorType", Rows.laid_errors_errorType)] w) ∧ sizedMet enc Tryz.prog Tryz.f3 (OpenSpec.ofChange Rows.boardNilSpec) false w args)
      (Rows.boardNilSpec.post enc Tryz.prog Tryz.f3 false true false false) := by
  refine returnsInHanded_of_change_and (C := Tryz.checked) (X := fun w _ => laidMetH Tryz.prog [("errors.errorType", Rows.laid_errors_errorType)] w) (fun _ _ _ hh h => h.of_heap hh) own started (by as_aux_lemma => kernel_rfl) Tryz.func3
    (ChangeSpec.witness_at (enc := enc) (C := Tryz.checked) (os := os) (X := fun w _ => laidMetH Tryz.prog [("errors.errorType", Rows.laid_errors_errorType)] w) false (laidWorld os) #[.int .i64 0, .agg #[.int .i64 0, .int .i64 0, .int .i64 0, .int .i64 0]] 8 rfl (by as_aux_lemma => kernel_rfl) (by as_aux_lemma => kernel_rfl) (by as_aux_lemma => kernel_rfl) (by as_aux_lemma => kernel_rfl) (by as_aux_lemma => kernel_rfl) (laidWorld_met os _)) ?_
  intro W base args ds gs before hval0 hW _ _ hL _
  have hval : ∀ (j : Nat) t v, Tryz.f3.params[j]? = some t → args[j]? = some v → Value.okWide Tryz.prog W .any base t v := hval0
  have hW' := hW
  obtain ⟨p, q, hA0, hV, rfl, hfz, hnd⟩ := hW
  have hA : DataW.TrodAll enc Tryz.prog W 0 (fun _ => true) true Tryz.f3.params.toList args.toList ds p := hA0
  rw [Tryz.params3] at hA hval
  obtain ⟨v0, vs0, d0, ds0, p0, q0, hargs, rfl, rfl, h0, r0⟩ := trodAll_cons hA
  obtain ⟨v1, vs1, d1, ds1, p1, q1, rfl, rfl, rfl, h1, r1⟩ := trodAll_cons r0
  obtain ⟨rfl, rfl, rfl⟩ := trodAll_nil r1
  obtain rfl : args = #[v0, v1] := by cases args; simp_all
  obtain ⟨rfl, rfl⟩ := trodVars_none hV
  obtain ⟨a0, rfl, rfl, rfl, w0⟩ := open_int Tryz.underlying3 (hval 0 3 v0 rfl rfl) h0
  obtain ⟨u0, u1, u2, u3, y0, y1, y2, y3, n, rfl, rfl, rfl, k0, k1, k2, k3⟩ := open_agg4 Tryz.underlying23 (by as_aux_lemma => kernel_rfl) (by as_aux_lemma => kernel_rfl) (hval 1 23 v1 rfl rfl) h1
  obtain ⟨b0, e0, rfl, x0⟩ := DataW.trod_int Tryz.underlying3 k0
  obtain ⟨b1, e1, rfl, x1⟩ := DataW.trod_int Tryz.underlying3 k1
  obtain ⟨b2, e2, rfl, x2⟩ := DataW.trod_int Tryz.underlying3 k2
  obtain ⟨b3, e3, rfl, x3⟩ := DataW.trod_int Tryz.underlying3 k3
  obtain rfl := List.singleton_inj.1 e0
  obtain rfl := List.singleton_inj.1 e1
  obtain rfl := List.singleton_inj.1 e2
  obtain rfl := List.singleton_inj.1 e3
  clear hA0 hval0
  simp only [List.append_nil] at hW'
  have hcell := handle_of_laid hL
  have hg : ∃ o, Go.Sx.laid G0 W o := by
    unfold World.cell? at hcell
    split at hcell
    · rename_i c el fr hc
      refine ⟨_, hc, c, el, fr, [.iface 214 (.agg #[.pointer (some ⟨1, 34, none⟩)])], c.toList.drop 1, rfl, rfl, ?_⟩
      have hc0 : c[0]? = some (Value.iface 214 (.agg #[.pointer (some ⟨1, 34, none⟩)])) := by simpa using hcell
      have hl : c.toList[0]? = some (Value.iface 214 (.agg #[.pointer (some ⟨1, 34, none⟩)])) := by simpa using hc0
      cases hq : c.toList with
      | nil => rw [hq] at hl; simp at hl
      | cons x xs => rw [hq] at hl; simp at hl; simp [hl]
    · simp at hcell
  obtain ⟨o, ho⟩ := hg
  refine (law_true a0 b0 b1 b2 b3 w0 x0 x1 x2 x3 W o ho).mono fun e W' ⟨he, hb⟩ => ?_
  subst he
  refine ⟨_, rfl, post_bare hW' (fun _ _ _ => (trodAll_cons_mk (shut_bool Tryz.underlying4 _) trodAll_mk0)) (fun _ => (trodAll_cons_mk (shut_int Tryz.underlying3 w0) (trodAll_cons_mk (shut_agg4 (y0 := (.lit (.int .i64 b0), [])) (y1 := (.lit (.int .i64 b1), [])) (y2 := (.lit (.int .i64 b2), [])) (y3 := (.lit (.int .i64 b3), [])) Tryz.underlying23 (by as_aux_lemma => kernel_rfl) (by as_aux_lemma => kernel_rfl) ⟨1, trod_int_mk 0 Tryz.underlying3 x0⟩ ⟨1, trod_int_mk 0 Tryz.underlying3 x1⟩ ⟨1, trod_int_mk 0 Tryz.underlying3 x2⟩ ⟨1, trod_int_mk 0 Tryz.underlying3 x3⟩) trodAll_mk0))) (fun _ => rfl)
    (fun _ => hb.frame _) (ok_one (by as_aux_lemma => kernel_rfl) rfl (okWide_bool_mk Tryz.underlying4 _))⟩

end Go.Proofs.YtmamgkangmnkdaaGreatDoor
