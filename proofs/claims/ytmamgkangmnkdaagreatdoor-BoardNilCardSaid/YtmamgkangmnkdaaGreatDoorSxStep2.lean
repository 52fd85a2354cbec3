/- SX, part 11: one operation is right. -/
import Derived.Test.YtmamgkangmnkdaaGreatDoorSxStep
namespace Go.Sx
open Go
noncomputable section
section
variable {P : Program} {B : Bnds} {σ : Vl}

theorem const_lit {x : Operand} (h : (x matches .const _) = true) : ∃ v, x = .const v := by
  cases x <;> simp at h ⊢

theorem run_eqGuard {t : TypeId} {x y : Operand} {va vb : Value} {op : BinOp} (h1 : va = .nilIface → vb = .nilIface → ((x matches .const _) || (y matches .const _)) = true)
    (h2 : ∀ xs ys, va = .agg xs → vb = .agg ys → P.eqGuardType P.depth t = false) (w : World) : (eqGuard op t x y va vb).run P w = .ok () w := by
  have main : ∀ op, (op = .eql ∨ op = .neq) → (eqGuard op t x y va vb).run P w = .ok () w := by
    intro op hop
    cases va with
    | nilIface => cases vb with
      | nilIface =>
        have h3 := h1 rfl rfl
        clear h1 h2
        rcases hop with rfl | rfl <;> cases x <;> cases y <;> first | rfl | (simp at h3; done)
      | _ => rcases hop with rfl | rfl <;> rfl
    | agg xs => cases vb with
      | agg ys =>
        have h3 := h2 xs ys rfl rfl
        rcases hop with rfl | rfl <;> simp [eqGuard, h3]
      | _ => rcases hop with rfl | rfl <;> rfl
    | _ => rcases hop with rfl | rfl <;> rfl
  cases op
  case eql => exact main .eql (.inl rfl)
  case neq => exact main .neq (.inr rfl)
  all_goals rfl

theorem stepOp_ok [GoFree P] (hB : B.ok σ) {m : M} {s : St} {a : Act} {w : World} (hA : Holds σ s.asm) (I : Inv σ m s a w) (o : Oper) {act : Act1} {h' : Heap} (e : stepOp P B s o.op = .ok (act, h')) (hN : h'.n ≤ σ.N) :
    ∃ nx w' m', (execOp a.eval o).run P w = .ok nx w' ∧ nxOk P σ m' act nx ∧ Rep σ m' h' w' ∧ Evo s.h m w h' m' w' := by
  obtain ⟨dst, op, type, pos, after, guard⟩ := o
  cases op <;> simp only [stepOp, undQ_eq] at e
  case move x =>
    refine pure_val I e fun c hc => ⟨a.eval x, ?_, I.ev hc⟩
    simp [execOp]
  case assign x =>
    refine pure_val I e fun c hc => ⟨a.eval x, ?_, I.ev hc⟩
    simp [execOp]
  case pick c x y =>
    replace e := R.bind_ok e; obtain ⟨cc, hc, e⟩ := e
    have hcv := I.ev hc
    split at e
    · rename_i b
      replace e := R.bind_ok e; obtain ⟨t, ht, e⟩ := e
      have hd := R.dec_ok hB hA ht
      simp [dv] at hcv
      refine pure_val I e fun c hc => ⟨_, ?_, I.ev hc⟩
      simp only [execOp, ← hcv, asBool, Sem.run_bind, Sem.run_pure, Result.andThen_ok, hd]
      cases t <;> rfl
    · simp at e
  case alloc el =>
    replace e := R.bind_ok e; obtain ⟨z, hz, e⟩ := e
    replace e := R.bind_ok e; obtain ⟨⟨c, h2⟩, hb, e⟩ := e
    simp at e; obtain ⟨rfl, rfl⟩ := e
    obtain ⟨zv, h1, h3⟩ := zeroCV_ok (σ := σ) (m := m) hz w
    obtain ⟨ad, w', m', h4, h5, h6, h7⟩ := boxCV_ok (P := P) I.rep h3 hb hN
    exact ⟨.value (.pointer (some ad)), w', m', by simp [execOp, Instr.alloc, h1, h4], h5, h6, h7⟩
  case box el x =>
    replace e := R.bind_ok e; obtain ⟨xc, hx, e⟩ := e
    replace e := R.bind_ok e; obtain ⟨⟨c, h2⟩, hb, e⟩ := e
    simp at e; obtain ⟨rfl, rfl⟩ := e
    obtain ⟨ad, w', m', h4, h5, h6, h7⟩ := boxCV_ok (P := P) I.rep (I.ev hx) hb hN
    exact ⟨.value (.pointer (some ad)), w', m', by simp [execOp, Instr.box, h4], h5, h6, h7⟩
  case build t ps =>
    replace e := R.bind_ok e; obtain ⟨pc, hp, e⟩ := e
    have hpo := I.evPairs hp
    refine pure_val I e fun c hc => ?_
    obtain ⟨v, h1, h2⟩ := buildCV_ok (P := P) hpo hc w
    refine ⟨v, ?_, h2⟩
    have : (ps.map fun (i, x) => (i, a.eval x)) = (ps.toList.map fun (i, x) => (i, a.eval x)).toArray := by apply Array.ext'; simp
    simp only [execOp, this]
    simp [h1]
  case buildSlice t n ps =>
    replace e := R.bind_ok e; obtain ⟨pc, hp, e⟩ := e
    have hpo := I.evPairs hp
    replace e := R.bind_ok e; obtain ⟨⟨c, h2⟩, hb, e⟩ := e
    simp at e; obtain ⟨rfl, rfl⟩ := e
    obtain ⟨v, w', m', h3, h4, h5, h6⟩ := buildSliceCV_ok (P := P) I.rep hpo hb hN
    refine ⟨.value v, w', m', ?_, h4, h5, h6⟩
    have : (ps.map fun (i, x) => (i, a.eval x)) = (ps.toList.map fun (i, x) => (i, a.eval x)).toArray := by apply Array.ext'; simp
    simp only [execOp, this]
    simp [h3]
  case load t x =>
    replace e := R.bind_ok e; obtain ⟨xc, hx, e⟩ := e
    refine pure_val I e fun c hc => ?_
    obtain ⟨ad, v, h1, h2, h3⟩ := ldVar_ok (P := P) I.rep (I.ev hx) hc
    refine ⟨v, ?_, h3⟩
    simp [execOp, Instr.loadAt, h1, Instr.sureAddr, h2]
  case store t x y =>
    replace e := R.bind_ok e; obtain ⟨xc, hx, e⟩ := e
    replace e := R.bind_ok e; obtain ⟨yc, hy, e⟩ := e
    replace e := R.bind_ok e; obtain ⟨h2, hs, e⟩ := e
    simp at e; obtain ⟨rfl, rfl⟩ := e
    obtain ⟨ad, w', h3, h4, h5, h6⟩ := stVar_ok (P := P) I.rep (I.ev hx) (I.ev hy) hs
    exact ⟨.skip, w', m, by simp [execOp, Instr.storeAt, h3, Instr.sureAddr, h4], trivial, h5, h6⟩
  case nilCheck x =>
    replace e := R.bind_ok e; obtain ⟨c, hc, e⟩ := e
    split at e
    · rename_i hn
      simp at e; obtain ⟨rfl, rfl⟩ := e
      have hv := I.ev hc
      refine ⟨.value (a.eval x), w, m, ?_, hv, I.rep, Evo.refl _ _ _⟩
      simp only [execOp]
      cases c <;> simp [nilOk] at hn <;> simp only [dv, Option.map_eq_some_iff, Option.bind_eq_some_iff, Option.some.injEq] at hv
      case func fn first captured =>
        obtain ⟨xs, _, ys, _, hv⟩ := hv
        rw [← hv]
        cases fn <;> simp at hn <;> rfl
      all_goals first
        | (rw [← hv]; rfl)
        | (obtain ⟨_, _, hv⟩ := hv; rw [← hv]; rfl)
    · simp at e
  case binOp op t x y yt =>
    replace e := R.bind_ok e; obtain ⟨xc, hx, e⟩ := e
    replace e := R.bind_ok e; obtain ⟨yc, hy, e⟩ := e
    have hxv := I.ev hx
    have hyv := I.ev hy
    refine pure_val I e fun c hc => ?_
    have intGuard : ∀ {k k' : IntKind} {n n' : Int}, a.eval x = .int k n → a.eval y = .int k' n' → (eqGuard op t x y (a.eval x) (a.eval y)).run P w = .ok () w := by
      intro k k' n n' h1 h2
      exact run_eqGuard (by rw [h1]; simp) (by rw [h1]; simp) w
    split at hc
    · rename_i k p k' q
      simp [dv] at hxv hyv
      obtain ⟨v, h1, h2⟩ := shI_ok (P := P) (m := m) (k' := k') hB hA hc (.inl rfl) t w
      refine ⟨v, ?_, h2⟩
      have hg := intGuard hxv.symm hyv.symm
      rw [← hxv, ← hyv] at hg
      simp only [execOp, Sem.run_bind, ← hxv, ← hyv, hg, Result.andThen_ok, h1, Sem.run_pure]
    · rename_i k p k' q
      simp [dv] at hxv hyv
      obtain ⟨v, h1, h2⟩ := shI_ok (P := P) (m := m) (k' := k') hB hA hc (.inr rfl) t w
      refine ⟨v, ?_, h2⟩
      have hg := intGuard hxv.symm hyv.symm
      rw [← hxv, ← hyv] at hg
      simp only [execOp, Sem.run_bind, ← hxv, ← hyv, hg, Result.andThen_ok, h1, Sem.run_pure]
    · rename_i k p k' q _ _
      split at hc
      · rename_i hk; subst hk
        simp [dv] at hxv hyv
        obtain ⟨v, h1, h2⟩ := binI_ok (P := P) (m := m) hB hA hc t w
        refine ⟨v, ?_, h2⟩
        have hg := intGuard hxv.symm hyv.symm
        rw [← hxv, ← hyv] at hg
        simp only [execOp, Sem.run_bind, ← hxv, ← hyv, hg, Result.andThen_ok, h1, Sem.run_pure]
      · simp at hc
    · rename_i p q
      simp [dv] at hxv hyv
      replace hc := R.bind_ok hc; obtain ⟨v, hv, hc⟩ := hc
      refine ⟨v, ?_, ofVal_ok σ m (R.ofOpt_ok hc)⟩
      have hg : (eqGuard op t x y (.string ⟨p.toArray⟩) (.string ⟨q.toArray⟩)).run P w = .ok () w := run_eqGuard (by simp) (by simp) w
      have hs := pev_ok (R.ofOpt_ok hv) w
      have hb : binOp op t (.string ⟨p.toArray⟩) (.string ⟨q.toArray⟩) = Op.stringOp op ⟨p.toArray⟩ ⟨q.toArray⟩ := by cases op <;> rfl
      simp only [execOp, Sem.run_bind, ← hxv, ← hyv, hg, Result.andThen_ok, hb, hs, Sem.run_pure]
    · rename_i hni
      replace hc := R.bind_ok hc; obtain ⟨b, hb, hc⟩ := hc
      simp at hc; subst hc
      obtain ⟨h1, h2, h3⟩ := eqCV_ok (P := P) hB hA I.rep hxv hyv hb
      refine ⟨.bool (b.den σ), ?_, by simp [dv]⟩
      have hg := run_eqGuard (P := P) (op := .eql) (t := t) h2 h3 w
      have hbin : binOp .eql t (a.eval x) (a.eval y) = (do pure (.bool (← Op.equal t (a.eval x) (a.eval y)))) := by
        unfold eqCV at hb
        simp only [undQ_eq, infoQ_eq] at hb
        split at hb <;> first
          | (simp at hb; done)
          | (simp only [dv, Option.map_eq_some_iff, Option.bind_eq_some_iff, Option.some.injEq] at hxv hyv
             first
               | rw [← hxv]
               | (obtain ⟨_, _, hxv⟩ := hxv; rw [← hxv])
               | (obtain ⟨_, _, _, _, hxv⟩ := hxv; rw [← hxv])
             first
               | rw [← hyv]
               | (obtain ⟨_, _, hyv⟩ := hyv; rw [← hyv])
               | (obtain ⟨_, _, _, _, hyv⟩ := hyv; rw [← hyv])
             rfl)
      simp only [execOp, Sem.run_bind, hg, Result.andThen_ok, hbin, h1, Sem.run_pure]
    · rename_i hni
      replace hc := R.bind_ok hc; obtain ⟨b, hb, hc⟩ := hc
      simp at hc; subst hc
      obtain ⟨h1, h2, h3⟩ := eqCV_ok (P := P) hB hA I.rep hxv hyv hb
      refine ⟨.bool (!(b.den σ)), ?_, by simp [dv, SB.den_neg]⟩
      have hg := run_eqGuard (P := P) (op := .neq) (t := t) h2 h3 w
      have hbin : binOp .neq t (a.eval x) (a.eval y) = (do pure (.bool (!(← Op.equal t (a.eval x) (a.eval y))))) := by
        unfold eqCV at hb
        simp only [undQ_eq, infoQ_eq] at hb
        split at hb <;> first
          | (simp at hb; done)
          | (simp only [dv, Option.map_eq_some_iff, Option.bind_eq_some_iff, Option.some.injEq] at hxv hyv
             first
               | rw [← hxv]
               | (obtain ⟨_, _, hxv⟩ := hxv; rw [← hxv])
               | (obtain ⟨_, _, _, _, hxv⟩ := hxv; rw [← hxv])
             first
               | rw [← hyv]
               | (obtain ⟨_, _, hyv⟩ := hyv; rw [← hyv])
               | (obtain ⟨_, _, _, _, hyv⟩ := hyv; rw [← hyv])
             rfl)
      simp only [execOp, Sem.run_bind, hg, Result.andThen_ok, hbin, h1, Sem.run_pure]
    · simp at hc
  case unOp op t x =>
    replace e := R.bind_ok e; obtain ⟨xc, hx, e⟩ := e
    refine pure_val I e fun c hc => ?_
    obtain ⟨u, h1, h2⟩ := unCV_ok (P := P) hB hA (I.ev hx) hc w
    exact ⟨u, by simp [execOp, h1], h2⟩
  case convert t u x =>
    replace e := R.bind_ok e; obtain ⟨xc, hx, e⟩ := e
    refine pure_val I e fun c hc => ?_
    obtain ⟨u, h1, h2⟩ := convCV_ok (P := P) hB hA (I.ev hx) hc w
    exact ⟨u, by simp [execOp, h1], h2⟩
  case makeInterface t x =>
    replace e := R.bind_ok e; obtain ⟨xc, hx, e⟩ := e
    split at e
    · simp at e
    · rename_i d hni hu
      simp at e; obtain ⟨rfl, rfl⟩ := e
      refine ⟨.value (.iface t (a.eval x)), w, m, ?_, by simp [nxOk, dv, I.ev hx], I.rep, Evo.refl _ _ _⟩
      simp only [execOp, Instr.makeInterface, Sem.run_bind, run_underlying hu, Result.andThen_ok]
      cases d <;> first | (exact absurd rfl (hni _)) | rfl
    · simp at e
  case makeFunc fn first captured =>
    replace e := R.bind_ok e; obtain ⟨xs, hx, e⟩ := e
    replace e := R.bind_ok e; obtain ⟨ys, hy, e⟩ := e
    simp at e; obtain ⟨rfl, rfl⟩ := e
    refine ⟨.value (.func fn (first.map a.eval) (captured.map a.eval)), w, m, by simp [execOp, Instr.makeFunc], ?_, I.rep, Evo.refl _ _ _⟩
    simp only [nxOk, dv, I.evs hx, I.evs hy, Option.bind_some, Option.map_some, Option.some.injEq, Value.func.injEq, true_and]
    exact ⟨by apply Array.ext'; simp, by apply Array.ext'; simp⟩
  case makeMap t r =>
    cases r with
    | some _ => simp at e
    | none =>
      try simp only at e
      replace e := R.bind_ok e; obtain ⟨⟨c, h2⟩, hb, e⟩ := e
      simp at e; obtain ⟨rfl, rfl⟩ := e
      replace hb := R.bind_ok hb; obtain ⟨h3, hn, hb⟩ := hb
      simp at hb; obtain ⟨rfl, rfl⟩ := hb
      have hr := I.rep.new (w' := { w with heap := w.heap.push (.map #[] 0) }) (n := 0) (wo := .map #[] 0) (R.ofOpt_ok hn) hN rfl ⟨rfl, rfl, rfl⟩ ⟨#[], rfl, trivial⟩
      refine ⟨.value (.map (some w.heap.size)), _, _, ?_, ?_, hr.1, hr.2⟩
      · simp [execOp, Instr.makeMap]
      · simp [nxOk, dv, M.put]
  case makeSlice t x y =>
    replace e := R.bind_ok e; obtain ⟨xc, hx, e⟩ := e
    replace e := R.bind_ok e; obtain ⟨yc, hy, e⟩ := e
    replace e := R.bind_ok e; obtain ⟨⟨c, h2⟩, hb, e⟩ := e
    simp at e; obtain ⟨rfl, rfl⟩ := e
    obtain ⟨v, w', m', h1, h3, h4, h5⟩ := makeCV_ok (P := P) hB hA I.rep (I.ev hx) (I.ev hy) hb hN
    exact ⟨.value v, w', m', by simp [execOp, h1], h3, h4, h5⟩
  case slice t x lo hi mx =>
    replace e := R.bind_ok e; obtain ⟨xc, hx, e⟩ := e
    replace e := R.bind_ok e; obtain ⟨lc, hl, e⟩ := e
    replace e := R.bind_ok e; obtain ⟨hc', hh, e⟩ := e
    replace e := R.bind_ok e; obtain ⟨mc, hm, e⟩ := e
    refine pure_val I e fun c hc => ?_
    obtain ⟨u, h1, h2⟩ := sliceCV_ok (P := P) hB hA I.rep (I.ev hx) (I.evOpt hl) (I.evOpt hh) (I.evOpt hm) hc
    exact ⟨u, by simp [execOp, h1], h2⟩
  case fieldAddr t x f =>
    replace e := R.bind_ok e; obtain ⟨xc, hx, e⟩ := e
    refine pure_val I e fun c hc => ?_
    obtain ⟨u, h1, h2⟩ := fieldAddrCV_ok (P := P) (I.ev hx) hc w
    exact ⟨u, by simp [execOp, h1], h2⟩
  case field t x f =>
    replace e := R.bind_ok e; obtain ⟨xc, hx, e⟩ := e
    refine pure_val I e fun c hc => ?_
    obtain ⟨u, h1, h2⟩ := fieldCV_ok (P := P) (I.ev hx) hc w
    exact ⟨u, by simp [execOp, h1], h2⟩
  case indexAddr t x i =>
    replace e := R.bind_ok e; obtain ⟨xc, hx, e⟩ := e
    replace e := R.bind_ok e; obtain ⟨ic, hi, e⟩ := e
    refine pure_val I e fun c hc => ?_
    obtain ⟨u, h1, h2⟩ := indexAddrCV_ok (P := P) hB hA I.rep (I.ev hx) (I.ev hi) hc
    exact ⟨u, by simp [execOp, h1], h2⟩
  case index t x i =>
    replace e := R.bind_ok e; obtain ⟨xc, hx, e⟩ := e
    replace e := R.bind_ok e; obtain ⟨ic, hi, e⟩ := e
    refine pure_val I e fun c hc => ?_
    obtain ⟨u, h1, h2⟩ := indexCV_ok (P := P) hB hA (I.ev hx) (I.ev hi) hc w
    exact ⟨u, by simp [execOp, h1], h2⟩
  case lookup t x i ok =>
    replace e := R.bind_ok e; obtain ⟨xc, hx, e⟩ := e
    replace e := R.bind_ok e; obtain ⟨ic, hi, e⟩ := e
    refine pure_val I e fun c hc => ?_
    obtain ⟨u, h1, h2⟩ := lookupCV_ok (P := P) hB hA I.rep (I.ev hx) (I.ev hi) hc
    exact ⟨u, by simp [execOp, h1], h2⟩
  case mapUpdate t x i v =>
    replace e := R.bind_ok e; obtain ⟨xc, hx, e⟩ := e
    replace e := R.bind_ok e; obtain ⟨ic, hi, e⟩ := e
    replace e := R.bind_ok e; obtain ⟨vc, hv, e⟩ := e
    replace e := R.bind_ok e; obtain ⟨h2, hs, e⟩ := e
    simp at e; obtain ⟨rfl, rfl⟩ := e
    obtain ⟨w', h4, h5, h6⟩ := mapUpdCV_ok (P := P) hB hA I.rep (I.ev hx) (I.ev hi) (I.ev hv) hs
    exact ⟨.skip, w', m, by simp [execOp, h4], trivial, h5, h6⟩
  case insert t x i v =>
    replace e := R.bind_ok e; obtain ⟨xc, hx, e⟩ := e
    replace e := R.bind_ok e; obtain ⟨ic, hi, e⟩ := e
    replace e := R.bind_ok e; obtain ⟨vc, hv, e⟩ := e
    replace e := R.bind_ok e; obtain ⟨h2, hs, e⟩ := e
    simp at e; obtain ⟨rfl, rfl⟩ := e
    obtain ⟨w', h4, h5, h6⟩ := mapUpdCV_ok (P := P) hB hA I.rep (I.ev hx) (I.ev hi) (I.ev hv) hs
    exact ⟨.skip, w', m, by simp [execOp, h4], trivial, h5, h6⟩
  case typeAssert x xt t ok =>
    replace e := R.bind_ok e; obtain ⟨xc, hx, e⟩ := e
    refine pure_val I e fun c hc => ?_
    obtain ⟨u, h1, h2⟩ := assertCV_ok (P := P) (xt := xt) (I.ev hx) hc w
    exact ⟨u, by simp [execOp, h1], h2⟩
  case extract x i =>
    replace e := R.bind_ok e; obtain ⟨xc, hx, e⟩ := e
    refine pure_val I e fun c hc => ?_
    obtain ⟨u, h1, h2⟩ := extractCV_ok (P := P) (I.ev hx) hc w
    exact ⟨u, by simp [execOp, h1], h2⟩
  case call c =>
    obtain ⟨nx, w', m', h1, h2⟩ := callCV_ok (P := P) (ty := type) hB hA I e hN
    exact ⟨nx, w', m', by simpa only [execOp] using h1, h2⟩
  case defer c =>
    split at e
    · rename_i f hc
      replace e := R.bind_ok e; obtain ⟨fc, hf, e⟩ := e
      split at e
      · rename_i f' first captured
        replace e := R.bind_ok e; obtain ⟨args, ha, e⟩ := e
        simp at e; obtain ⟨rfl, rfl⟩ := e
        have hfv := I.ev hf
        simp only [dv, Option.bind_eq_some_iff, Option.map_eq_some_iff] at hfv
        obtain ⟨xs, hxs, ys, hys, hfe⟩ := hfv
        have hav := I.evs ha
        refine ⟨.defer { target := .fn (.func f') ys.toArray, args := (xs ++ c.args.toList.map a.eval).toArray }, w, m, ?_, ?_, I.rep, Evo.refl _ _ _⟩
        · simp only [execOp, resolve, hc, Deferred.ofValue, ← hfe]
          simp
        · refine ⟨ys.toArray, (xs ++ c.args.toList.map a.eval).toArray, rfl, ?_⟩
          have := dvs_append hxs (dvs_append hav hys)
          simpa using this
      · simp at e
    · simp at e
  all_goals simp at e
end
end
end Go.Sx
