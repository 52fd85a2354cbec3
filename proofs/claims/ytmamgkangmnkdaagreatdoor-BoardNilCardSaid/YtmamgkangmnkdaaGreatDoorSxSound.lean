/- SX, part 13: the run is right. -/
import Derived.Test.YtmamgkangmnkdaaGreatDoorSxMono
import Derived.Defers
namespace Go.Sx
open Go
noncomputable section
section
variable {P : Program} {B : Bnds} {σ : Vl}

structure RnOk (P : Program) (σ : Vl) (n : Nat) (rn : Cmd → St → List Leaf) : Prop where
  code : ∀ {c : Code} {s : St} {m : M} {a : Act} {w : World} {Q : Exit → Act → World → Prop}, Holds σ s.asm → Inv σ m s a w → Good σ (rn (.code c) s) →
    (∀ e a' w', Ends σ s.h m w (rn (.code c) s) e a' w' → Q e a' w') → c.wp P Q a w
  loop : ∀ {c : Code} {s : St} {m : M} {a : Act} {w : World} {Q : Exit → Act → World → Prop}, Holds σ s.asm → Inv σ m s a w → Good σ (rn (.loop c) s) →
    (∀ e a' w', Ends σ s.h m w (rn (.loop c) s) e a' w' → Q e a' w') → Code.rounds P c Q n a w
  ops : ∀ {all : Array Oper} {l : List Oper} {s : St} {m : M} {a : Act} {w : World} {Q : Exit → Act → World → Prop}, Holds σ s.asm → Inv σ m s a w → Good σ (rn (.ops all l) s) →
    (∀ e a' w', Ends σ s.h m w (rn (.ops all l) s) e a' w' → Q e a' w') → wpList P all Q l a w
  call : ∀ {f : FuncId} {cs : List CV} {vs : Array Value} {s : St} {m : M} {w : World}, Holds σ s.asm → Rep σ m s.h w → dvs σ m cs = some vs.toList → Good σ (rn (.call f cs) s) →
    Calls P f vs w (CallEnds σ s.h m w (rn (.call f cs) s))
  dcall : ∀ {f : FuncId} {cs : List CV} {vs : Array Value} {s : St} {m : M} {w : World}, Holds σ s.asm → Rep σ m s.h w → dvs σ m cs = some vs.toList → Good σ (rn (.dcall f cs) s) →
    (callFunc f vs).run P w = .ok (.enter f vs) w ∧ CallsD P f vs .returning w fun e u' w' => u' = .returning ∧ CallEnds σ s.h m w (rn (.dcall f cs) s) e w'
  door : ∀ {fn : Func} {l : List (FuncId × List CV)} {ds : List Deferred} {s : St} {m : M} {a : Act} {w : World} {R : Ending → World → Prop}, Holds σ s.asm → Inv σ m s a w → DfOk σ m l ds → Good σ (rn (.door l fn.results.toList) s) →
    (∀ e w', CallEnds σ s.h m w (rn (.door l fn.results.toList) s) e w' → R e w') → Leaves P fn a.tmps R ds .returning w

structure HooksOk (P : Program) (σ : Vl) (H : Hooks) : Prop where
  draw : ∀ {n : Nat} {rn : Cmd → St → List Leaf}, (∀ N, RnOk P (σ.wN N) n rn) → RnMono rn → ∀ {id : Nat} {ops : Array Oper} {s : St} {m : M} {a : Act} {w : World} {Q : Exit → Act → World → Prop}, Holds σ s.asm → Inv σ m s a w → Good σ (H.draw rn ops s) →
    (∀ e a' w', Ends σ s.h m w (H.draw rn ops s) e a' w' → Q e a' w') → (Code.region id ops true).wp P Q a w
  call : ∀ {f : FuncId} {cs : List CV} {vs : Array Value} {s : St} {m : M} {w : World} {L : List Leaf}, H.call f cs s = some L → Holds σ s.asm → Rep σ m s.h w → dvs σ m cs = some vs.toList → Good σ L →
    Calls P f vs w (CallEnds σ s.h m w L)

theorem Good.sub {L L' : List Leaf} (h : Good σ L) (hs : ∀ y ∈ L', y ∈ L) : Good σ L' := ⟨fun n s' hm => h.1 n s' (hs _ hm), fun l hl => h.2 l (hs _ hl)⟩

theorem Good.then {L : List Leaf} {f : St → List Leaf} (h : Good σ (thenL L f)) (h1 : ∀ s, f s ≠ [] ∧ ∀ l ∈ f s, s.h.n ≤ l.2.h.n) : Good σ L := by
  refine ⟨fun k s' hm => h.1 k s' (mem_thenL.2 (.inr ⟨hm, by simp⟩)), fun l hl => ?_⟩
  by_cases hn : ∃ s, l = (.norm, s)
  · obtain ⟨s, rfl⟩ := hn
    obtain ⟨hne, hm⟩ := h1 s
    obtain ⟨y, hy⟩ := List.exists_mem_of_ne_nil _ hne
    exact Nat.le_trans (hm y hy) (h.2 y (mem_thenL.2 (.inl ⟨s, hl, hy⟩)))
  · exact h.2 l (mem_thenL.2 (.inr ⟨hl, fun s e => hn ⟨s, e⟩⟩))

theorem Good.map {L : List Leaf} {f : Leaf → Leaf} (h : Good σ (L.map f)) (h1 : ∀ l, (f l).2 = l.2) (h2 : ∀ k s, ∃ k', (f (.bad k, s)).1 = .bad k') : Good σ L := by
  refine ⟨fun k s' hm => ?_, fun l hl => ?_⟩
  · obtain ⟨k', hk⟩ := h2 k s'
    have := h.1 k' s' (by
      have : f (.bad k, s') = (.bad k', s') := Prod.ext hk (h1 _)
      rw [← this]; exact List.mem_map.2 ⟨_, hm, rfl⟩)
    exact this
  · rw [← h1 l]; exact h.2 _ (List.mem_map.2 ⟨l, hl, rfl⟩)

/-- A run that has been parted. -/
theorem parted {A : List SB} (hA : Holds σ A) (b : SB) : Holds σ (b :: A) ∨ Holds σ (b.neg :: A) := by
  cases h : b.den σ with
  | true => exact .inl (hA.cons h)
  | false => exact .inr (hA.cons (by rw [SB.den_neg, h]; rfl))

theorem mem_putL {s s' : St} {d : Option Tmp} {c : CV} {f : St → List Leaf} (h : s.put d c = some s') : putL s d c f = f s' := by
  simp [putL, h]

theorem putL_good {s : St} {d : Option Tmp} {c : CV} {f : St → List Leaf} (hA : Holds σ s.asm) (h : Good σ (putL s d c f)) : ∃ s', s.put d c = some s' := by
  unfold putL at h
  split at h
  · rename_i s' hs; exact ⟨s', hs⟩
  · exact absurd hA (h.1 231 s (by simp))

theorem put_same {s s' : St} {d : Option Tmp} {c : CV} (h : s.put d c = some s') : s'.h = s.h ∧ s'.asm = s.asm := by
  cases d with
  | none => simp [St.put] at h; subst h; exact ⟨rfl, rfl⟩
  | some t =>
    simp only [St.put] at h
    split at h
    · simp only [Option.map_eq_some_iff] at h; obtain ⟨tm, _, rfl⟩ := h; exact ⟨rfl, rfl⟩
    · simp at h

theorem CallEnds.lift {h h' : Heap} {m m' : M} {w w' : World} {L L' : List Leaf} {e : Ending} {w2 : World} (x : CallEnds σ h' m' w' L' e w2) (ev : Evo h m w h' m' w') (hL : ∀ y ∈ L', y ∈ L) : CallEnds σ h m w L e w2 := by
  obtain ⟨c, s', v, m2, h1, h2, h3, h4, h5, h6⟩ := x
  exact ⟨c, s', v, m2, hL _ h1, h2, h3, h4, h5, ev.trans h6⟩

theorem Good.flatMap {L : List Leaf} {g : Leaf → List Leaf} (h : Good σ (L.flatMap g)) (h1 : ∀ y ∈ L, g y ≠ [] ∧ ∀ l ∈ g y, y.2.h.n ≤ l.2.h.n) (h2 : ∀ k s, (.bad k, s) ∈ g (.bad k, s)) : Good σ L := by
  refine ⟨fun k s' hm => h.1 k s' (List.mem_flatMap.2 ⟨_, hm, h2 k s'⟩), fun l hl => ?_⟩
  obtain ⟨hne, hm⟩ := h1 l hl
  obtain ⟨y, hy⟩ := List.exists_mem_of_ne_nil _ hne
  exact Nat.le_trans (hm y hy) (h.2 y (List.mem_flatMap.2 ⟨_, hl, hy⟩))

theorem wpList_want {all : Array Oper} {rest : List Oper} {o : Oper} {a : Act} {w : World} {Q : Exit → Act → World → Prop} {t : Bool} (hw : Region.wanted o (yielded all a.tmps) = t)
    (h1 : t = true → ∀ K : Act → World → Prop, (∀ a w, wpList P all Q rest a w → K a w) → o.wp P a w K Q) (h2 : t = false → wpList P all Q rest (a.put o.dst undef) w) : wpList P all Q (o :: rest) a w := by
  refine wpList_step fun K hK => ?_
  rw [hw]
  cases t with
  | true => simpa using h1 rfl K hK
  | false => simpa using hK _ _ (h2 rfl)

theorem ofArgs_ok {m : M} : ∀ {cs : List CV} {i : Nat} {t : Tr CV} {vs : List Value}, ofArgs cs i = some t → dvs σ m cs = some vs → ∀ j c, t.get j = some c → i ≤ j ∧ ∃ v, vs[j - i]? = some v ∧ dv σ m c = some v
  | [], i, t, vs, h, hv, j, c, hj => by
    simp [ofArgs] at h; subst h
    simp [Tr.get] at hj
  | d :: cs, i, t, vs, h, hv, j, c, hj => by
    simp only [ofArgs, Option.bind_eq_some_iff] at h
    obtain ⟨t', ht', hs⟩ := h
    obtain ⟨v, us, hc, hu, rfl⟩ := dvs_cons.1 hv
    rw [Tr.get_set 40 t' i (some d) hs j] at hj
    by_cases hji : j = i
    · subst hji
      rw [if_pos rfl] at hj; simp at hj; subst hj
      exact ⟨Nat.le_refl _, v, by simp, hc⟩
    · rw [if_neg hji] at hj
      obtain ⟨h1, v', h2, h3⟩ := ofArgs_ok ht' hu j c hj
      refine ⟨by omega, v', ?_, h3⟩
      have : j - i = (j - (i + 1)) + 1 := by omega
      rw [this]; simpa using h2

theorem resCV_ok {m : M} {s : St} {a : Act} {w : World} (I : Inv σ m s a w) {g : ResultVar → Sem Value} (g1 : ∀ t, g (.tmp t) = pure (a.tmps.getD t undef)) (g2 : ∀ b t, g (.cell b t) = (do loadVar t (← asAddr (a.tmps.getD b undef)))) {r : ResultVar} {c : CV} (e : resCV P s r = .ok c) :
    ∃ v, (g r).run P w = .ok v w ∧ dv σ m c = some v := by
  cases r with
  | tmp t => simp only [resCV] at e; exact ⟨_, by rw [g1]; rfl, I.tm t c (R.ofOpt_ok e)⟩
  | cell b t =>
    simp only [resCV] at e
    replace e := R.bind_ok e; obtain ⟨bc, hb, e⟩ := e
    obtain ⟨ad, v, h1, h2, h3⟩ := ldVar_ok (P := P) I.rep (I.tm b bc (R.ofOpt_ok hb)) e
    refine ⟨v, ?_, h3⟩
    simp only [g2, h1, asAddr, Sem.run_bind, Sem.run_pure, Result.andThen_ok, h2]

theorem ressCV_ok {m : M} {s : St} {a : Act} {w : World} (I : Inv σ m s a w) {g : ResultVar → Sem Value} (g1 : ∀ t, g (.tmp t) = pure (a.tmps.getD t undef)) (g2 : ∀ b t, g (.cell b t) = (do loadVar t (← asAddr (a.tmps.getD b undef)))) :
    ∀ {rs : List ResultVar} {cs : List CV}, ressCV P s rs = .ok cs → ∃ vs, (rs.mapM g).run P w = .ok vs w ∧ dvs σ m cs = some vs
  | [], cs, e => by simp [ressCV] at e; subst e; exact ⟨[], by simp, by simp [dvs]⟩
  | r :: rs, cs, e => by
    simp only [ressCV] at e
    replace e := R.bind_ok e; obtain ⟨c, hc, e⟩ := e
    replace e := R.bind_ok e; obtain ⟨ds, hd, e⟩ := e
    simp at e; subst e
    obtain ⟨v, h1, h2⟩ := resCV_ok (P := P) I g1 g2 hc
    obtain ⟨vs, h3, h4⟩ := ressCV_ok I g1 g2 hd
    refine ⟨v :: vs, ?_, by simp [dvs_cons, h2, h4]⟩
    simp only [List.mapM_cons, Sem.run_bind, Sem.run_pure, h1, Result.andThen_ok, h3]

theorem resultsCV_ok {m : M} {s : St} {a : Act} {w : World} (I : Inv σ m s a w) {fn : Func} {c : CV} (e : resultsCV P s fn.results.toList = .ok c) : ∃ v, (results fn a.tmps).run P w = .ok v w ∧ dv σ m c = some v := by
  unfold resultsCV at e
  replace e := R.bind_ok e; obtain ⟨cs, hcs, e⟩ := e
  have hrun : ∀ {vs : List Value} {v : Value}, dvs σ m cs = some vs → (if h : vs.toArray.size = 1 then vs.toArray[0] else .tuple vs.toArray) = v → dv σ m c = some v → ∃ v, (results fn a.tmps).run P w = .ok v w ∧ dv σ m c = some v := by
    intro vs v h2 hv hd
    refine ⟨v, ?_, hd⟩
    unfold results
    rw [Array.mapM_eq_mapM_toList]
    simp only [Sem.run_bind, Sem.run_map]
    obtain ⟨vs', h1, h2'⟩ := ressCV_ok (P := P) I (g := fun x => match x with
      | ResultVar.tmp t => pure (a.tmps.getD t undef)
      | ResultVar.cell b t => do loadVar t (← asAddr (a.tmps.getD b undef))) (fun _ => rfl) (fun _ _ => rfl) hcs
    rw [h2] at h2'; simp at h2'; subst h2'
    have h1' := h1
    refine Eq.trans (congrArg (fun r => Result.andThen (Result.andThen r fun a w' => Result.ok a.toArray w') fun a w' => Sem.run P (pure (if h : a.size = 1 then a[0] else Value.tuple a)) w') h1') ?_
    simp only [Result.andThen_ok, Sem.run_pure, hv]
  obtain ⟨vs, hvs⟩ : ∃ vs, dvs σ m cs = some vs := by
    obtain ⟨vs, _, h⟩ := ressCV_ok (P := P) I (g := fun x => match x with
      | ResultVar.tmp t => pure (a.tmps.getD t undef)
      | ResultVar.cell b t => do loadVar t (← asAddr (a.tmps.getD b undef))) (fun _ => rfl) (fun _ _ => rfl) hcs
    exact ⟨vs, h⟩
  have hl := dvs_length hvs
  split at e
  · rename_i c'
    simp at e; subst e
    obtain ⟨v, us, hv, hu, rfl⟩ := dvs_cons.1 hvs
    simp [dvs] at hu; subst hu
    exact hrun (v := v) hvs (by simp) hv
  · rename_i hne
    simp at e; subst e
    refine hrun (v := .tuple vs.toArray) hvs ?_ (by simp [dv, hvs])
    rw [dif_neg]
    intro h
    rw [List.size_toArray, hl] at h
    obtain ⟨c, rfl⟩ := List.length_eq_one_iff.1 h
    exact hne c rfl

theorem run_zero {H : Hooks} : RnOk P σ 0 (run P B H 0) := by
  refine ⟨?_, ?_, ?_, ?_, ?_, ?_⟩
  · intro c s m a w Q hA _ hg _; exact absurd hA (hg.1 240 s (by simp [run]))
  · intro c s m a w Q hA _ hg _; exact absurd hA (hg.1 240 s (by simp [run]))
  · intro all l s m a w Q hA _ hg _; exact absurd hA (hg.1 240 s (by simp [run]))
  · intro f cs vs s m w hA _ _ hg; exact absurd hA (hg.1 240 s (by simp [run]))
  · intro f cs vs s m w hA _ _ hg; exact absurd hA (hg.1 240 s (by simp [run]))
  · intro fn l ds s m a w R hA _ _ hg; exact absurd hA (hg.1 240 s (by simp [run]))

theorem run_succ [GoFree P] (hB : B.ok σ) {H : Hooks} (hH : HooksOk P σ H) (hM : HooksMono H) {n : Nat} (ihN : ∀ N, RnOk P (σ.wN N) n (run P B H n)) : RnOk P σ (n + 1) (run P B H (n + 1)) := by
    have ih : RnOk P σ n (run P B H n) := ihN σ.N
    have mono : RnMono (run P B H n) := run_mono hM n
    have hloop : ∀ {c : Code} {s : St} {m : M} {a : Act} {w : World} {Q : Exit → Act → World → Prop}, Holds σ s.asm → Inv σ m s a w → Good σ (thenL (run P B H n (.code c) s) fun s => run P B H n (.loop c) s) →
        (∀ e a' w', Ends σ s.h m w (thenL (run P B H n (.code c) s) fun s => run P B H n (.loop c) s) e a' w' → Q e a' w') → Code.rounds P c Q (n + 1) a w := by
      intro c s m a w Q hA I hg hQ
      rw [rounds_succ]
      refine ih.code hA I ?_ ?_
      · exact hg.then fun s => mono _ s
      · rintro e a' w' ⟨x, s', hm, hx, hA', m', I', ev⟩
        cases e with
        | normal =>
          cases x <;> simp [exM] at hx
          refine ih.loop hA' I' ?_ ?_
          · exact hg.sub fun y hy => mem_thenL.2 (.inl ⟨s', hm, hy⟩)
          · intro e a2 w2 he
            exact hQ e a2 w2 (he.lift ev fun y hy => mem_thenL.2 (.inl ⟨s', hm, hy⟩))
        | exit i =>
          cases x <;> simp [exM] at hx
          exact hQ _ _ _ ⟨_, s', mem_thenL.2 (.inr ⟨hm, by simp⟩), by simp [exM, hx], hA', m', I', ev⟩
        | ret =>
          cases x <;> simp [exM] at hx
          exact hQ _ _ _ ⟨_, s', mem_thenL.2 (.inr ⟨hm, by simp⟩), by simp [exM], hA', m', I', ev⟩
        | _ => cases x <;> simp [exM] at hx
    have henter : ∀ {cs : List CV} {vs : Array Value} {tm : Tr CV} {s : St} {m : M} {w : World} (fn : Func), Rep σ m s.h w → dvs σ m cs = some vs.toList → ofArgs cs 0 = some tm →
        Inv σ m { tm, nt := cs.length + (fn.ntmps - cs.length), h := s.h, asm := s.asm } { tmps := vs ++ Array.replicate (fn.ntmps - vs.size) undef, defers := [] } w := by
      intro cs vs tm s m w fn hr hv htm
      have hl := dvs_length hv
      simp only [Array.length_toList] at hl
      refine ⟨hr, ?_, by simp [hl], trivial⟩
      intro t c ht
      obtain ⟨_, v, hv1, hv2⟩ := ofArgs_ok htm hv t c ht
      rw [hv2]
      simp only [Nat.sub_zero] at hv1
      have hlt := (List.getElem?_eq_some_iff.1 hv1).1
      simp only [Array.length_toList] at hlt
      simp only [Option.some.injEq, Array.getD_eq_getD_getElem?]
      rw [Array.getElem?_append_left hlt]
      have : vs[t]? = vs.toList[t]? := by simp
      rw [this, hv1]; rfl
    refine ⟨?_, ?_, ?_, ?_, ?_, ?_⟩
    · intro c s m a w Q hA I hg hQ
      cases c with
      | skip => exact wp_skip (hQ _ _ _ ⟨.norm, s, by simp [run], trivial, hA, m, I, Evo.refl _ _ _⟩)
      | label l => exact wp_label (hQ _ _ _ ⟨.norm, s, by simp [run], trivial, hA, m, I, Evo.refl _ _ _⟩)
      | exit id => exact wp_exit (hQ _ _ _ ⟨.exit id, s, by simp [run], rfl, hA, m, I, Evo.refl _ _ _⟩)
      | ret => exact wp_ret (hQ _ _ _ ⟨.ret, s, by simp [run], trivial, hA, m, I, Evo.refl _ _ _⟩)
      | region id ops draw =>
        cases draw with
        | false =>
          simp only [run] at hg hQ
          exact wp_region_list (ih.ops hA I hg hQ)
        | true =>
          simp only [run] at hg hQ
          exact hH.draw ihN mono hA I hg hQ
      | seq x y =>
        simp only [run] at hg hQ
        refine wp_seq (ih.code hA I ?_ ?_)
        · exact hg.then fun s => mono _ s
        · rintro e a' w' ⟨x', s', hm, hx, hA', m', I', ev⟩
          cases e with
          | normal =>
            cases x' <;> simp [exM] at hx
            refine ih.code hA' I' ?_ ?_
            · exact hg.sub fun y hy => mem_thenL.2 (.inl ⟨s', hm, hy⟩)
            · intro e a2 w2 he
              exact hQ e a2 w2 (he.lift ev fun y hy => mem_thenL.2 (.inl ⟨s', hm, hy⟩))
          | exit i =>
            cases x' <;> simp [exM] at hx
            exact hQ _ _ _ ⟨_, s', mem_thenL.2 (.inr ⟨hm, by simp⟩), by simp [exM, hx], hA', m', I', ev⟩
          | ret =>
            cases x' <;> simp [exM] at hx
            exact hQ _ _ _ ⟨_, s', mem_thenL.2 (.inr ⟨hm, by simp⟩), by simp [exM], hA', m', I', ev⟩
          | _ => cases x' <;> simp [exM] at hx
      | cond c t e =>
        simp only [run, appR_eq] at hg hQ
        split at hg
        · rename_i b hb
          have hv := I.ev hb
          simp only [dv, Option.some.injEq] at hv
          simp only [hb] at hQ
          split at hg
          · rename_i hd
            simp only [hd] at hQ
            refine wp_cond_true (hv.symm.trans ?_) (ih.code hA I hg hQ)
            rw [SB.dec_ok hB hA b hd]
          · rename_i hd
            simp only [hd] at hQ
            refine wp_cond_false (hv.symm.trans ?_) (ih.code hA I hg hQ)
            rw [SB.dec_ok hB hA b hd]
          · rename_i hd
            simp only [hd] at hQ
            refine wp_cond_split hv.symm (fun ht => ?_) (fun ht => ?_)
            · exact ih.code (s := s.assume b) (hA.cons ht) (I.assume b) (hg.sub fun y hy => List.mem_append_left _ hy) fun e a' w' he => hQ e a' w' (he.lift (Evo.refl _ _ _) fun y hy => List.mem_append_left _ hy)
            · exact ih.code (s := s.assume b.neg) (hA.cons (by rw [SB.den_neg, ht]; rfl)) (I.assume b.neg) (hg.sub fun y hy => List.mem_append_right _ hy) fun e a' w' he => hQ e a' w' (he.lift (Evo.refl _ _ _) fun y hy => List.mem_append_right _ hy)
        · exact absurd hA (hg.1 241 s (by simp))
      | block id c =>
        simp only [run, mapR_eq] at hg hQ
        refine wp_block (ih.code hA I ?_ ?_)
        · refine hg.map (fun l => ?_) fun k s => ⟨k, rfl⟩
          obtain ⟨x, s'⟩ := l
          cases x <;> simp only <;> split <;> rfl
        · rintro e a' w' ⟨x', s', hm, hx, hA', m', I', ev⟩
          cases e with
          | normal =>
            cases x' <;> simp [exM] at hx
            exact hQ _ _ _ ⟨_, s', List.mem_map.2 ⟨_, hm, rfl⟩, by simp [exM], hA', m', I', ev⟩
          | exit i =>
            cases x' <;> simp [exM] at hx
            rename_i i'
            subst hx
            simp only [Exit.inBlock]
            split
            · rename_i hid
              exact hQ _ _ _ ⟨.norm, s', List.mem_map.2 ⟨_, hm, by simp [hid]⟩, by simp [exM], hA', m', I', ev⟩
            · rename_i hid
              exact hQ _ _ _ ⟨.exit i', s', List.mem_map.2 ⟨_, hm, by simp [hid]⟩, by simp [exM], hA', m', I', ev⟩
          | ret =>
            cases x' <;> simp [exM] at hx
            exact hQ _ _ _ ⟨_, s', List.mem_map.2 ⟨_, hm, rfl⟩, by simp [exM], hA', m', I', ev⟩
          | _ => cases x' <;> simp [exM] at hx
      | loop c =>
        simp only [run] at hg hQ
        exact wp_loop_rounds n (ih.loop hA I hg hQ)
      | scope c =>
        simp only [run] at hg hQ
        refine wp_scope_straight (ih.code hA I hg ?_)
        rintro e a' w' ⟨x', s', hm, hx, hA', m', I', ev⟩
        have := hQ e a' w' ⟨x', s', hm, hx, hA', m', I', ev⟩
        cases e with
        | goto l => cases x' <;> simp [exM] at hx
        | _ => exact this
      | _ => exact absurd hA (hg.1 242 s (by simp [run]))
    · intro c s m a w Q hA I hg hQ
      exact hloop hA I hg hQ
    · intro all l s m a w Q hA I hg hQ
      cases l with
      | nil => exact wpList_nil (hQ _ _ _ ⟨.norm, s, by simp [run], trivial, hA, m, I, Evo.refl _ _ _⟩)
      | cons o rest =>
        have hsplit : ∀ b, Good σ (run P B H n (.ops all (o :: rest)) (s.assume b) ++ run P B H n (.ops all (o :: rest)) (s.assume b.neg)) →
            (∀ e a' w', Ends σ s.h m w (run P B H n (.ops all (o :: rest)) (s.assume b) ++ run P B H n (.ops all (o :: rest)) (s.assume b.neg)) e a' w' → Q e a' w') → wpList P all Q (o :: rest) a w := by
          intro b hg hQ
          rcases parted hA b with h | h
          · exact ih.ops (s := s.assume b) h (I.assume b) (hg.sub fun y hy => List.mem_append_left _ hy) fun e a' w' he => hQ e a' w' (he.lift (Evo.refl _ _ _) fun y hy => List.mem_append_left _ hy)
          · exact ih.ops (s := s.assume b.neg) h (I.assume b.neg) (hg.sub fun y hy => List.mem_append_right _ hy) fun e a' w' he => hQ e a' w' (he.lift (Evo.refl _ _ _) fun y hy => List.mem_append_right _ hy)
        simp only [run, flatR_eq, appR_eq] at hg hQ
        split at hg
        · exact absurd hA (hg.1 _ s (List.mem_singleton.2 rfl))
        · rename_i b hw
          simp only [hw] at hQ
          exact hsplit b hg hQ
        · rename_i hw
          simp only [hw] at hQ
          refine wpList_want (wanted_ok hB hA I hw) (by simp) (fun _ => ?_)
          obtain ⟨s', hs'⟩ := putL_good hA hg
          rw [mem_putL hs'] at hg hQ
          have hsm := put_same hs'
          refine ih.ops (by rw [hsm.2]; exact hA) (I.put (M.le_refl m) I.rep hs' undef_ok) hg ?_
          rw [hsm.1]; exact hQ
        · rename_i hw
          simp only [hw] at hQ
          split at hg
          · exact absurd hA (hg.1 _ s (List.mem_singleton.2 rfl))
          · rename_i b hst
            simp only [hst] at hQ
            exact hsplit b hg hQ
          · rename_i c h hst
            refine wpList_want (wanted_ok hB hA I hw) (fun _ => ?_) (by simp)
            intro K hK
            simp only [hst] at hQ
            obtain ⟨s', hs'⟩ := putL_good (s := { s with h }) hA hg
            rw [mem_putL hs'] at hg hQ
            have hsm := put_same hs'
            have hN : h.n ≤ σ.N := by
              obtain ⟨hne, hm⟩ := mono (.ops all rest) s'
              obtain ⟨y, hy⟩ := List.exists_mem_of_ne_nil _ hne
              have := hm y hy
              rw [hsm.1] at this
              exact Nat.le_trans this (hg.2 y hy)
            obtain ⟨nx, w', m', h1, h2, h3, h4⟩ := stepOp_ok (P := P) hB hA I o hst hN
            cases nx <;> simp only [nxOk] at h2
            rename_i v
            unfold Oper.wp
            rw [h1, Oper.upon_value]
            refine hK _ _ (ih.ops (by rw [hsm.2]; exact hA) (I.put h4.le h3 hs' h2) hg ?_)
            intro e a2 w2 he
            exact hQ e a2 w2 (he.lift (by rw [hsm.1]; exact h4) fun y hy => hy)
          · rename_i h hst
            refine wpList_want (wanted_ok hB hA I hw) (fun _ => ?_) (by simp)
            intro K hK
            simp only [hst] at hQ
            obtain ⟨s', hs'⟩ := putL_good (s := { s with h }) hA hg
            rw [mem_putL hs'] at hg hQ
            have hsm := put_same hs'
            have hN : h.n ≤ σ.N := by
              obtain ⟨hne, hm⟩ := mono (.ops all rest) s'
              obtain ⟨y, hy⟩ := List.exists_mem_of_ne_nil _ hne
              have := hm y hy
              rw [hsm.1] at this
              exact Nat.le_trans this (hg.2 y hy)
            obtain ⟨nx, w', m', h1, h2, h3, h4⟩ := stepOp_ok (P := P) hB hA I o hst hN
            cases nx <;> simp only [nxOk] at h2
            unfold Oper.wp
            rw [h1, Oper.upon_skip]
            refine hK _ _ (ih.ops (by rw [hsm.2]; exact hA) (I.put h4.le h3 hs' undef_ok) hg ?_)
            intro e a2 w2 he
            exact hQ e a2 w2 (he.lift (by rw [hsm.1]; exact h4) fun y hy => hy)
          · rename_i f args h hst
            refine wpList_want (wanted_ok hB hA I hw) (fun _ => ?_) (by simp)
            intro K hK
            simp only [hst] at hQ
            obtain ⟨s', hs'⟩ := putL_good (s := { s with h, df := (f, args) :: s.df }) hA hg
            rw [mem_putL hs'] at hg hQ
            have hsm := put_same hs'
            have hN : h.n ≤ σ.N := by
              obtain ⟨hne, hm⟩ := mono (.ops all rest) s'
              obtain ⟨y, hy⟩ := List.exists_mem_of_ne_nil _ hne
              have := hm y hy
              rw [hsm.1] at this
              exact Nat.le_trans this (hg.2 y hy)
            obtain ⟨nx, w', m', h1, h2, h3, h4⟩ := stepOp_ok (P := P) hB hA I o hst hN
            cases nx <;> simp only [nxOk] at h2
            rename_i d
            unfold Oper.wp
            rw [h1, Oper.upon_defer]
            have I2 : Inv σ m' { s with df := (f, args) :: s.df, h := h } { a with defers := d :: a.defers } w' := ⟨h3, fun t c hc => dv_mono σ h4.le _ (I.tm t c hc), I.nt, h2, I.df.mono h4.le⟩
            refine hK _ _ (ih.ops (by rw [hsm.2]; exact hA) (I2.put (M.le_refl _) h3 hs' undef_ok) hg ?_)
            intro e a2 w2 he
            exact hQ e a2 w2 (he.lift (by rw [hsm.1]; exact h4) fun y hy => hy)
          · rename_i f args h hst
            refine wpList_want (wanted_ok hB hA I hw) (fun _ => ?_) (by simp)
            intro K hK
            simp only [hst] at hQ
            have hgc : Good σ (run P B H n (.call f args) { s with h }) := by
              refine ⟨fun k s' hm => hg.1 k s' (List.mem_flatMap.2 ⟨_, hm, by simp⟩), fun l hl => ?_⟩
              obtain ⟨x, s'⟩ := l
              cases x with
              | val c =>
                have hs : ∀ y ∈ putL { s with h := s'.h, asm := s'.asm } o.dst c (fun s => run P B H n (.ops all rest) s), y.2.h.n ≤ σ.N := fun y hy => hg.2 y (List.mem_flatMap.2 ⟨_, hl, hy⟩)
                have hp := putL_mono (s := { s with h := s'.h, asm := s'.asm }) (d := o.dst) (c := c) (f := fun s => run P B H n (.ops all rest) s) (Nat.le_refl s'.h.n) fun s2 hs2 => ⟨(mono _ s2).1, fun l hl => by have := (mono _ s2).2 l hl; rw [hs2] at this; exact this⟩
                obtain ⟨y, hy⟩ := List.exists_mem_of_ne_nil _ hp.1
                exact Nat.le_trans (hp.2 y hy) (hs y hy)
              | bad k => exact hg.2 (.bad k, s') (List.mem_flatMap.2 ⟨_, hl, by simp⟩)
              | _ => exact hg.2 (.bad 243, s') (List.mem_flatMap.2 ⟨_, hl, by simp⟩)
            have hN : h.n ≤ σ.N := by
              obtain ⟨hne, hm⟩ := mono (.call f args) { s with h }
              obtain ⟨y, hy⟩ := List.exists_mem_of_ne_nil _ hne
              exact Nat.le_trans (hm y hy) (hgc.2 y hy)
            obtain ⟨nx, w', m', h1, h2, h3, h4⟩ := stepOp_ok (P := P) hB hA I o hst hN
            cases nx <;> simp only [nxOk] at h2
            rename_i f' vs
            obtain ⟨rfl, hvs, fn, cc, hf, hb⟩ := h2
            unfold Oper.wp
            rw [h1, Oper.upon_enter]
            have hcall := ih.call (s := { s with h }) (w := w') hA h3 hvs hgc
            refine Calls.mono hcall ?_
            rintro e w'' ⟨c, s', v, m'', hm, rfl, hA', hdv, hr, ev⟩
            have hmem : ∀ y ∈ putL { s with h := s'.h, asm := s'.asm } o.dst c (fun s => run P B H n (.ops all rest) s), y ∈ ((run P B H n (.call f args) { s with h }).flatMap fun x => match x with
                | (.val c, s') => putL { s with h := s'.h, asm := s'.asm } o.dst c fun s => run P B H n (.ops all rest) s
                | (.bad k, s') => [(.bad k, s')]
                | (_, s') => [(.bad 243, s')]) := fun y hy => List.mem_flatMap.2 ⟨_, hm, hy⟩
            have hg' := hg.sub hmem
            obtain ⟨s2, hs2⟩ := putL_good (s := { s with h := s'.h, asm := s'.asm }) hA' hg'
            rw [mem_putL hs2] at hg' hmem
            have hsm := put_same hs2
            have I' := I.heap (M.le_trans h4.le ev.le) hr s'.asm
            refine hK _ _ (ih.ops (by rw [hsm.2]; exact hA') (I'.put (M.le_refl _) hr hs2 hdv) hg' ?_)
            intro e a2 w2 he
            exact hQ e a2 w2 (he.lift (by rw [hsm.1]; exact h4.trans ev) hmem)
    · intro f cs vs s m w hA hr hv hg
      cases hL : H.call f cs s with
      | some L =>
        simp only [run, hL] at hg ⊢
        exact hH.call hL hA hr hv hg
      | none =>
        cases hf : P.funcs[f]? with
        | none =>
          simp only [run, hL, fnQ_eq, hf] at hg
          exact absurd hA (hg.1 248 s (by simp))
        | some fn =>
          cases hb : fn.body with
          | none =>
            simp only [run, hL, fnQ_eq, hf, hb] at hg
            exact absurd hA (hg.1 247 s (by simp))
          | some c =>
           cases htm : ofArgs cs 0 with
           | none =>
            simp only [run, hL, fnQ_eq, hf, hb, htm] at hg
            exact absurd hA (hg.1 247 s (by simp))
           | some tm =>
            simp only [run, flatR_eq, lenR_eq, hL, fnQ_eq, hf, hb, htm] at hg ⊢
            have I := henter fn hr hv htm
            have hmono : ∀ y : Leaf, ∀ g : Leaf → List Leaf, (g = fun x => match x with
                | (.norm, s') => run P B H n (.door s'.df fn.results.toList) s'
                | (.ret, s') => run P B H n (.door s'.df fn.results.toList) s'
                | (.bad k, s') => [(.bad k, s')]
                | (_, s') => [(.bad 246, s')]) → g y ≠ [] ∧ ∀ l ∈ g y, y.2.h.n ≤ l.2.h.n := by
              intro y g hg
              subst hg
              obtain ⟨x, s'⟩ := y
              cases x with
              | norm => exact mono _ s'
              | ret => exact mono _ s'
              | _ => simp
            refine calls_of_wp_defers hf hb (ih.code (s := { tm, nt := cs.length + (fn.ntmps - cs.length), h := s.h, asm := s.asm }) hA I ?_ ?_)
            · exact hg.flatMap (fun y _ => hmono y _ rfl) fun k s => by simp
            · rintro e a' w' ⟨x, s', hm, hx, hA', m', I', ev⟩
              cases e with
              | normal =>
                cases x <;> simp [exM] at hx
                exact ih.door hA' I' I'.df (hg.sub fun y hy => List.mem_flatMap.2 ⟨_, hm, hy⟩) fun e w2 he => he.lift ev fun y hy => List.mem_flatMap.2 ⟨_, hm, hy⟩
              | ret =>
                cases x <;> simp [exM] at hx
                exact ih.door hA' I' I'.df (hg.sub fun y hy => List.mem_flatMap.2 ⟨_, hm, hy⟩) fun e w2 he => he.lift ev fun y hy => List.mem_flatMap.2 ⟨_, hm, hy⟩
              | exit i =>
                cases x <;> simp [exM] at hx
                exact absurd hA' (hg.1 246 s' (List.mem_flatMap.2 ⟨_, hm, by simp⟩))
              | _ => cases x <;> simp [exM] at hx
    · intro f cs vs s m w hA hr hv hg
      cases hf : P.funcs[f]? with
      | none =>
        simp only [run, fnQ_eq, hf] at hg
        exact absurd hA (hg.1 257 s (by simp))
      | some fn =>
        cases hb : fn.body with
        | none =>
          simp only [run, fnQ_eq, hf, hb] at hg
          exact absurd hA (hg.1 256 s (by simp))
        | some c =>
          cases htm : ofArgs cs 0 with
          | none =>
            simp only [run, fnQ_eq, hf, hb, htm] at hg
            exact absurd hA (hg.1 256 s (by simp))
          | some tm =>
            have hn := GoFree.ok f fn hf
            simp only [run, mapR_eq, lenR_eq, fnQ_eq, hf, hb, htm] at hg ⊢
            refine ⟨by simp only [callFunc, Sem.run_bind, run_program, Result.andThen_ok, hf, hb]; simp [hn], ?_⟩
            have I := henter fn hr hv htm
            refine callsD_of_wp hf hb (ih.code (s := { tm, nt := cs.length + (fn.ntmps - cs.length), h := s.h, asm := s.asm }) hA I ?_ ?_)
            · refine hg.map (fun l => ?_) fun k s => ⟨k, rfl⟩
              obtain ⟨x, s'⟩ := l
              cases x <;> simp only <;> split <;> rfl
            · rintro e a' w' ⟨x, s', hm, hx, hA', m', I', ev⟩
              cases e with
              | normal =>
                cases x <;> simp [exM] at hx
                cases hdf : s'.df with
                | cons d l => exact absurd hA' (hg.1 253 s' (List.mem_map.2 ⟨_, hm, by simp [hdf]⟩))
                | nil =>
                  have hdd := I'.df
                  rw [hdf] at hdd
                  have hnil : a'.defers = [] := by
                    cases hq : a'.defers with
                    | nil => rfl
                    | cons d ds => rw [hq] at hdd; exact hdd.elim
                  cases hres : resultsCV P s' fn.results.toList with
                  | ok c' =>
                    obtain ⟨v, h1, h2⟩ := resultsCV_ok (P := P) I' hres
                    exact ⟨hnil, v, h1, c', s', v, m', List.mem_map.2 ⟨_, hm, by simp [hres, hdf]⟩, rfl, hA', h2, I'.rep, ev⟩
                  | split b => exact absurd hA' (hg.1 253 s' (List.mem_map.2 ⟨_, hm, by simp [hres, hdf]⟩))
                  | bad k => exact absurd hA' (hg.1 253 s' (List.mem_map.2 ⟨_, hm, by simp [hres, hdf]⟩))
              | ret =>
                cases x <;> simp [exM] at hx
                cases hdf : s'.df with
                | cons d l => exact absurd hA' (hg.1 254 s' (List.mem_map.2 ⟨_, hm, by simp [hdf]⟩))
                | nil =>
                  have hdd := I'.df
                  rw [hdf] at hdd
                  have hnil : a'.defers = [] := by
                    cases hq : a'.defers with
                    | nil => rfl
                    | cons d ds => rw [hq] at hdd; exact hdd.elim
                  cases hres : resultsCV P s' fn.results.toList with
                  | ok c' =>
                    obtain ⟨v, h1, h2⟩ := resultsCV_ok (P := P) I' hres
                    exact ⟨hnil, v, h1, c', s', v, m', List.mem_map.2 ⟨_, hm, by simp [hres, hdf]⟩, rfl, hA', h2, I'.rep, ev⟩
                  | split b => exact absurd hA' (hg.1 254 s' (List.mem_map.2 ⟨_, hm, by simp [hres, hdf]⟩))
                  | bad k => exact absurd hA' (hg.1 254 s' (List.mem_map.2 ⟨_, hm, by simp [hres, hdf]⟩))
              | exit i =>
                cases x <;> simp [exM] at hx
                exact absurd hA' (hg.1 255 s' (List.mem_map.2 ⟨_, hm, by simp⟩))
              | _ => cases x <;> simp [exM] at hx
    · intro fn l ds s m a w R hA I hd hg hR
      cases l with
      | nil =>
        have hnil : ds = [] := by
          cases ds with
          | nil => rfl
          | cons d ds => exact hd.elim
        subst hnil
        simp only [run] at hg hR
        cases hres : resultsCV P s fn.results.toList with
        | ok c' =>
          obtain ⟨v, h1, h2⟩ := resultsCV_ok (P := P) I hres
          simp only [hres] at hR
          exact ⟨v, h1, hR _ _ ⟨c', s, v, m, by simp, rfl, hA, h2, I.rep, Evo.refl _ _ _⟩⟩
        | split b => exact absurd hA (hg.1 244 s (by simp [hres]))
        | bad k => exact absurd hA (hg.1 244 s (by simp [hres]))
      | cons x l =>
        obtain ⟨f, cs⟩ := x
        cases ds with
        | nil => exact hd.elim
        | cons d ds =>
          obtain ⟨⟨cap, args, rfl, hv⟩, hd⟩ := hd
          simp only [run, flatR_eq] at hg hR
          have hgc : Good σ (run P B H n (.dcall f cs) s) := by
            refine hg.flatMap (fun y _ => ?_) fun k s => by simp
            obtain ⟨x, s'⟩ := y
            cases x with
            | val c => exact mono _ { s with h := s'.h, asm := s'.asm }
            | _ => simp
          obtain ⟨hen, hcd⟩ := ih.dcall (vs := args ++ cap) hA I.rep hv hgc
          refine leaves_cons (by simp) (f := f) (args := args ++ cap) (by simpa [invoke] using hen) (hcd.mono ?_)
          rintro e u' w' ⟨rfl, c, s', v, m', hm, rfl, hA', hdv, hr, ev⟩
          have hmem : ∀ y ∈ run P B H n (.door l fn.results.toList) { s with h := s'.h, asm := s'.asm }, y ∈ ((run P B H n (.dcall f cs) s).flatMap fun x => match x with
              | (.val _, s') => run P B H n (.door l fn.results.toList) { s with h := s'.h, asm := s'.asm }
              | (.bad k, s') => [(.bad k, s')]
              | (_, s') => [(.bad 258, s')]) := fun y hy => List.mem_flatMap.2 ⟨_, hm, hy⟩
          exact ih.door (s := { s with h := s'.h, asm := s'.asm }) hA' (I.heap ev.le hr s'.asm) (hd.mono ev.le) (hg.sub hmem) fun e w2 he => hR e w2 (he.lift ev hmem)

theorem run_ok [GoFree P] (hB : B.ok σ) {H : Hooks} (hH : ∀ N, HooksOk P (σ.wN N) H) (hM : HooksMono H) : ∀ n N, RnOk P (σ.wN N) n (run P B H n) := by
  intro n
  induction n with
  | zero => intro N; exact run_zero
  | succ n ih => intro N; exact run_succ (Bnds.ok_wN hB N) (hH N) hM ih
end
end
end Go.Sx
