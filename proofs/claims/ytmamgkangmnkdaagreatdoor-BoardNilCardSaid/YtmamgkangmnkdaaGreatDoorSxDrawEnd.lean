/- SX, part 18: regions whose order is open are right: the hook. -/
import Derived.Test.YtmamgkangmnkdaaGreatDoorSxDrawFin
namespace Go.Sx
open Go
noncomputable section
section
variable {P : Program} {B : Bnds} {σ : Vl} {rn : Cmd → St → List Leaf} {all : Array Oper} {s s' : St} {es : List Ent} {S : Nat → St} {R : Nat → One}

theorem countP_drop {p q : Nat → Bool} : ∀ (l : List Nat) (j : Nat), j ∈ l → p j = true → q j = false → (∀ x, q x = true → p x = true) → l.countP q + 1 ≤ l.countP p
  | [], j, h, _, _, _ => by simp at h
  | x :: l, j, h, hp, hq, hi => by
    have hle : ∀ l : List Nat, l.countP q ≤ l.countP p := fun l => List.countP_mono_left fun x _ hx => hi x hx
    simp only [List.countP_cons]
    rcases List.mem_cons.1 h with rfl | h
    · have := hle l
      simp [hp, hq]; omega
    · have ih := countP_drop l j h hp hq hi
      by_cases hx : q x = true
      · simp [hx, hi x hx]; omega
      · simp only [Bool.not_eq_true] at hx
        simp [hx]; omega

theorem edge_lt {tab : List (List Nat)} (hT : ancOk all.toList tab = true) {j : Nat} {o : Oper} (ho : all.toList[j]? = some o) : ∀ e ∈ edgesOf o, e < j := by
  intro e he
  have hlt : j < all.toList.length := (List.getElem?_eq_some_iff.1 ho).1
  unfold ancOk at hT
  have := List.all_eq_true.1 hT j (List.mem_range.2 hlt)
  simp only [ho, Bool.and_eq_true] at this
  simpa using List.all_eq_true.1 this.1 e he

theorem mem_edges {o : Oper} {e : Nat} : e ∈ edgesOf o ↔ ∃ x ∈ o.after, Region.binds .any x = true ∧ x.on = e := by
  simp [edgesOf, and_assoc]

theorem any_ok [GoFree P] (hB : B.ok σ) {k0 : Nat} (hR : ∀ N, RnOk P (σ.wN N) k0 rn) (hM : RnMono rn) (W : Way rn P B all all.toList s s' es S R) {tab : List (List Nat)} (hT : ancOk all.toList tab = true) (hP : pairsOk tab es = true)
    (hA : Holds σ s.asm) {m0 : M} {w0 : World} {Q : Exit → Act → World → Prop} (hQ : ∀ D m a w, (∀ k, k < all.toList.length → D k = true) → Done σ all es s s' S R m0 w0 D m a w → Q .normal a w) :
    ∀ (fuel : Nat) (listed : Array Bool) (m : M) (a : Act) (w : World), listed.size = all.size → (∀ j o, all.toList[j]? = some o → listed.getD j false = true → ∀ e ∈ edgesOf o, listed.getD e false = true) →
      (List.range all.size).countP (fun i => !(listed.getD i false)) ≤ fuel → Done σ all es s s' S R m0 w0 (fun i => listed.getD i false) m a w → wpAny P .any all Q fuel listed a w := by
  have hall : ∀ (listed : Array Bool), listed.size = all.size → Region.ready .any all listed = [] → ∀ k, k < all.toList.length → listed.getD k false = true := by
    intro listed hsz hr k
    induction k using Nat.strongRecOn with
    | _ k ih =>
      intro hk
      apply Classical.byContradiction
      intro hn
      simp only [Bool.not_eq_true] at hn
      have hk' : k < all.size := by simpa using hk
      have hok : all.toList[k]? = some all[k] := by simp [hk']
      have : k ∈ Region.ready .any all listed := by
        unfold Region.ready
        rw [List.mem_filter]
        refine ⟨List.mem_range.2 hk', ?_⟩
        have h1 : listed.getD k true = false := by
          have hks : k < listed.size := by omega
          simp only [Array.getD, hks, dif_pos] at hn ⊢
          exact hn
        have h2 : all[k]? = some all[k] := Array.getElem?_eq_getElem hk'
        simp only [h1, h2, Option.map_some, Option.getD_some, Bool.not_false, Bool.true_and]
        rw [Array.all_eq_true']
        intro x hx
        cases hb : Region.binds .any x with
        | false => rfl
        | true =>
          have hxe : x.on ∈ edgesOf all[k] := mem_edges.2 ⟨x, hx, hb, rfl⟩
          have hlt := edge_lt hT hok x.on hxe
          simp [ih x.on hlt (by omega)]
      rw [hr] at this
      simp at this
  intro fuel
  induction fuel with
  | zero =>
    intro listed m a w hsz hdc hc I
    have hz : ∀ k, k < all.toList.length → listed.getD k false = true := by
      intro k hk
      have h0 : (List.range all.size).countP (fun i => !(listed.getD i false)) = 0 := by omega
      rw [List.countP_eq_zero] at h0
      have := h0 k (List.mem_range.2 (by simpa using hk))
      simpa using this
    refine ⟨?_, hQ _ m a w hz I⟩
    unfold Region.ready
    rw [List.filter_eq_nil_iff]
    intro i hi
    have hi' := List.mem_range.1 hi
    have h1 := hz i (by simpa using hi')
    have his : i < listed.size := by omega
    have h2 : listed.getD i true = true := by
      simp only [Array.getD, his, dif_pos] at h1 ⊢
      exact h1
    simp [h2]
  | succ fuel ih =>
    intro listed m a w hsz hdc hc I
    refine ⟨fun hr => hQ _ m a w (hall listed hsz hr) I, ?_⟩
    intro i hi
    unfold Region.ready at hi
    rw [List.mem_filter] at hi
    obtain ⟨hi1, hi2⟩ := hi
    have hin := List.mem_range.1 hi1
    simp only [Bool.and_eq_true, Bool.not_eq_true'] at hi2
    obtain ⟨hi3, hi4⟩ := hi2
    have his : i < listed.size := by omega
    have hni : listed.getD i false = false := by
      simp only [Array.getD, his, dif_pos] at hi3 ⊢
      exact hi3
    have hoi : all[i]? = some all[i] := Array.getElem?_eq_getElem hin
    have ho : all.toList[i]? = some all[i] := by simp [hin]
    simp only [hoi, Option.map_some, Option.getD_some] at hi4
    have hready : ∀ e ∈ edgesOf all[i], listed.getD e false = true := by
      intro e he
      obtain ⟨x, hx, hb, rfl⟩ := mem_edges.1 he
      rw [Array.all_eq_true'] at hi4
      have := hi4 x hx
      simpa [hb] using this
    have hadd : (fun k => (listed.setIfInBounds i true).getD k false) = add (fun k => listed.getD k false) i := by
      funext k
      simp only [add, Array.getD_eq_getD_getElem?]
      by_cases hk : k = i
      · subst hk; simp [his]
      · rw [Array.getElem?_setIfInBounds_ne (fun h => hk h.symm)]
        simp [hk]
    unfold wpOp
    rw [hoi]
    refine done_step hB hR hM W hT hP hA I hdc ho hni hready ?_
    intro m' a' w' I'
    refine ih (listed.setIfInBounds i true) m' a' w' (by simp [hsz]) ?_ ?_ (by rw [hadd]; exact I')
    · intro j o' hj hD e he
      have h1 : ∀ k, (listed.setIfInBounds i true).getD k false = add (fun k => listed.getD k false) i k := fun k => congrFun hadd k
      rw [h1] at hD ⊢
      simp only [add, Bool.or_eq_true, beq_iff_eq] at hD ⊢
      rcases hD with h | h
      · exact .inl (hdc j o' hj h e he)
      · subst h
        rw [ho] at hj; simp at hj; subst hj
        exact .inl (hready e he)
    · have h1 : ∀ k, (listed.setIfInBounds i true).getD k false = add (fun k => listed.getD k false) i k := fun k => congrFun hadd k
      have := countP_drop (p := fun k => !(listed.getD k false)) (q := fun k => !((listed.setIfInBounds i true).getD k false)) (List.range all.size) i hi1 (by simp [hni]) (by simp [h1, add]) (by
        intro x hx
        simp only [h1, add, Bool.not_or, Bool.and_eq_true] at hx
        exact hx.1)
      omega

theorem drawTry_ok [GoFree P] (hm : P.follows .mixedOrders = true) (hB : B.ok σ) {k0 : Nat} (hR : ∀ N, RnOk P (σ.wN N) k0 rn) (hM : RnMono rn) {id : Nat} : ∀ (f : Nat) {s : St} {m : M} {a : Act} {w : World} {Q : Exit → Act → World → Prop}, Holds σ s.asm → Inv σ m s a w →
    Good σ (drawTry rn P B all f s) → (∀ e a' w', Ends σ s.h m w (drawTry rn P B all f s) e a' w' → Q e a' w') → (Code.region id all true).wp P Q a w
  | 0, s, m, a, w, Q, hA, _, hg, _ => absurd hA (hg.1 306 s (by simp [drawTry]))
  | f + 1, s, m, a, w, Q, hA, I, hg, hQ => by
    simp only [drawTry] at hg hQ
    cases hd : drawAll rn P B all all.toList s with
    | bad k => simp only [hd] at hg; exact absurd hA (hg.1 k s (by simp))
    | split b =>
      simp only [hd] at hg hQ
      rcases parted hA b with h | h
      · exact drawTry_ok hm hB hR hM f (s := s.assume b) h (I.assume b) (hg.sub fun y hy => List.mem_append_left _ hy) fun e a' w' he => hQ e a' w' (he.lift (Evo.refl _ _ _) fun y hy => List.mem_append_left _ hy)
      · exact drawTry_ok hm hB hR hM f (s := s.assume b.neg) h (I.assume b.neg) (hg.sub fun y hy => List.mem_append_right _ hy) fun e a' w' he => hQ e a' w' (he.lift (Evo.refl _ _ _) fun y hy => List.mem_append_right _ hy)
    | ok x =>
      obtain ⟨s', es⟩ := x
      simp only [hd] at hg hQ
      by_cases hc : (ancOk all.toList (ancTab all.toList []) && pairsOk (ancTab all.toList []) es) = true
      · rw [if_pos hc] at hg hQ
        simp only [Bool.and_eq_true] at hc
        obtain ⟨S, R, W⟩ := drawAll_way hd
        have hN : s'.h.n ≤ σ.N := hg.2 (.norm, s') (by simp)
        have hss : s.h.n ≤ s'.h.n := by
          have := (W.plain hM all.toList.length (Nat.le_refl _)).2.2 0 (by omega)
          rw [W.first, W.last] at this; exact this
        refine wp_region_any hm (any_ok hB hR hM W hc.1 hc.2 hA (m0 := m) (w0 := w) ?_ all.size (Array.replicate all.size false) m a { w with drawn := w.drawn + 1 } (by simp) ?_ ?_ ?_)
        · intro D m' a' w' hD I'
          have getH : ∀ id, cur ((S 0).h.obj id) (wrH es id) (fun k => (R k).h.obj id) D all.toList.length = s'.h.obj id := fun id => by
            rw [cur_all hD, ← W.getH id all.toList.length (Nat.le_refl _), W.last]
          have getT : ∀ t, cur ((S 0).tm.get t) (wrT all t) (fun k => some (R k).c) D all.toList.length = s'.tm.get t := fun t => by
            rw [cur_all hD, ← W.getT t all.toList.length (Nat.le_refl _), W.last]
          have pl := W.plain hM all.toList.length (Nat.le_refl _)
          rw [W.last] at pl
          refine hQ .normal a' w' ⟨.norm, s', by simp, trivial, by rw [pl.1]; exact hA, m', ⟨⟨fun id h1 h2 => I'.top2 id h1 h2, ?_, ?_⟩, ?_, ?_, by rw [← W.last, W.df _ (Nat.le_refl _)]; exact I'.df⟩, ?_⟩
          · intro id ob hob; exact I'.obj id ob (by rw [getH]; exact hob)
          · intro id id' ob ob' b n n' hob hob'; exact I'.inj id id' ob ob' b n n' (by rw [getH]; exact hob) (by rw [getH]; exact hob')
          · intro t c hc; exact I'.tm t c (by rw [getT]; exact hc)
          · rw [pl.2.1]; exact I'.nt
          · exact ⟨I'.size, hss, I'.le, I'.keep, I'.same, fun id ob b n hob hm => I'.own id ob b n (by rw [getH]; exact hob) hm, I'.sys⟩
        · intro j o hj hl
          simp [Array.getD_eq_getD_getElem?, Array.getElem?_replicate] at hl
          split at hl <;> simp at hl
        · have : (List.range all.size).countP (fun i => !((Array.replicate all.size false).getD i false)) ≤ (List.range all.size).length := List.countP_le_length
          simpa using this
        · have hf : (fun i => (Array.replicate all.size false).getD i false) = (fun _ => false) := by
            funext i
            simp only [Array.getD_eq_getD_getElem?, Array.getElem?_replicate]
            split <;> rfl
          rw [hf]
          have c0 : ∀ {α : Type} (v0 : α) (wr : Nat → Bool) (val : Nat → α) (n : Nat), cur v0 wr val (fun _ => false) n = v0 := by
            intro α v0 wr val n
            induction n with
            | zero => rfl
            | succ n ih => simp [cur, ih]
          refine ⟨?_, I.nt, I.df, ?_, ?_, ?_, ?_, Nat.le_refl _, M.le_refl m, fun _ _ => rfl, fun _ _ _ => rfl, ?_, ⟨rfl, rfl, rfl⟩⟩
          · intro t c hc; rw [c0, W.first] at hc; exact I.tm t c hc
          · intro i h1 h2 h3; exact absurd (I.rep.top i h1 (by omega)) h3
          · intro i h1 h2; exact I.rep.top i (by omega) h2
          · intro i ob hob; rw [c0, W.first] at hob; exact I.rep.obj i ob hob
          · intro i i' ob ob' b n n' hob hob'; rw [c0, W.first] at hob hob'; exact I.rep.inj i i' ob ob' b n n' hob hob'
          · intro i ob b n hob hm; rw [c0, W.first] at hob; exact .inr ⟨i, ob, n, hob, hm⟩
      · rw [if_neg hc] at hg
        exact absurd hA (hg.1 307 s (by simp))

theorem drawTry_mono (hM : RnMono rn) : ∀ (f : Nat) (s : St), drawTry rn P B all f s ≠ [] ∧ ∀ l ∈ drawTry rn P B all f s, s.h.n ≤ l.2.h.n
  | 0, s => by simp [drawTry]
  | f + 1, s => by
    simp only [drawTry]
    cases hd : drawAll rn P B all all.toList s with
    | bad k => simp
    | split b =>
      simp only
      have h1 := drawTry_mono hM f (s.assume b)
      have h2 := drawTry_mono hM f (s.assume b.neg)
      refine ⟨fun h => h1.1 (List.append_eq_nil_iff.1 h).1, fun l hl => ?_⟩
      rcases List.mem_append.1 hl with h | h
      · exact h1.2 l h
      · exact h2.2 l h
    | ok x =>
      obtain ⟨s', es⟩ := x
      simp only
      obtain ⟨S, R, W⟩ := drawAll_way hd
      have hss : s.h.n ≤ s'.h.n := by
        have := (W.plain hM all.toList.length (Nat.le_refl _)).2.2 0 (by omega)
        rw [W.first, W.last] at this; exact this
      split <;> simp [hss]
end

/-- The hooks: regions whose order is open; and calls that are known otherwise. -/
def hooks (P : Program) (B : Bnds) (call : FuncId → List CV → St → Option (List Leaf)) : Hooks := { draw := drawHook P B, call }

structure CallHook (P : Program) (σ : Vl) (call : FuncId → List CV → St → Option (List Leaf)) : Prop where
  ok : ∀ {f : FuncId} {cs : List CV} {vs : Array Value} {s : St} {m : M} {w : World} {L : List Leaf}, call f cs s = some L → Holds σ s.asm → Rep σ m s.h w → dvs σ m cs = some vs.toList → Good σ L →
    Calls P f vs w (CallEnds σ s.h m w L)
  mono : ∀ {f : FuncId} {cs : List CV} {s : St} {L : List Leaf}, call f cs s = some L → L ≠ [] ∧ ∀ l ∈ L, s.h.n ≤ l.2.h.n

theorem noCalls (P : Program) (σ : Vl) : CallHook P σ (fun _ _ _ => none) := ⟨fun h => by simp at h, fun h => by simp at h⟩

theorem runs (P : Program) [GoFree P] {B : Bnds} {σ : Vl} {call : FuncId → List CV → St → Option (List Leaf)} (hm : P.follows .mixedOrders = true) (hB : B.ok σ) (hC : ∀ N, CallHook P (σ.wN N) call) (n N : Nat) : RnOk P (σ.wN N) n (run P B (hooks P B call) n) := by
  refine run_ok hB (fun N => ⟨?_, ?_⟩) ⟨?_, ?_⟩ n N
  · intro n rn hR hM id ops s m a w Q hA I hg hQ
    exact drawTry_ok hm (Bnds.ok_wN hB N) hR hM 40 hA I hg hQ
  · intro f cs vs s m w L h
    exact (hC N).ok h
  · intro rn hM ops s
    exact drawTry_mono hM 40 s
  · intro f cs s L h
    exact (hC 0).mono h
end
end Go.Sx
