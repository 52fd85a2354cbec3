/- SX, part 17: regions whose order is open are right: the end. -/
import Derived.Test.YtmamgkangmnkdaaGreatDoorSxDrawOk
namespace Go.Sx
open Go
noncomputable section
section
variable {P : Program} {B : Bnds} {σ : Vl} {rn : Cmd → St → List Leaf} {all : Array Oper} {s s' : St} {es : List Ent} {S : Nat → St} {R : Nat → One}

theorem wrT_iff {t : Tmp} {k : Nat} : wrT all t k = true ↔ dstOf all k = some t := by simp [wrT]
theorem wrH_iff {id k : Nat} {e : Ent} (he : es[k]? = some e) : wrH es id k = true ↔ (id ∈ e.W ∨ e.lo ≤ id ∧ id < e.hi) := by simp [wrH, he]

theorem done_step [GoFree P] (hB : B.ok σ) {k0 : Nat} (hR : ∀ N, RnOk P (σ.wN N) k0 rn) (hM : RnMono rn) (W : Way rn P B all all.toList s s' es S R) {tab : List (List Nat)} (hT : ancOk all.toList tab = true) (hP : pairsOk tab es = true)
    (hA : Holds σ s.asm) {m0 : M} {w0 : World} {D : Nat → Bool} {m : M} {a : Act} {w : World} (I : Done σ all es s s' S R m0 w0 D m a w)
    (hdc : ∀ j o, all.toList[j]? = some o → D j = true → ∀ e ∈ edgesOf o, D e = true) {j : Nat} {o : Oper} (ho : all.toList[j]? = some o) (hnj : D j = false) (hr : ∀ e ∈ edgesOf o, D e = true)
    {K : Act → World → Prop} {Q : Exit → Act → World → Prop} (hK : ∀ m' a' w', Done σ all es s s' S R m0 w0 (add D j) m' a' w' → K a' w') :
    if Region.wanted o (yielded all a.tmps) then o.wp P a w K Q ∨ (o.asks P a w ∧ LetsOut Q) else K (a.put o.dst undef) w := by
  have hjl : j < all.toList.length := (List.getElem?_eq_some_iff.1 ho).1
  obtain ⟨h1, hej, h3⟩ := W.step j o ho
  obtain ⟨hasm, hnt, hn1, hobj1, htm1, hdlt⟩ := mergeSt_ok h3
  obtain ⟨pasm, pnt, pn⟩ := W.plain hM j (by omega)
  have pn' := (W.plain hM all.toList.length (Nat.le_refl _)).2.2
  have hlo : s.h.n ≤ (S j).h.n := by have := pn 0 (by omega); rw [W.first] at this; exact this
  have hhi : (R j).h.n ≤ s'.h.n := by rw [← hn1, ← W.last]; exact pn' (j + 1) (by omega)
  -- the entries of others
  have ent : ∀ k, k < all.toList.length → ∃ e ok, all.toList[k]? = some ok ∧ es[k]? = some e ∧ e = entOf all (S k) ok (R k) := fun k hk => by
    have hok : all.toList[k]? = some all.toList[k] := List.getElem?_eq_getElem hk
    exact ⟨_, _, hok, (W.step k _ hok).2.1, rfl⟩
  have order : ∀ i k, i ≤ k → k ≤ all.toList.length → (S i).h.n ≤ (S k).h.n := fun i k hik hk => (W.plain hM k hk).2.2 i hik
  have next : ∀ k, k < all.toList.length → (S (k + 1)).h.n = (R k).h.n := fun k hk => by
    have hok : all.toList[k]? = some all.toList[k] := List.getElem?_eq_getElem hk
    exact (mergeSt_ok (W.step k _ hok).2.2).2.2.1
  have flow : ∀ (k : Nat) (e : Ent), es[k]? = some e → ∀ id ∈ e.F, id < e.lo := by
    intro k e he id hid
    have hkl : k < es.length := (List.getElem?_eq_some_iff.1 he).1
    have := List.all_eq_true.1 (show (List.range es.length).all _ = true from hP) k (List.mem_range.2 hkl)
    simp only [he, Bool.and_eq_true] at this
    simpa using List.all_eq_true.1 this.1 id hid
  have wsub : ∀ (k : Nat) (e : Ent), es[k]? = some e → ∀ id ∈ e.W, id ∈ e.F := by
    intro k e he id hid
    have hkl : k < all.toList.length := by rw [← W.len]; exact (List.getElem?_eq_some_iff.1 he).1
    obtain ⟨e', ok, _, he', hee⟩ := ent k hkl
    rw [he] at he'; simp at he'; subst he'
    rw [hee] at hid ⊢
    exact (List.mem_filter.1 hid).1
  -- whose turn it is
  have turnT : ∀ t, (t ∈ o.looksAt all ∨ o.dst = some t) → ∀ k, k < all.toList.length → wrT all t k = true → (D k = true ↔ k < j) := by
    intro t ht k hk hw
    obtain ⟨e, ok, hok, he, hee⟩ := ent k hk
    rw [wrT_iff, dstOf, hok] at hw
    simp only [Option.bind_some] at hw
    refine turn hT hP W.len hdc ho hnj hr hej he ?_ ?_
    · intro _
      left
      unfold indepE
      rw [hee]
      simp only [entOf, hw]
      rcases ht with h | h
      · simp [h]
      · simp [h]
    · intro _
      left
      unfold indepE
      rw [hee]
      simp only [entOf, hw]
      rcases ht with h | h
      · simp [h]
      · simp [h]
  have turnH : ∀ id, (id ∈ (R j).F ∨ (S j).h.n ≤ id ∧ id < (R j).h.n) → ∀ k, k < all.toList.length → wrH es id k = true → (D k = true ↔ k < j) := by
    intro id hid k hk hw
    obtain ⟨e, ok, hok, he, hee⟩ := ent k hk
    rw [wrH_iff he] at hw
    have hkn : e.lo = (S k).h.n ∧ e.hi = (R k).h.n := by rw [hee]; exact ⟨rfl, rfl⟩
    have hjF : ∀ id ∈ (R j).F, id < (S j).h.n := flow j _ hej
    refine turn hT hP W.len hdc ho hnj hr hej he ?_ ?_
    · -- k ahead of j, or behind
      intro hne
      by_cases hkj : k < j
      · left
        have hb : (R k).h.n ≤ (S j).h.n := by rw [← next k hk]; exact order (k + 1) j (by omega) (by omega)
        rcases hid with h | ⟨h, h'⟩
        · unfold indepE
          rcases hw with h2 | ⟨h2, h2'⟩
          · have : (e.W.all fun i => !((entOf all (S j) o (R j)).F.contains i)) = false := by
              rw [List.all_eq_false]
              exact ⟨id, h2, by simp [entOf, h]⟩
            simp only [this, Bool.and_false, Bool.false_and]
          · have : ((entOf all (S j) o (R j)).F.all fun i => !(decide (e.lo ≤ i) && decide (i < e.hi))) = false := by
              rw [List.all_eq_false]
              exact ⟨id, h, by simp [h2, h2']⟩
            simp only [this, Bool.and_false]
        · exfalso
          rcases hw with h2 | ⟨h2, h2'⟩
          · have := flow k e he id (wsub k e he id h2)
            have := order k j (by omega) (by omega)
            omega
          · omega
      · right; omega
    · intro hne
      by_cases hkj : j < k
      · left
        have hb : (R j).h.n ≤ (S k).h.n := by rw [← hn1]; exact order (j + 1) k (by omega) (by omega)
        unfold indepE
        rcases hid with h | ⟨h, h'⟩
        · rcases hw with h2 | ⟨h2, h2'⟩
          · have : (e.W.all fun i => !((entOf all (S j) o (R j)).F.contains i)) = false := by
              rw [List.all_eq_false]
              exact ⟨id, h2, by simp [entOf, h]⟩
            simp only [this, Bool.and_false, Bool.false_and]
          · exfalso
            have := hjF id h
            have := order j k (by omega) (by omega)
            omega
        · rcases hw with h2 | ⟨h2, h2'⟩
          · have : (e.F.all fun i => !(decide ((entOf all (S j) o (R j)).lo ≤ i) && decide (i < (entOf all (S j) o (R j)).hi))) = false := by
              rw [List.all_eq_false]
              exact ⟨id, wsub k e he id h2, by simp [entOf, h, h']⟩
            simp only [this, Bool.and_false]
          · exfalso; omega
      · right; omega
  have curT : ∀ t, t ∈ o.looksAt all → cur ((S 0).tm.get t) (wrT all t) (fun k => some (R k).c) D all.toList.length = (S j).tm.get t := fun t ht => by
    rw [W.getT t j (by omega)]; exact cur_eq (by omega) (turnT t (.inl ht))
  have curH : ∀ id, id ∈ (R j).F → cur ((S 0).h.obj id) (wrH es id) (fun k => (R k).h.obj id) D all.toList.length = (S j).h.obj id := fun id hid => by
    rw [W.getH id j (by omega)]; exact cur_eq (by omega) (turnH id (.inl hid))
  refine one_ok hB hR hM h1 (by rw [pasm]; exact hA) (m := m) ?_ (by rw [pnt]; exact I.nt) (by rw [W.df j (by omega)]; exact I.df) ?_ ?_ ?_ ?_
  · intro t c ht hc
    exact I.tm t c (by rw [curT t ht]; exact hc)
  · intro id ob hid hob
    exact I.obj id ob (by rw [curH id hid]; exact hob)
  · intro id id' ob ob' b n n' hid hid' hob hob' hm hm'
    exact I.inj id id' ob ob' b n n' (by rw [curH id hid]; exact hob) (by rw [curH id' hid']; exact hob') hm hm'
  · intro id hid1 hid2
    apply Classical.byContradiction
    intro hne
    obtain ⟨k, e, hD, he, hk1, hk2⟩ := I.top id (by omega) (by omega) hne
    have hkl : k < all.toList.length := by rw [← W.len]; exact (List.getElem?_eq_some_iff.1 he).1
    obtain ⟨e', ok, _, he', hee⟩ := ent k hkl
    rw [he] at he'; simp at he'; subst he'
    rw [hee] at hk1 hk2
    simp only [entOf] at hk1 hk2
    rcases Nat.lt_trichotomy k j with h | h | h
    · have : (R k).h.n ≤ (S j).h.n := by rw [← next k hkl]; exact order (k + 1) j (by omega) (by omega)
      omega
    · subst h; rw [hnj] at hD; simp at hD
    · have : (R j).h.n ≤ (S k).h.n := by rw [← hn1]; exact order (j + 1) k (by omega) (by omega)
      omega
  · intro v m' w' hv E
    refine hK m' (a.put o.dst v) w' ?_
    have wj : ∀ id, wrH es id j = true ↔ (id ∈ (entOf all (S j) o (R j)).W ∨ (S j).h.n ≤ id ∧ id < (R j).h.n) := fun id => wrH_iff hej
    have inF : ∀ id, wrH es id j = true → (id ∈ (R j).F ∨ (S j).h.n ≤ id ∧ id < (R j).h.n) := fun id h => by
      rcases (wj id).1 h with h | h
      · exact .inl (wsub j _ hej id h)
      · exact .inr h
    have curA : ∀ id, cur ((S 0).h.obj id) (wrH es id) (fun k => (R k).h.obj id) (add D j) all.toList.length = if wrH es id j = true then (R j).h.obj id else cur ((S 0).h.obj id) (wrH es id) (fun k => (R k).h.obj id) D all.toList.length :=
      fun id => cur_add hjl fun hw => turnH id (inF id hw)
    -- of what it touched, all is as it left it
    have curF : ∀ id, (id ∈ (R j).F ∨ (S j).h.n ≤ id ∧ id < (R j).h.n) → cur ((S 0).h.obj id) (wrH es id) (fun k => (R k).h.obj id) (add D j) all.toList.length = (R j).h.obj id := by
      intro id hid
      rw [curA]
      by_cases hw : wrH es id j = true
      · rw [if_pos hw]
      · rw [if_neg hw]
        rcases hid with h | h
        · rw [curH id h]
          have hnw : id ∉ (entOf all (S j) o (R j)).W := fun h' => hw ((wj id).2 (.inl h'))
          have : sameO ((S j).h.obj id) ((R j).h.obj id) = true := by
            cases hs : sameO ((S j).h.obj id) ((R j).h.obj id) with
            | true => rfl
            | false => exact absurd (List.mem_filter.2 ⟨h, by simp [hs]⟩) hnw
          exact sameO_ok this
        · exact absurd ((wj id).2 (.inr h)) hw
    -- what it did not touch is as it was
    have curO : ∀ id, ¬ (id ∈ (R j).F ∨ (S j).h.n ≤ id ∧ id < (R j).h.n) → cur ((S 0).h.obj id) (wrH es id) (fun k => (R k).h.obj id) (add D j) all.toList.length = cur ((S 0).h.obj id) (wrH es id) (fun k => (R k).h.obj id) D all.toList.length := by
      intro id hid
      rw [curA, if_neg fun hw => hid (inF id hw)]
    -- a block of what it did not touch
    have other : ∀ id ob b n, ¬ (id ∈ (R j).F ∨ (S j).h.n ≤ id ∧ id < (R j).h.n) → cur ((S 0).h.obj id) (wrH es id) (fun k => (R k).h.obj id) D all.toList.length = some ob → m id = some (b, n) →
        ∀ id2 ob2 n2, id2 ∈ (R j).F → (S j).h.obj id2 = some ob2 → m id2 ≠ some (b, n2) := by
      intro id ob b n hid hob hm id2 ob2 n2 hid2 hob2 hm2
      have := I.inj id id2 ob ob2 b n n2 hob (by rw [curH id2 hid2]; exact hob2) hm hm2
      subst this
      exact hid (.inl hid2)
    refine ⟨?_, ?_, ?_, ?_, ?_, ?_, ?_, Nat.le_trans I.size E.size, M.le_trans I.le E.le, ?_, ?_, ?_, I.sys.trans E.sys⟩
    · intro t c hc
      rw [cur_add hjl fun hw => turnT t (.inr (by rw [wrT_iff, dstOf, ho] at hw; simpa using hw))] at hc
      split at hc
      · rename_i hw
        rw [wrT_iff, dstOf, ho] at hw
        simp only [Option.bind_some] at hw
        simp only [Option.some.injEq] at hc
        subst hc
        rw [hv, hw]
        have hlt : t < a.tmps.size := by rw [I.nt, ← pnt]; exact hdlt t hw
        simp [Act.put, Array.getD, hlt]
      · rename_i hw
        rw [wrT_iff, dstOf, ho] at hw
        simp only [Option.bind_some] at hw
        have := dv_mono σ E.le _ (I.tm t c hc)
        rw [this]
        cases hd : o.dst with
        | none => rfl
        | some d =>
          have hne : d ≠ t := fun e => hw (by rw [hd, e])
          simp only [Act.put, Array.getD_eq_getD_getElem?]
          rw [Array.getElem?_setIfInBounds_ne hne]
    · have : (a.put o.dst v).tmps.size = a.tmps.size := by cases o.dst <;> simp [Act.put]
      rw [this]; exact I.nt
    · have : (a.put o.dst v).defers = a.defers := by cases o.dst <;> rfl
      rw [this]; exact I.df.mono E.le
    · intro id hid1 hid2 hne
      by_cases hin : (S j).h.n ≤ id ∧ id < (R j).h.n
      · exact ⟨j, _, by simp [add], hej, hin.1, hin.2⟩
      · rw [E.keep id (by omega)] at hne
        obtain ⟨k, e, hD, he, hk⟩ := I.top id hid1 hid2 hne
        exact ⟨k, e, by simp [add, hD], he, hk⟩
    · intro id hid hN
      rw [E.keep id (by omega)]
      exact I.top2 id hid hN
    · intro id ob hob
      by_cases hin : id ∈ (R j).F ∨ (S j).h.n ≤ id ∧ id < (R j).h.n
      · rw [curF id hin] at hob
        exact E.obj id ob hin hob
      · rw [curO id hin] at hob
        obtain ⟨b, n, wo, h4, h5, h6⟩ := I.obj id ob hob
        refine ⟨b, n, wo, E.le _ _ h4, ?_, h6.mono E.le⟩
        rw [E.same b (Array.getElem?_eq_some_iff.1 h5).1 fun id2 ob2 n2 hid2 hob2 => other id ob b n hin hob h4 id2 ob2 n2 hid2 hob2]
        exact h5
    · -- injectivity
      have mixed : ∀ id id' ob ob' b n n', (id ∈ (R j).F ∨ (S j).h.n ≤ id ∧ id < (R j).h.n) → ¬ (id' ∈ (R j).F ∨ (S j).h.n ≤ id' ∧ id' < (R j).h.n) → (R j).h.obj id = some ob →
          cur ((S 0).h.obj id') (wrH es id') (fun k => (R k).h.obj id') D all.toList.length = some ob' → m' id = some (b, n) → m' id' = some (b, n') → False := by
        intro id id' ob ob' b n n' hin hout hob hob' hm hm'
        obtain ⟨b2, n2, wo2, h4, h5, _⟩ := I.obj id' ob' hob'
        have h6 := E.le _ _ h4
        rw [hm'] at h6; simp at h6; obtain ⟨rfl, rfl⟩ := h6
        have hb := (Array.getElem?_eq_some_iff.1 h5).1
        rcases E.own id ob b n hin hob hm with h7 | ⟨id0, ob0, n0, h7, h8, h9⟩
        · omega
        · exact other id' ob' b n' hout hob' h4 id0 ob0 n0 h7 h8 h9
      intro id id' ob ob' b n n' hob hob' hm hm'
      by_cases hin : id ∈ (R j).F ∨ (S j).h.n ≤ id ∧ id < (R j).h.n
      · rw [curF id hin] at hob
        by_cases hin' : id' ∈ (R j).F ∨ (S j).h.n ≤ id' ∧ id' < (R j).h.n
        · rw [curF id' hin'] at hob'
          exact E.inj id id' ob ob' b n n' hin hin' hob hob' hm hm'
        · rw [curO id' hin'] at hob'
          exact (mixed id id' ob ob' b n n' hin hin' hob hob' hm hm').elim
      · rw [curO id hin] at hob
        by_cases hin' : id' ∈ (R j).F ∨ (S j).h.n ≤ id' ∧ id' < (R j).h.n
        · rw [curF id' hin'] at hob'
          exact (mixed id' id ob' ob b n' n hin' hin hob' hob hm' hm).elim
        · rw [curO id' hin'] at hob'
          obtain ⟨b1, n1, wo1, h4, h5, _⟩ := I.obj id ob hob
          obtain ⟨b2, n2, wo2, h6, h7, _⟩ := I.obj id' ob' hob'
          have h8 := E.le _ _ h4
          have h9 := E.le _ _ h6
          rw [hm] at h8; simp at h8; obtain ⟨rfl, rfl⟩ := h8
          rw [hm'] at h9; simp at h9; obtain ⟨rfl, rfl⟩ := h9
          exact I.inj id id' ob ob' b n n' hob hob' h4 h6
    · intro id hid
      rw [E.keep id (by omega)]
      exact I.keep id hid
    · intro b hb hn
      rw [E.same b (Nat.lt_of_lt_of_le hb I.size) ?_, I.same b hb hn]
      intro id2 ob2 n2 hid2 hob2 hm2
      rcases I.own id2 ob2 b n2 (by rw [curH id2 hid2]; exact hob2) hm2 with h | ⟨id0, o0, n0, h4, h5⟩
      · omega
      · exact hn id0 o0 n0 h4 h5
    · intro id ob b n hob hm
      by_cases hin : id ∈ (R j).F ∨ (S j).h.n ≤ id ∧ id < (R j).h.n
      · rw [curF id hin] at hob
        rcases E.own id ob b n hin hob hm with h | ⟨id0, ob0, n0, h4, h5, h6⟩
        · exact .inl (Nat.le_trans I.size h)
        · exact I.own id0 ob0 b n0 (by rw [curH id0 h4]; exact h5) h6
      · rw [curO id hin] at hob
        obtain ⟨b1, n1, wo1, h4, h5, _⟩ := I.obj id ob hob
        have h6 := E.le _ _ h4
        rw [hm] at h6; simp at h6; obtain ⟨rfl, rfl⟩ := h6
        exact I.own id ob b n hob h4
end
end
end Go.Sx
