/- SX, part 16: regions whose order is open are right. -/
import Derived.Test.YtmamgkangmnkdaaGreatDoorSxDrawOne
namespace Go.Sx
open Go
noncomputable section
section
variable {P : Program} {B : Bnds} {σ : Vl}

theorem mergeSt_ok {s s1 : St} {d : Option Tmp} {c : CV} {h' : Heap} {W : List Nat} (e : mergeSt s d c h' W = some s1) :
    s1.asm = s.asm ∧ s1.nt = s.nt ∧ s1.h.n = h'.n ∧ (∀ id, s1.h.obj id = if id ∈ W ∨ (s.h.n ≤ id ∧ id < h'.n) then h'.obj id else s.h.obj id) ∧
      (∀ t, s1.tm.get t = if d = some t then some c else s.tm.get t) ∧ (∀ t, d = some t → t < s.nt) := by
  simp only [mergeSt, Option.bind_eq_some_iff] at e
  obtain ⟨t, ht, e⟩ := e
  have hobj : ∀ id, (Heap.mk t h'.n).obj id = if id ∈ W ∨ (s.h.n ≤ id ∧ id < h'.n) then h'.obj id else s.h.obj id := by
    intro id
    show t.get id = _
    rw [buildOn_get ht]
    simp only [List.mem_append, mem_newIds]
    rfl
  cases d with
  | none =>
    simp [St.put] at e; subst e
    exact ⟨rfl, rfl, rfl, hobj, fun t => by simp, fun t h => by simp at h⟩
  | some d =>
    simp only [St.put] at e
    split at e
    · rename_i hlt
      simp only [Option.map_eq_some_iff] at e
      obtain ⟨tm, htm, rfl⟩ := e
      refine ⟨rfl, rfl, rfl, hobj, fun t => ?_, fun t h => by simp at h; subst h; exact hlt⟩
      simp only [Tr.get_set 40 _ _ _ htm t]
      by_cases h : t = d
      · subst h; simp
      · rw [if_neg h, if_neg (by simp; exact fun e => h e.symm)]
    · simp at e

theorem mergeSt_df {s s1 : St} {d : Option Tmp} {c : CV} {h' : Heap} {W : List Nat} (e : mergeSt s d c h' W = some s1) : s1.df = s.df := by
  simp only [mergeSt, Option.bind_eq_some_iff] at e
  obtain ⟨t, ht, e⟩ := e
  cases d with
  | none => simp [St.put] at e; subst e; rfl
  | some d =>
    simp only [St.put] at e
    split at e
    · simp only [Option.map_eq_some_iff] at e
      obtain ⟨tm, htm, rfl⟩ := e
      rfl
    · simp at e

/-- The way in the text's order. -/
structure Way (rn : Cmd → St → List Leaf) (P : Program) (B : Bnds) (all : Array Oper) (l : List Oper) (s s' : St) (es : List Ent) (S : Nat → St) (R : Nat → One) : Prop where
  first : S 0 = s
  last : S l.length = s'
  len : es.length = l.length
  step : ∀ k o, l[k]? = some o → drawOne rn P B all (S k) o = .ok (R k) ∧ es[k]? = some (entOf all (S k) o (R k)) ∧ mergeSt (S k) o.dst (R k).c (R k).h (entOf all (S k) o (R k)).W = some (S (k + 1))

theorem drawAll_way {rn : Cmd → St → List Leaf} {all : Array Oper} : ∀ {l : List Oper} {s s' : St} {es : List Ent}, drawAll rn P B all l s = .ok (s', es) → ∃ S R, Way rn P B all l s s' es S R
  | [], s, s', es, h => by
    simp only [drawAll, DR.ok.injEq, Prod.mk.injEq] at h
    obtain ⟨rfl, rfl⟩ := h
    exact ⟨fun _ => s, fun _ => ⟨undefCV, s.h, []⟩, rfl, rfl, rfl, fun k o h => by simp at h⟩
  | o :: rest, s, s', es, h => by
    simp only [drawAll] at h
    split at h
    · simp at h
    · simp at h
    · rename_i r hr
      split at h
      · simp at h
      · rename_i s1 hs1
        split at h
        · rename_i s2 es2 h2
          simp only [DR.ok.injEq, Prod.mk.injEq] at h
          obtain ⟨rfl, rfl⟩ := h
          obtain ⟨S, R, hw⟩ := drawAll_way h2
          refine ⟨fun k => match k with | 0 => s | k + 1 => S k, fun k => match k with | 0 => r | k + 1 => R k, rfl, hw.last, by simp [hw.len], ?_⟩
          intro k o' hk
          cases k with
          | zero =>
            simp at hk; subst hk
            refine ⟨hr, by simp, ?_⟩
            show mergeSt s o.dst r.c r.h (entOf all s o r).W = some (S 0)
            rw [hw.first]; exact hs1
          | succ k =>
            simp at hk
            have := hw.step k o' hk
            exact ⟨this.1, by simpa using this.2.1, this.2.2⟩
        · simp at h
        · simp at h

/-- What a place holds, when some have been done. -/
def cur {α : Type} (v0 : α) (wr : Nat → Bool) (val : Nat → α) (D : Nat → Bool) : Nat → α
  | 0 => v0
  | k + 1 => if D k && wr k then val k else cur v0 wr val D k

theorem cur_eq {α : Type} {v0 : α} {wr : Nat → Bool} {val : Nat → α} {D : Nat → Bool} {j n : Nat} (hj : j ≤ n) (h : ∀ k, k < n → wr k = true → (D k = true ↔ k < j)) : cur v0 wr val D n = cur v0 wr val (fun _ => true) j := by
  have low : ∀ k, k ≤ j → cur v0 wr val D k = cur v0 wr val (fun _ => true) k := by
    intro k hk
    induction k with
    | zero => rfl
    | succ k ih =>
      simp only [cur]
      by_cases hw : wr k = true
      · have := (h k (by omega) hw).2 (by omega)
        simp [hw, this]
      · simp only [Bool.not_eq_true] at hw
        simp [hw, ih (by omega)]
  have high : ∀ i, j + i ≤ n → cur v0 wr val D (j + i) = cur v0 wr val D j := by
    intro i
    induction i with
    | zero => intro _; rfl
    | succ i ih =>
      intro hi
      show cur v0 wr val D (j + i + 1) = _
      simp only [cur]
      by_cases hw : wr (j + i) = true
      · have hd : D (j + i) = false := by
          cases hD : D (j + i) with
          | false => rfl
          | true => have := (h (j + i) (by omega) hw).1 hD; omega
        simp [hd, ih (by omega)]
      · simp only [Bool.not_eq_true] at hw
        simp [hw, ih (by omega)]
  have := high (n - j) (by omega)
  rw [show j + (n - j) = n by omega] at this
  rw [this, low j (Nat.le_refl _)]

def add (D : Nat → Bool) (j : Nat) : Nat → Bool := fun k => D k || k == j

/-- One more is done: its places hold what it wrote; others are as they were. -/
theorem cur_add {α : Type} {v0 : α} {wr : Nat → Bool} {val : Nat → α} {D : Nat → Bool} {j n : Nat} (hj : j < n) (h : wr j = true → ∀ k, k < n → wr k = true → (D k = true ↔ k < j)) :
    cur v0 wr val (add D j) n = if wr j = true then val j else cur v0 wr val D n := by
  by_cases hw : wr j = true
  · rw [if_pos hw]
    rw [cur_eq (j := j + 1) hj]
    · simp [cur, hw]
    · intro k hk hwk
      have := h hw k hk hwk
      simp only [add, Bool.or_eq_true, beq_iff_eq]
      rw [this]; omega
  · rw [if_neg hw]
    have : ∀ m, cur v0 wr val (add D j) m = cur v0 wr val D m := by
      intro m
      induction m with
      | zero => rfl
      | succ m ih =>
        simp only [cur, ih, add]
        by_cases hm : m = j
        · subst hm; simp only [Bool.not_eq_true] at hw; simp [hw]
        · simp [hm]
    exact this n

theorem cur_all {α : Type} {v0 : α} {wr : Nat → Bool} {val : Nat → α} {D : Nat → Bool} {n : Nat} (h : ∀ k, k < n → D k = true) : cur v0 wr val D n = cur v0 wr val (fun _ => true) n :=
  cur_eq (Nat.le_refl n) fun k hk _ => ⟨fun _ => hk, fun _ => h k hk⟩

theorem drawOne_mono {rn : Cmd → St → List Leaf} (hM : RnMono rn) {all : Array Oper} {s : St} {o : Oper} {r : One} (e : drawOne rn P B all s o = .ok r) : s.h.n ≤ r.h.n := by
  unfold drawOne at e
  split at e
  · simp at e
  · split at e
    · simp at e
    · simp at e
    · simp at e; subst e; exact Nat.le_refl _
    · simp only at e
      split at e
      · simp at e
      · split at e
        · simp at e
        · simp at e
        · rename_i hst; simp at e; subst e; have h9 := stepOp_mono hst; exact h9
        · rename_i hst; simp at e; subst e; have h9 := stepOp_mono hst; exact h9
        · simp at e
        · rename_i f args h hst
          have h1 := stepOp_mono hst
          split at e
          · rename_i c s' hcall
            simp at e; subst e
            exact Nat.le_trans h1 ((hM (.call f args) _).2 (.val c, s') (by rw [hcall]; simp))
          · split at e
            · split at e <;> simp at e
            · simp at e
          · simp at e

section main
variable {rn : Cmd → St → List Leaf} {all : Array Oper} {s s' : St} {es : List Ent} {S : Nat → St} {R : Nat → One}

def dstOf (all : Array Oper) (k : Nat) : Option Tmp := (all.toList[k]?).bind (·.dst)
def wrT (all : Array Oper) (t : Tmp) (k : Nat) : Bool := dstOf all k == some t
def wrH (es : List Ent) (id : Nat) (k : Nat) : Bool := match es[k]? with
  | some e => e.W.contains id || (decide (e.lo ≤ id) && decide (id < e.hi))
  | none => false

theorem Way.getT (W : Way rn P B all all.toList s s' es S R) (t : Tmp) : ∀ j, j ≤ all.toList.length → (S j).tm.get t = cur ((S 0).tm.get t) (wrT all t) (fun k => some (R k).c) (fun _ => true) j := by
  intro j
  induction j with
  | zero => intro _; rfl
  | succ j ih =>
    intro hj
    have ho : all.toList[j]? = some all.toList[j] := List.getElem?_eq_getElem (by omega)
    obtain ⟨h1, h2, h3⟩ := W.step j _ ho
    obtain ⟨_, _, _, _, h4, _⟩ := mergeSt_ok h3
    simp only [cur, h4 t, ih (by omega), Bool.true_and, wrT, dstOf, ho, Option.bind_some]
    simp

theorem Way.getH (W : Way rn P B all all.toList s s' es S R) (id : Nat) : ∀ j, j ≤ all.toList.length → (S j).h.obj id = cur ((S 0).h.obj id) (wrH es id) (fun k => (R k).h.obj id) (fun _ => true) j := by
  intro j
  induction j with
  | zero => intro _; rfl
  | succ j ih =>
    intro hj
    have ho : all.toList[j]? = some all.toList[j] := List.getElem?_eq_getElem (by omega)
    obtain ⟨h1, h2, h3⟩ := W.step j _ ho
    obtain ⟨_, _, _, h4, _, _⟩ := mergeSt_ok h3
    have hw : wrH es id j = true ↔ (id ∈ (entOf all (S j) all.toList[j] (R j)).W ∨ (S j).h.n ≤ id ∧ id < (R j).h.n) := by
      simp [wrH, h2, entOf]
    simp only [cur, h4 id, ih (by omega), Bool.true_and]
    by_cases hc : wrH es id j = true
    · rw [if_pos hc, if_pos (hw.1 hc)]
    · rw [if_neg hc, if_neg (fun h => hc (hw.2 h))]

theorem Way.df (W : Way rn P B all all.toList s s' es S R) : ∀ j, j ≤ all.toList.length → (S j).df = s.df := by
  intro j
  induction j with
  | zero => intro _; rw [W.first]
  | succ j ih =>
    intro hj
    have ho : all.toList[j]? = some all.toList[j] := List.getElem?_eq_getElem (by omega)
    rw [mergeSt_df (W.step j _ ho).2.2, ih (by omega)]

theorem Way.plain (W : Way rn P B all all.toList s s' es S R) (hM : RnMono rn) : ∀ j, j ≤ all.toList.length → (S j).asm = s.asm ∧ (S j).nt = s.nt ∧ ∀ i, i ≤ j → (S i).h.n ≤ (S j).h.n := by
  intro j
  induction j with
  | zero =>
    intro _
    rw [W.first]
    refine ⟨rfl, rfl, fun i hi => ?_⟩
    have h0 : i = 0 := by omega
    rw [h0, W.first]; exact Nat.le_refl _
  | succ j ih =>
    intro hj
    obtain ⟨ih1, ih2, ih3⟩ := ih (by omega)
    have ho : all.toList[j]? = some all.toList[j] := List.getElem?_eq_getElem (by omega)
    obtain ⟨h1, h2, h3⟩ := W.step j _ ho
    obtain ⟨h4, h5, h6, _, _, _⟩ := mergeSt_ok h3
    refine ⟨h4.trans ih1, h5.trans ih2, fun i hi => ?_⟩
    by_cases he : i = j + 1
    · subst he; exact Nat.le_refl _
    · have := ih3 i (by omega)
      have := drawOne_mono hM h1
      omega

/-- What holds when some of the region's operations are done. -/
structure Done (σ : Vl) (all : Array Oper) (es : List Ent) (s s' : St) (S : Nat → St) (R : Nat → One) (m0 : M) (w0 : World) (D : Nat → Bool) (m : M) (a : Act) (w : World) : Prop where
  tm : ∀ t c, cur ((S 0).tm.get t) (wrT all t) (fun k => some (R k).c) D all.toList.length = some c → dv σ m c = some (a.tmps.getD t undef)
  nt : a.tmps.size = s.nt
  df : DfOk σ m s.df a.defers
  top : ∀ id, s.h.n ≤ id → id < s'.h.n → m id ≠ none → ∃ k e, D k = true ∧ es[k]? = some e ∧ e.lo ≤ id ∧ id < e.hi
  top2 : ∀ id, s'.h.n ≤ id → id < σ.N → m id = none
  obj : ∀ id ob, cur ((S 0).h.obj id) (wrH es id) (fun k => (R k).h.obj id) D all.toList.length = some ob → ∃ b n wo, m id = some (b, n) ∧ w.heap[b]? = some wo ∧ ORep σ m ob n wo
  inj : ∀ id id' ob ob' b n n', cur ((S 0).h.obj id) (wrH es id) (fun k => (R k).h.obj id) D all.toList.length = some ob → cur ((S 0).h.obj id') (wrH es id') (fun k => (R k).h.obj id') D all.toList.length = some ob' →
    m id = some (b, n) → m id' = some (b, n') → id = id'
  size : w0.heap.size ≤ w.heap.size
  le : m0.le m
  keep : ∀ id, (id < s.h.n ∨ s'.h.n ≤ id) → m id = m0 id
  same : ∀ b, b < w0.heap.size → (∀ id o n, s.h.obj id = some o → m0 id ≠ some (b, n)) → w.heap[b]? = w0.heap[b]?
  own : ∀ id ob b n, cur ((S 0).h.obj id) (wrH es id) (fun k => (R k).h.obj id) D all.toList.length = some ob → m id = some (b, n) → w0.heap.size ≤ b ∨ ∃ id0 o0 n0, s.h.obj id0 = some o0 ∧ m0 id0 = some (b, n0)
  sys : SysEq w0 w

theorem anc_ok {tab : List (List Nat)} (hT : ancOk all.toList tab = true) {D : Nat → Bool} (hdc : ∀ j o, all.toList[j]? = some o → D j = true → ∀ e ∈ edgesOf o, D e = true) :
    ∀ j o, all.toList[j]? = some o → (∀ e ∈ edgesOf o, D e = true) → ∀ i ∈ tab.getD j [], D i = true := by
  intro j
  induction j using Nat.strongRecOn with
  | _ j ih =>
    intro o ho he i hi
    have hlt : j < all.toList.length := (List.getElem?_eq_some_iff.1 ho).1
    unfold ancOk at hT
    have := List.all_eq_true.1 hT j (List.mem_range.2 hlt)
    simp only [ho, Bool.and_eq_true] at this
    obtain ⟨h1, h2⟩ := this
    have h3 := List.all_eq_true.1 h2 i hi
    obtain ⟨e, hee, h4⟩ := List.any_eq_true.1 h3
    have hej : e < j := by simpa using List.all_eq_true.1 h1 e hee
    simp only [Bool.or_eq_true, beq_iff_eq, List.contains_iff_mem] at h4
    rcases h4 with rfl | h4
    · exact he i hee
    · have hoe : all.toList[e]? = some all.toList[e] := List.getElem?_eq_getElem (by omega)
      exact ih e hej _ hoe (hdc e _ hoe (he e hee)) i h4

/-- Whoever meets an operation at a place has its turn fixed. -/
theorem turn {tab : List (List Nat)} (hT : ancOk all.toList tab = true) (hP : pairsOk tab es = true) (hlen : es.length = all.toList.length) {D : Nat → Bool}
    (hdc : ∀ j o, all.toList[j]? = some o → D j = true → ∀ e ∈ edgesOf o, D e = true) {j k : Nat} {o : Oper} {ej ek : Ent} (ho : all.toList[j]? = some o) (hnj : D j = false) (hr : ∀ e ∈ edgesOf o, D e = true)
    (hj : es[j]? = some ej) (hk : es[k]? = some ek) (hcon : k ≠ j → indepE ek ej = false ∨ j < k) (hcon2 : k ≠ j → indepE ej ek = false ∨ k < j) : (D k = true ↔ k < j) := by
  have hjl : j < es.length := (List.getElem?_eq_some_iff.1 hj).1
  have hkl : k < es.length := (List.getElem?_eq_some_iff.1 hk).1
  by_cases hkj : k = j
  · subst hkj; simp [hnj]
  · rcases Nat.lt_or_gt_of_ne hkj with h | h
    · refine ⟨fun _ => h, fun _ => ?_⟩
      unfold pairsOk at hP
      have := List.all_eq_true.1 hP j (List.mem_range.2 hjl)
      simp only [hj, Bool.and_eq_true] at this
      have := List.all_eq_true.1 this.2 k (List.mem_range.2 h)
      simp only [hk, Bool.or_eq_true, List.contains_iff_mem] at this
      rcases this with h1 | h1
      · exact anc_ok hT hdc j o ho hr k h1
      · rcases hcon hkj with h2 | h2
        · rw [h2] at h1; simp at h1
        · omega
    · refine ⟨fun hD => ?_, fun h' => by omega⟩
      unfold pairsOk at hP
      have := List.all_eq_true.1 hP k (List.mem_range.2 hkl)
      simp only [hk, Bool.and_eq_true] at this
      have := List.all_eq_true.1 this.2 j (List.mem_range.2 h)
      simp only [hj, Bool.or_eq_true, List.contains_iff_mem] at this
      rcases this with h1 | h1
      · have hok : all.toList[k]? = some all.toList[k] := List.getElem?_eq_getElem (by omega)
        have := anc_ok hT hdc k _ hok (hdc k _ hok hD) j h1
        rw [hnj] at this; simp at this
      · rcases hcon2 hkj with h2 | h2
        · rw [h2] at h1; simp at h1
        · omega
end main
end
end
end Go.Sx
