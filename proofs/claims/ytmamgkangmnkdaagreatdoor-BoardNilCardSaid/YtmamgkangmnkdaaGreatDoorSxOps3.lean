/- SX, part 5: addresses, slices, conversions, interfaces, maps. -/
import Derived.Test.YtmamgkangmnkdaaGreatDoorSxOps2
namespace Go.Sx
open Go
noncomputable section
section
variable {P : Program} {B : Bnds} {A : List SB} {σ : Vl}

def fieldAddrCV (P : Program) (s : TypeId) (x : CV) (field : Nat) : R CV :=
  match undQ P s with
  | some (.struct fields) => match fields[field]? with
    | some f => match infoQ P f.type with
      | some i => if i.size = 0 then .bad 80 else match x with
        | .ptr id off => .ok (.ptr id (off + f.offset))
        | _ => .bad 81
      | none => .bad 82
    | none => .bad 83
  | _ => .bad 84
theorem fieldAddrCV_ok {m : M} {s : TypeId} {x c : CV} {v : Value} {field : Nat} (hx : dv σ m x = some v) (e : fieldAddrCV P s x field = .ok c) (w : World) :
    ∃ u, (Instr.fieldAt s v field).run P w = .ok u w ∧ dv σ m c = some u := by
  unfold fieldAddrCV at e
  simp only [undQ_eq, infoQ_eq] at e
  split at e
  · rename_i fields hu
    split at e
    · rename_i f hf
      split at e
      · rename_i i hi
        split at e
        · simp at e
        · rename_i hsz
          split at e
          · rename_i id off
            simp at e; subst e
            simp only [dv, Option.map_eq_some_iff] at hx ⊢
            obtain ⟨⟨b, n⟩, hm, rfl⟩ := hx
            refine ⟨_, ?_, ⟨(b, n), hm, rfl⟩⟩
            simp only [Instr.fieldAt, Sem.run_bind, run_underlying hu, Result.andThen_ok, hf, Instr.sureAddr, Sem.run_pure, fieldPlace, run_sizeOf hi]
            rw [if_neg hsz, add_none]
            simp
          · simp at e
      · simp at e
    · simp at e
  · simp at e

def partCV (P : Program) (t : TypeId) (cs : List CV) (off : Nat) : R CV :=
  match undQ P t with
  | some d => if aggD d then match infoQ P t with
      | some i => .ok (.agg (takeR (dropR cs off) i.size))
      | none => .bad 85
    else R.ofOpt 86 (getR cs off)
  | none => .bad 87
theorem partCV_ok {m : M} {t : TypeId} {cs : List CV} {arr : Array Value} {off : Nat} {c : CV} (hc : dvs σ m cs = some arr.toList) (e : partCV P t cs off = .ok c) (w : World) :
    ∃ u, (part t arr off).run P w = .ok u w ∧ dv σ m c = some u := by
  unfold partCV at e
  simp only [undQ_eq, infoQ_eq, takeR_eq, dropR_eq, getR_eq] at e
  split at e
  · rename_i d hd
    split at e
    · rename_i hagg
      split at e
      · rename_i i hi
        simp at e; subst e
        refine ⟨.agg (arr.extract off (off + i.size)), ?_, ?_⟩
        · simp [part, run_isAgg hd, hagg, run_sizeOf hi]
        · simp only [dv, dvs_take (dvs_drop hc off) i.size, Option.map_some, Option.some.injEq, Value.agg.injEq]
          apply Array.ext'
          simp [List.extract_eq_take_drop]
      · simp at e
    · rename_i hagg
      obtain ⟨v, hv, hd'⟩ := dvs_get_some hc (R.ofOpt_ok e)
      refine ⟨v, ?_, hd'⟩
      have : arr[off]? = some v := by simpa using hv
      simp [part, run_isAgg hd, hagg, this]
  · simp at e

def fieldCV (P : Program) (t : TypeId) (x : CV) (field : Nat) : R CV :=
  match undQ P t with
  | some (.struct fields) => match fields[field]? with
    | some f => match x with
      | .agg cs => partCV P f.type cs f.offset
      | _ => .bad 88
    | none => .bad 89
  | _ => .bad 90
theorem fieldCV_ok {m : M} {t : TypeId} {x c : CV} {v : Value} {field : Nat} (hx : dv σ m x = some v) (e : fieldCV P t x field = .ok c) (w : World) :
    ∃ u, (Instr.field t v field).run P w = .ok u w ∧ dv σ m c = some u := by
  unfold fieldCV at e
  simp only [undQ_eq] at e
  split at e
  · rename_i fields hu
    split at e
    · rename_i f hf
      split at e
      · rename_i cs
        simp only [dv, Option.map_eq_some_iff] at hx
        obtain ⟨vs, hvs, rfl⟩ := hx
        obtain ⟨u, hu1, hu2⟩ := partCV_ok (arr := vs.toArray) (by simpa using hvs) e w
        refine ⟨u, ?_, hu2⟩
        simp [Instr.field, run_underlying hu, hf, asAgg, hu1]
      · simp at e
    · simp at e
  · simp at e

/-- A number that is known. -/
def litOf (i : CV) : R (IntKind × Int) :=
  match i with
  | .int k (.lit n) => .ok (k, n)
  | .int _ _ => .bad 91
  | _ => .bad 92
theorem litOf_ok {m : M} {i : CV} {k : IntKind} {n : Int} {v : Value} (e : litOf i = .ok (k, n)) (hv : dv σ m i = some v) : v = .int k n := by
  unfold litOf at e
  split at e
  · simp at e; obtain ⟨rfl, rfl⟩ := e
    simp [dv, SI.den] at hv; exact hv.symm
  · simp at e
  · simp at e

/-- A number that is not known, but one of few, becomes known. -/
def force (B : Bnds) (A : List SB) (i : CV) : R CV :=
  match i with
  | .int k (.lit n) => .ok (.int k (.lit n))
  | .int k e => match (e.pin (B.cuts A) A).rng (B.cuts A) A with
    | some (l, h) => if h < l + 64 ∧ l ≤ h then go k (e.pin (B.cuts A) A) l (h - l).toNat else .bad 93
    | none => .bad 94
  | c => .ok c
where go (k : IntKind) (e : SI) (l : Int) : Nat → R CV
  | 0 => .ok (.int k (.lit l))
  | n + 1 => (R.dec B A (.eq e (.lit l))).bind fun b => if b then .ok (.int k (.lit l)) else go k e (l + 1) n
theorem force_go_ok (hB : B.ok σ) (hA : Holds σ A) {m : M} {k : IntKind} {e : SI} : ∀ (n : Nat) (l : Int) {c : CV}, l ≤ e.den σ → e.den σ ≤ l + n → force.go B A k e l n = .ok c → dv σ m c = some (.int k (e.den σ))
  | 0, l, c, h1, h2, h => by
    simp [force.go] at h; subst h
    have : e.den σ = l := by omega
    simp [dv, SI.den, this]
  | n + 1, l, c, h1, h2, h => by
    simp only [force.go] at h
    obtain ⟨b, hb, h⟩ := R.bind_ok h
    have := R.dec_ok hB hA hb
    split at h
    · rename_i hb'; subst hb'
      simp at h; subst h
      simp [SB.den, SI.den] at this
      simp [dv, SI.den, this]
    · rename_i hb'
      simp only [Bool.not_eq_true] at hb'; subst hb'
      simp only [SB.den, SI.den, beq_eq_false_iff_ne] at this
      exact force_go_ok hB hA n _ (by omega) (by omega) h
theorem force_ok (hB : B.ok σ) (hA : Holds σ A) {m : M} {i c : CV} (e : force B A i = .ok c) : dv σ m c = dv σ m i := by
  unfold force at e
  split at e
  · simp at e; subst e; rfl
  · split at e
    · rename_i hr
      have hr := SI.rng_ok (Bnds.cuts_ok hB hA) hA _ hr
      split at e
      · rename_i hc
        rw [force_go_ok hB hA _ _ hr.1 (by omega) e, SI.den_pin (Bnds.cuts_ok hB hA) hA]; rfl
      · simp at e
    · simp at e
  · simp at e; subst e; rfl

def indexAddrCV (P : Program) (B : Bnds) (A : List SB) (h : Heap) (t : TypeId) (x i : CV) : R CV :=
  (force B A i).bind fun i => (litOf i).bind fun (_, n) =>
  match undQ P t, x with
  | some (.array len elem), .ptr id off => match infoQ P elem with
    | some j => if 0 ≤ n ∧ n < len then .ok (.ptr id (off + n.toNat * j.size)) else .bad 96
    | none => .bad 97
  | some (.slice elem), .slice id off len _ => match infoQ P elem with
    | some j => if 0 ≤ n ∧ n < len then .ok (.ptr id (off + n.toNat * j.size)) else .bad 98
    | none => .bad 99
  | some (.slice elem), .oslice id sz off _ len => match infoQ P elem, h.obj id with
    | some j, some (.cells cs _ _) => if 0 ≤ n ∧ n < len ∧ j.size = sz ∧ 0 < sz ∧ (off + len) * sz ≤ cs.length then .ok (.ptr id (off * sz + n.toNat * sz)) else .bad 100
    | _, _ => .bad 101
  | _, _ => .bad 102
theorem indexAddrCV_ok (hB : B.ok σ) (hA : Holds σ A) {m : M} {h : Heap} {w : World} (r : Rep σ m h w) {t : TypeId} {x i c : CV} {v vi : Value} (hx : dv σ m x = some v) (hi : dv σ m i = some vi) (e : indexAddrCV P B A h t x i = .ok c) :
    ∃ u, (Instr.indexAt t v vi).run P w = .ok u w ∧ dv σ m c = some u := by
  unfold indexAddrCV at e
  simp only [undQ_eq, infoQ_eq] at e
  replace e := R.bind_ok e; obtain ⟨i', hf, e⟩ := e
  replace e := R.bind_ok e; obtain ⟨⟨k, n⟩, hl, e⟩ := e
  have hi' := litOf_ok (σ := σ) (m := m) hl (by rw [force_ok hB hA hf]; exact hi)
  subst hi'
  try simp only at e
  split at e
  · rename_i len elem id off hu
    split at e
    · rename_i j hj
      split at e
      · rename_i hn
        simp at e; subst e
        simp only [dv, Option.map_eq_some_iff] at hx ⊢
        obtain ⟨⟨b, q⟩, hm, rfl⟩ := hx
        refine ⟨_, ?_, ⟨(b, q), hm, rfl⟩⟩
        simp [Instr.indexAt, asIntOf, run_underlying hu, Instr.sureAddr, hn.1, hn.2, run_sizeOf hj, add_none]
      · simp at e
    · simp at e
  · rename_i elem id off len cap hu
    split at e
    · rename_i j hj
      split at e
      · rename_i hn
        simp at e; subst e
        simp only [dv, Option.map_eq_some_iff] at hx ⊢
        obtain ⟨⟨b, q⟩, hm, rfl⟩ := hx
        refine ⟨_, ?_, ⟨(b, q), hm, rfl⟩⟩
        simp [Instr.indexAt, asIntOf, run_underlying hu, hn.1, hn.2, run_sizeOf hj, add_none]
      · simp at e
    · simp at e
  · rename_i elem id sz off base len hu
    split at e
    · rename_i j cs el opn hj ho
      split at e
      · rename_i hn
        obtain ⟨hn1, hn2, hn3, hn4, hn5⟩ := hn
        simp at e; subst e
        simp only [dv, Option.map_eq_some_iff] at hx ⊢
        obtain ⟨⟨b, q⟩, hm, rfl⟩ := hx
        have hq := r.cap_ge ho hm
        have hne : q / sz ≠ off := by
          have h1 : (off + len) * sz ≤ q := by omega
          have h2 : off + len ≤ q / sz := (Nat.le_div_iff_mul_le hn4).2 h1
          omega
        refine ⟨_, ?_, ⟨(b, q), hm, rfl⟩⟩
        simp only [if_neg hne]
        simp [Instr.indexAt, asIntOf, run_underlying hu, hn1, hn2, run_sizeOf hj, add_none, hn3]
      · simp at e
    · simp at e
  · simp at e

/-- How many places behind this one hold the same. -/
def sameRun (look : Int → R CV) (c : CV) : Int → Nat → Nat
  | _, 0 => 0
  | l, n + 1 => match look (l + 1) with
    | .ok c' => if CV.same c' c then sameRun look c (l + 1) n + 1 else 0
    | _ => 0
theorem sameRun_ok {look : Int → R CV} {c : CV} : ∀ {n : Nat} {l : Int}, look l = .ok c → ∀ j, l ≤ j → j ≤ l + sameRun look c l n → look j = .ok c
  | 0, l, h, j, h1, h2 => by
    simp only [sameRun] at h2
    obtain rfl : j = l := by omega
    exact h
  | n + 1, l, h, j, h1, h2 => by
    by_cases e : j = l
    · subst e; exact h
    · simp only [sameRun] at h2
      split at h2
      · rename_i c' hc
        split at h2
        · rename_i hs
          have := CV.same_ok _ _ hs
          subst this
          exact sameRun_ok (n := n) hc j (by omega) (by omega)
        · omega
      · omega

/-- What lies at a place that is known in part: by runs of the same. -/
def atRuns (B : Bnds) (A : List SB) (look : Int → R CV) (e : SI) : Nat → Int → Nat → R CV
  | 0, _, _ => .bad 265
  | f + 1, l, n => (look l).bind fun c =>
    let r := sameRun look c l n
    if n ≤ r then .ok c else
    (R.dec B A (.lt e (.lit (l + r + 1)))).bind fun b => if b then .ok c else atRuns B A look e f (l + r + 1) (n - r - 1)
theorem atRuns_ok (hB : B.ok σ) (hA : Holds σ A) {look : Int → R CV} {e : SI} : ∀ (f : Nat) (l : Int) (n : Nat) {c : CV}, l ≤ e.den σ → e.den σ ≤ l + n → atRuns B A look e f l n = .ok c → look (e.den σ) = .ok c
  | 0, _, _, c, _, _, h => by simp [atRuns] at h
  | f + 1, l, n, c, h1, h2, h => by
    simp only [atRuns] at h
    replace h := R.bind_ok h; obtain ⟨c', hc, h⟩ := h
    split at h
    · simp at h; subst h
      exact sameRun_ok (n := n) hc _ h1 (by omega)
    · replace h := R.bind_ok h; obtain ⟨b, hb, h⟩ := h
      have hd := R.dec_ok hB hA hb
      split at h
      · rename_i hb'; subst hb'
        simp at h; subst h
        replace hd := of_decide_eq_true (show decide (e.den σ < l + (sameRun look c' l n : Nat) + 1) = true from hd)
        exact sameRun_ok (n := n) hc _ h1 (by omega)
      · rename_i hb'
        simp only [Bool.not_eq_true] at hb'; subst hb'
        replace hd := of_decide_eq_false (show decide (e.den σ < l + (sameRun look c' l n : Nat) + 1) = false from hd)
        exact atRuns_ok hB hA f _ _ (by omega) (by omega) h

def indexCV (P : Program) (B : Bnds) (A : List SB) (t : TypeId) (x i : CV) : R CV :=
  match undQ P t, x with
  | some (.array len elem), .agg cs => match infoQ P elem, i with
    | some j, .int _ e => match (e.pin (B.cuts A) A).rng (B.cuts A) A with
      | some (l, h) => if 0 ≤ l ∧ l ≤ h ∧ h < len ∧ h < l + 64 then atRuns B A (fun n => partCV P elem cs (n.toNat * j.size)) (e.pin (B.cuts A) A) 64 l (h - l).toNat else .bad 103
      | none => .bad 108
    | _, _ => .bad 104
  | some .string, .str s => (force B A i).bind fun i => (litOf i).bind fun (_, n) => if 0 ≤ n then match s[n.toNat]? with
    | some b => .ok (.int .u8 (.lit b.toNat))
    | none => .bad 105
    else .bad 106
  | _, _ => .bad 107
theorem indexCV_ok (hB : B.ok σ) (hA : Holds σ A) {m : M} {t : TypeId} {x i c : CV} {v vi : Value} (hx : dv σ m x = some v) (hi : dv σ m i = some vi) (e : indexCV P B A t x i = .ok c) (w : World) :
    ∃ u, (Instr.index t v vi).run P w = .ok u w ∧ dv σ m c = some u := by
  unfold indexCV at e
  simp only [undQ_eq, infoQ_eq] at e
  split at e
  · rename_i len elem cs hu
    split at e
    · rename_i j k se hj
      split at e
      · rename_i l h hr
        have hr := SI.rng_ok (Bnds.cuts_ok hB hA) hA _ hr
        split at e
        · rename_i hn
          simp only [dv, Option.map_eq_some_iff] at hx
          obtain ⟨vs, hvs, rfl⟩ := hx
          simp only [dv, Option.some.injEq] at hi
          subst hi
          have e := atRuns_ok hB hA _ _ _ hr.1 (by omega) e
          rw [SI.den_pin (Bnds.cuts_ok hB hA) hA] at e hr
          obtain ⟨u, hu1, hu2⟩ := partCV_ok (arr := vs.toArray) (by simpa using hvs) e w
          refine ⟨u, ?_, hu2⟩
          have h0 : 0 ≤ se.den σ := by omega
          have h1 : se.den σ < len := by omega
          simp [Instr.index, asIntOf, run_underlying hu, h0, h1, run_sizeOf hj, hu1]
        · simp at e
      · simp at e
    · simp at e
  · rename_i s hu
    replace e := R.bind_ok e; obtain ⟨i', hf, e⟩ := e
    replace e := R.bind_ok e; obtain ⟨⟨k, n⟩, hl, e⟩ := e
    have hi' := litOf_ok (σ := σ) (m := m) hl (by rw [force_ok hB hA hf]; exact hi)
    subst hi'
    try simp only at e
    split at e
    · rename_i hn
      split at e
      · rename_i b hb
        simp at e; subst e
        simp [dv] at hx; subst hx
        refine ⟨.int .u8 b.toNat, ?_, by simp [dv, SI.den]⟩
        have : (ByteArray.mk s.toArray)[n.toNat]? = some b := by
          have hlt : n.toNat < s.length := (List.getElem?_eq_some_iff.1 hb).1
          rw [getElem?_pos (ByteArray.mk s.toArray) n.toNat (by simpa [ByteArray.size] using hlt), ← (List.getElem?_eq_some_iff.1 hb).2]
          rfl
        simp [Instr.index, asIntOf, run_underlying hu, hn, this]
      · simp at e
    · simp at e
  · simp at e

def convCV (P : Program) (B : Bnds) (A : List SB) (src dst : TypeId) (x : CV) : R CV :=
  match undQ P src, undQ P dst, x with
  | some _, some (.int k), .int _ n => .ok (.int k ((SI.wrap' B k n).pin (B.cuts A) A))
  | some _, some .string, .str s => .ok (.str s)
  | _, _, _ => .bad 108
theorem convCV_ok (hB : B.ok σ) (hA : Holds σ A) {m : M} {src dst : TypeId} {x c : CV} {v : Value} (hx : dv σ m x = some v) (e : convCV P B A src dst x = .ok c) (w : World) :
    ∃ u, (convert src dst v).run P w = .ok u w ∧ dv σ m c = some u := by
  unfold convCV at e
  simp only [undQ_eq] at e
  split at e
  · rename_i d k k' n hs hd
    simp [dv] at hx; subst hx
    simp at e; subst e
    refine ⟨_, ?_, rfl⟩
    simp [convert, run_underlying hs, run_underlying hd, Conv.intToInt, SI.den_pin (Bnds.cuts_ok hB hA) hA, SI.den_wrap' hB]
  · rename_i d s hs hd
    simp [dv] at hx; subst hx
    simp at e; subst e
    refine ⟨_, ?_, rfl⟩
    simp [convert, run_underlying hs, run_underlying hd]
  · simp at e

def unCV (B : Bnds) (A : List SB) (op : UnOp) (x : CV) : R CV :=
  match op, x with
  | .not, .bool b => .ok (.bool (SB.nrm B A b.neg))
  | .neg, .int k n => .ok (.int k ((SI.wrap' B k (SI.sub' (.lit 0) n)).pin (B.cuts A) A))
  | .xor, .int k n => .ok (.int k ((SI.bits' .xor k (.lit (if k.signed then -1 else k.max)) n).pin (B.cuts A) A))
  | _, _ => .bad 109
theorem unCV_ok (hB : B.ok σ) (hA : Holds σ A) {m : M} {op : UnOp} {x c : CV} {v : Value} (hx : dv σ m x = some v) (e : unCV B A op x = .ok c) (w : World) :
    ∃ u, (Op.unary op v).run P w = .ok u w ∧ dv σ m c = some u := by
  unfold unCV at e
  split at e
  · simp [dv] at hx; subst hx
    simp at e; subst e
    refine ⟨_, ?_, rfl⟩
    simp [Op.unary, SB.den_nrm hB hA, SB.den_neg]
  · simp [dv] at hx; subst hx
    simp at e; subst e
    refine ⟨_, ?_, rfl⟩
    simp [Op.unary, Op.intArith, SI.den_pin (Bnds.cuts_ok hB hA) hA, SI.den_wrap' hB, SI.den_sub', SI.den]
  · simp [dv] at hx; subst hx
    simp at e; subst e
    refine ⟨_, ?_, rfl⟩
    simp [Op.unary, Op.intBits, SI.den_pin (Bnds.cuts_ok hB hA) hA, SI.den_bits', SI.den, bitsDen]
  · simp at e

/-- A bound of a slice. -/
def boundCV (B : Bnds) (A : List SB) (x : Option CV) (dflt : Nat) : R Nat :=
  match x with
  | none => .ok dflt
  | some i => (force B A i).bind fun i => (litOf i).bind fun (_, n) => if 0 ≤ n then .ok n.toNat else .bad 110

/-- What the model's bounds come to, if they are right. -/
theorem run_sliceBound {k : IntKind} {n : Int} {y : Nat} {code : BoundsCode} (h : 0 ≤ n ∧ n ≤ y) (w : World) : (Instr.sliceBound (.int k n) y code).run P w = .ok n.toNat w := by
  simp [Instr.sliceBound, asIntOf, h.1, h.2]

def optDv (σ : Vl) (m : M) : Option CV → Option Value → Prop
  | none, none => True
  | some c, some v => dv σ m c = some v
  | _, _ => False

theorem boundCV_ok (hB : B.ok σ) (hA : Holds σ A) {m : M} {x : Option CV} {v : Option Value} {dflt n : Nat} (hx : optDv σ m x v) (e : boundCV B A x dflt = .ok n) :
    (v = none ∧ n = dflt) ∨ ∃ k z, v = some (.int k z) ∧ 0 ≤ z ∧ z.toNat = n := by
  unfold boundCV at e
  split at e
  · simp at e; subst e
    cases v with
    | none => exact .inl ⟨rfl, rfl⟩
    | some u => exact hx.elim
  · rename_i i
    replace e := R.bind_ok e; obtain ⟨i', hf, e⟩ := e
    replace e := R.bind_ok e; obtain ⟨⟨k, z⟩, hl, e⟩ := e
    try simp only at e
    split at e
    · rename_i hz
      simp at e; subst e
      cases v with
      | none => exact hx.elim
      | some u =>
        have := litOf_ok (σ := σ) (m := m) hl (by rw [force_ok hB hA hf]; exact hx)
        subst this
        exact .inr ⟨k, z, rfl, hz, rfl⟩
    · simp at e

theorem run_sliceBounds {isSlice : Bool} {len cap l h mm : Nat} {lo hi mx : Option Value} (hlo : (lo = none ∧ l = 0) ∨ ∃ k z, lo = some (.int k z) ∧ 0 ≤ z ∧ z.toNat = l)
    (hhi : (hi = none ∧ h = len) ∨ ∃ k z, hi = some (.int k z) ∧ 0 ≤ z ∧ z.toNat = h) (hmx : (mx = none ∧ mm = cap) ∨ ∃ k z, mx = some (.int k z) ∧ 0 ≤ z ∧ z.toNat = mm)
    (hm : mx.isSome = true → hi.isSome = true) (h1 : l ≤ h) (h2 : h ≤ mm) (h3 : mm ≤ cap) (w : World) : (Instr.sliceBounds isSlice len cap lo hi mx).run P w = .ok (l, h, mm) w := by
  rcases hmx with ⟨rfl, rfl⟩ | ⟨km, zm, rfl, hzm, rfl⟩
  · rcases hhi with ⟨rfl, rfl⟩ | ⟨kh, zh, rfl, hzh, rfl⟩
    · rcases hlo with ⟨rfl, rfl⟩ | ⟨kl, zl, rfl, hzl, rfl⟩
      · simp [Instr.sliceBounds]
      · simp [Instr.sliceBounds, run_sliceBound (P := P) (k := kl) (n := zl) (y := h) ⟨hzl, by omega⟩]
    · rcases hlo with ⟨rfl, rfl⟩ | ⟨kl, zl, rfl, hzl, rfl⟩
      · simp [Instr.sliceBounds, run_sliceBound (P := P) (k := kh) (n := zh) (y := mm) ⟨hzh, by omega⟩]
      · simp [Instr.sliceBounds, run_sliceBound (P := P) (k := kh) (n := zh) (y := mm) ⟨hzh, by omega⟩, run_sliceBound (P := P) (k := kl) (n := zl) (y := zh.toNat) ⟨hzl, by omega⟩]
  · rcases hhi with ⟨rfl, rfl⟩ | ⟨kh, zh, rfl, hzh, rfl⟩
    · simp at hm
    · rcases hlo with ⟨rfl, rfl⟩ | ⟨kl, zl, rfl, hzl, rfl⟩
      · simp [Instr.sliceBounds, run_sliceBound (P := P) (k := km) (n := zm) (y := cap) ⟨hzm, by omega⟩, run_sliceBound (P := P) (k := kh) (n := zh) (y := zm.toNat) ⟨hzh, by omega⟩]
      · simp [Instr.sliceBounds, run_sliceBound (P := P) (k := km) (n := zm) (y := cap) ⟨hzm, by omega⟩, run_sliceBound (P := P) (k := kh) (n := zh) (y := zm.toNat) ⟨hzh, by omega⟩, run_sliceBound (P := P) (k := kl) (n := zl) (y := zh.toNat) ⟨hzl, by omega⟩]
end
end
end Go.Sx
