/- SX, part 6: slicing, append, copy, len. -/
import Derived.Test.YtmamgkangmnkdaaGreatDoorSxOps3
namespace Go.Sx
open Go
noncomputable section
section
variable {P : Program} {B : Bnds} {A : List SB} {σ : Vl}

def sliceCV (P : Program) (B : Bnds) (A : List SB) (h : Heap) (t : TypeId) (x : CV) (lo hi mx : Option CV) : R CV :=
  if mx.isSome ∧ hi.isNone then .bad 120 else
  match undQ P t, x with
  | some (.array n elem), .ptr id off => match infoQ P elem with
    | some i => (boundCV B A lo 0).bind fun l => (boundCV B A hi n).bind fun h => (boundCV B A mx n).bind fun m =>
      if l ≤ h ∧ h ≤ m ∧ m ≤ n then .ok (.slice id (if m = l then off else off + l * i.size) (h - l) (m - l)) else .bad 121
    | none => .bad 122
  | some (.slice elem), .slice id off len cap => match infoQ P elem with
    | some i => (boundCV B A lo 0).bind fun l => (boundCV B A hi len).bind fun h => (boundCV B A mx cap).bind fun m =>
      if l ≤ h ∧ h ≤ m ∧ m ≤ cap then .ok (.slice id (if m = l then off else off + l * i.size) (h - l) (m - l)) else .bad 123
    | none => .bad 124
  | some (.slice elem), .nilslice => match infoQ P elem with
    | some _ => (boundCV B A lo 0).bind fun l => (boundCV B A hi 0).bind fun h => (boundCV B A mx 0).bind fun m =>
      if l = 0 ∧ h = 0 ∧ m = 0 then .ok .nilslice else .bad 125
    | none => .bad 126
  | some (.slice elem), .oslice id sz off base len => match infoQ P elem, h.obj id with
    | some i, some (.cells cs _ _) => (boundCV B A lo 0).bind fun l => (boundCV B A hi len).bind fun h =>
      if i.size = sz ∧ 0 < sz ∧ (off + len) * sz ≤ cs.length ∧ l ≤ h ∧ h ≤ len then
        match mx with
        | none => if l = 0 then .ok (.oslice id sz off base h) else .ok (.oslice id sz (off + l) (off * sz) (h - l))
        | some mx => (boundCV B A (some mx) 0).bind fun m =>
          if h ≤ m ∧ m ≤ len ∧ 0 < len then .ok (.slice id (if m = l then off * sz else off * sz + l * sz) (h - l) (m - l)) else .bad 127
      else .bad 128
    | _, _ => .bad 129
  | _, _ => .bad 130

theorem sliceCV_ok (hB : B.ok σ) (hA : Holds σ A) {m : M} {h : Heap} {w : World} (r : Rep σ m h w) {t : TypeId} {x c : CV} {lo hi mx : Option CV} {v : Value} {vlo vhi vmx : Option Value}
    (hx : dv σ m x = some v) (hlo : optDv σ m lo vlo) (hhi : optDv σ m hi vhi) (hmx : optDv σ m mx vmx) (e : sliceCV P B A h t x lo hi mx = .ok c) :
    ∃ u, (Instr.sliceAt t v vlo vhi vmx).run P w = .ok u w ∧ dv σ m c = some u := by
  unfold sliceCV at e
  simp only [undQ_eq, infoQ_eq] at e
  split at e
  · simp at e
  · rename_i hopt
    have hopt' : vmx.isSome = true → vhi.isSome = true := by
      intro h1
      cases vmx with
      | none => simp at h1
      | some _ =>
        cases mx with
        | none => exact hmx.elim
        | some _ =>
          cases hi with
          | none => simp at hopt
          | some _ => cases vhi with
            | none => exact hhi.elim
            | some _ => rfl
    split at e
    · rename_i n elem id off hu
      split at e
      · rename_i i hi'
        replace e := R.bind_ok e; obtain ⟨l, hl, e⟩ := e
        replace e := R.bind_ok e; obtain ⟨hh, hhh, e⟩ := e
        replace e := R.bind_ok e; obtain ⟨mm, hmm, e⟩ := e
        split at e
        · rename_i hcond
          simp at e; subst e
          have rb := run_sliceBounds (P := P) (isSlice := false) (boundCV_ok hB hA hlo hl) (boundCV_ok hB hA hhi hhh) (boundCV_ok hB hA hmx hmm) hopt' hcond.1 hcond.2.1 hcond.2.2 w
          simp only [dv, Option.map_eq_some_iff] at hx ⊢
          obtain ⟨⟨b, q⟩, hm, rfl⟩ := hx
          refine ⟨_, ?_, ⟨(b, q), hm, rfl⟩⟩
          simp only [Instr.sliceAt, Sem.run_bind, run_underlying hu, Result.andThen_ok, Instr.sureAddr, Sem.run_pure, rb, run_sizeOf hi', add_none]
          split <;> rfl
        · simp at e
      · simp at e
    · rename_i elem id off len cap hu
      split at e
      · rename_i i hi'
        replace e := R.bind_ok e; obtain ⟨l, hl, e⟩ := e
        replace e := R.bind_ok e; obtain ⟨hh, hhh, e⟩ := e
        replace e := R.bind_ok e; obtain ⟨mm, hmm, e⟩ := e
        split at e
        · rename_i hcond
          simp at e; subst e
          have rb := run_sliceBounds (P := P) (isSlice := true) (boundCV_ok hB hA hlo hl) (boundCV_ok hB hA hhi hhh) (boundCV_ok hB hA hmx hmm) hopt' hcond.1 hcond.2.1 hcond.2.2 w
          simp only [dv, Option.map_eq_some_iff] at hx ⊢
          obtain ⟨⟨b, q⟩, hm, rfl⟩ := hx
          refine ⟨_, ?_, ⟨(b, q), hm, rfl⟩⟩
          simp only [Instr.sliceAt, Instr.slice, Sem.run_bind, run_underlying hu, Result.andThen_ok, Sem.run_pure, rb, run_sizeOf hi', Option.map_some, add_none]
          split <;> rfl
        · simp at e
      · simp at e
    · rename_i elem hu
      split at e
      · rename_i i hi'
        replace e := R.bind_ok e; obtain ⟨l, hl, e⟩ := e
        replace e := R.bind_ok e; obtain ⟨hh, hhh, e⟩ := e
        replace e := R.bind_ok e; obtain ⟨mm, hmm, e⟩ := e
        split at e
        · rename_i hcond
          obtain ⟨rfl, rfl, rfl⟩ := hcond
          simp at e; subst e
          have rb := run_sliceBounds (P := P) (isSlice := true) (boundCV_ok hB hA hlo hl) (boundCV_ok hB hA hhi hhh) (boundCV_ok hB hA hmx hmm) hopt' (Nat.le_refl 0) (Nat.le_refl 0) (Nat.le_refl 0) w
          simp [dv] at hx; subst hx
          refine ⟨_, ?_, rfl⟩
          simp [Instr.sliceAt, Instr.slice, run_underlying hu, rb, run_sizeOf hi']
        · simp at e
      · simp at e
    · rename_i elem id sz off base len hu
      split at e
      · rename_i i cs el opn hi' ho
        replace e := R.bind_ok e; obtain ⟨l, hl, e⟩ := e
        replace e := R.bind_ok e; obtain ⟨hh, hhh, e⟩ := e
        split at e
        · rename_i hcond
          obtain ⟨hc1, hc2, hc3, hc4, hc5⟩ := hcond
          simp only [dv, Option.map_eq_some_iff] at hx
          obtain ⟨⟨b, q⟩, hm, rfl⟩ := hx
          have hq := r.cap_ge ho hm
          have hqs : off + len ≤ q / sz := (Nat.le_div_iff_mul_le hc2).2 (by omega)
          split at e
          · have hv0 : vmx = none := by cases vmx with
              | none => rfl
              | some _ => exact hmx.elim
            subst hv0
            have rb := run_sliceBounds (P := P) (isSlice := true) (cap := q / sz - off) (mm := q / sz - off) (mx := none) (boundCV_ok hB hA hlo hl) (boundCV_ok hB hA hhi hhh) (.inl ⟨rfl, rfl⟩) (by simp) hc4 (by omega) (Nat.le_refl _) w
            split at e
            · rename_i hl0; subst hl0
              simp at e; subst e
              refine ⟨.slice (some ⟨b, if q / sz = off then base else off * sz, none⟩) hh (q / sz - off), ?_, by simp [dv, hm]⟩
              simp only [Instr.sliceAt, Instr.slice, Sem.run_bind, run_underlying hu, Result.andThen_ok, Sem.run_pure, rb, run_sizeOf hi', Option.map_some, add_none]
              simp
            · rename_i hl0
              simp at e; subst e
              have hne : q / sz ≠ off := by omega
              refine ⟨.slice (some ⟨b, if q / sz = off + l then off * sz else (off + l) * sz, none⟩) (hh - l) (q / sz - (off + l)), ?_, by simp [dv, hm]⟩
              simp only [Instr.sliceAt, Instr.slice, Sem.run_bind, run_underlying hu, Result.andThen_ok, Sem.run_pure, rb, run_sizeOf hi', Option.map_some, add_none, if_neg hne]
              by_cases h2 : q / sz = off + l
              · rw [if_pos (by omega), if_pos h2]; congr 1; simp; omega
              · rw [if_neg (by omega), if_neg h2]; simp [hc1, Nat.add_mul]; omega
          · rename_i mx0
            replace e := R.bind_ok e; obtain ⟨mm, hmm, e⟩ := e
            split at e
            · rename_i hcm
              simp at e; subst e
              have hbm := boundCV_ok hB hA hmx hmm
              have hbm' : (vmx = none ∧ mm = q / sz - off) ∨ ∃ k z, vmx = some (.int k z) ∧ 0 ≤ z ∧ z.toNat = mm := by
                rcases hbm with ⟨h1, _⟩ | h1
                · subst h1; exact hmx.elim
                · exact .inr h1
              have rb := run_sliceBounds (P := P) (isSlice := true) (cap := q / sz - off) (boundCV_ok hB hA hlo hl) (boundCV_ok hB hA hhi hhh) hbm' hopt' hc4 hcm.1 (by omega) w
              have hne : q / sz ≠ off := by omega
              refine ⟨.slice (some ⟨b, if mm = l then off * sz else off * sz + l * sz, none⟩) (hh - l) (mm - l), ?_, by simp [dv, hm]⟩
              simp only [Instr.sliceAt, Instr.slice, Sem.run_bind, run_underlying hu, Result.andThen_ok, Sem.run_pure, rb, run_sizeOf hi', Option.map_some, add_none, if_neg hne]
              by_cases h2 : mm = l
              · rw [if_pos h2, if_pos h2]
              · rw [if_neg h2, if_neg h2]; simp [hc1]
            · simp at e
        · simp at e
      · simp at e
    · simp at e

/-- The elements of a slice: how many, and their cells. -/
def srcCV (h : Heap) (size : Nat) (x : CV) : R (Nat × List CV) :=
  match x with
  | .nilslice => .ok (0, [])
  | .slice id off len _ => match h.obj id with
    | some (.cells cs _ _) => if off + len * size ≤ cs.length then .ok (len, (cs.drop off).take (len * size)) else .bad 131
    | _ => if len = 0 then .ok (0, []) else .bad 132
  | .oslice id sz off _ len => match h.obj id with
    | some (.cells cs _ _) => if sz = size ∧ 0 < sz ∧ (off + len) * size ≤ cs.length then .ok (len, (cs.drop (off * size)).take (len * size)) else .bad 133
    | _ => .bad 134
  | _ => .bad 135

theorem srcCV_ok {m : M} {h : Heap} {w : World} (r : Rep σ m h w) {size : Nat} {x : CV} {n : Nat} {ds : List CV} {v : Value} (hx : dv σ m x = some v) (e : srcCV h size x = .ok (n, ds)) :
    ∃ vs, dvs σ m ds = some vs ∧ vs.length = n * size ∧ (∀ w', w'.heap = w.heap → (Builtin.firstCells size n v).run P w' = .ok vs.toArray w') ∧ (∀ w', (Builtin.lenOf v).run P w' = .ok n w') ∧
      ((v = .slice none 0 0 ∧ n = 0) ∨ ∃ a c, v = .slice (some a) n c ∧ ∀ j u, vs[j]? = some u → w.cell? (a.add j) = some u) := by
  unfold srcCV at e
  split at e
  · simp at e; obtain ⟨rfl, rfl⟩ := e
    simp [dv] at hx; subst hx
    exact ⟨[], by simp [dvs], by simp, fun _ _ => by simp [Builtin.firstCells], fun _ => by simp [Builtin.lenOf], .inl ⟨rfl, rfl⟩⟩
  · rename_i id off len cap
    simp only [dv, Option.map_eq_some_iff] at hx
    obtain ⟨⟨b, q⟩, hm, rfl⟩ := hx
    split at e
    · rename_i cs el opn ho
      split at e
      · rename_i hle
        simp at e; obtain ⟨rfl, rfl⟩ := e
        obtain ⟨b', n', vs, hm', _, hv, hcell, _⟩ := r.cell ho
        rw [hm] at hm'; simp at hm'; obtain ⟨rfl, rfl⟩ := hm'
        have hlen := dvs_length hv
        have hl : ((vs.drop off).take (len * size)).length = len * size := by simp; omega
        have hc : ∀ j u, ((vs.drop off).take (len * size))[j]? = some u → w.cell? ((Addr.mk b off none).add j) = some u := by
          intro j u hj
          rw [add_none]; apply hcell
          rw [List.getElem?_take] at hj
          split at hj
          · simpa using hj
          · simp at hj
        refine ⟨(vs.drop off).take (len * size), dvs_take (dvs_drop hv off) _, hl, ?_, fun _ => by simp [Builtin.lenOf], .inr ⟨_, _, rfl, hc⟩⟩
        intro w' hw'
        exact run_firstCells_some w' size len _ len cap _ hl (fun j u hj => by have := hc j u hj; simpa [World.cell?, hw'] using this)
      · simp at e
    · split at e
      · rename_i hl0; subst hl0
        simp at e; obtain ⟨rfl, rfl⟩ := e
        exact ⟨[], by simp [dvs], by simp, fun _ _ => by simp [Builtin.firstCells, loadCells, loadCellsFrom], fun _ => by simp [Builtin.lenOf], .inr ⟨_, _, rfl, by simp⟩⟩
      · simp at e
  · rename_i id sz off base len
    simp only [dv, Option.map_eq_some_iff] at hx
    obtain ⟨⟨b, q⟩, hm, rfl⟩ := hx
    split at e
    · rename_i cs el opn ho
      split at e
      · rename_i hle
        obtain ⟨rfl, h0, hle⟩ := hle
        simp at e; obtain ⟨rfl, rfl⟩ := e
        obtain ⟨b', n', vs, hm', _, hv, hcell, _⟩ := r.cell ho
        have hq := r.cap_ge ho hm
        rw [hm] at hm'; simp at hm'; obtain ⟨rfl, rfl⟩ := hm'
        have hlen := dvs_length hv
        have hle' : off * sz + len * sz ≤ vs.length := by rw [← Nat.add_mul]; omega
        have hl : ((vs.drop (off * sz)).take (len * sz)).length = len * sz := by simp; omega
        have hc : ∀ j u, ((vs.drop (off * sz)).take (len * sz))[j]? = some u → w.cell? ((Addr.mk b (if q / sz = off then base else off * sz) none).add j) = some u := by
          intro j u hj
          have hjl : j < len * sz := by
            have := (List.getElem?_eq_some_iff.1 hj).1
            omega
          have hl0 : 0 < len := by
            rcases Nat.eq_zero_or_pos len with h1 | h1
            · subst h1; omega
            · exact h1
          have hqs : off + len ≤ q / sz := (Nat.le_div_iff_mul_le h0).2 (by omega)
          rw [if_neg (by omega), add_none]; apply hcell
          rw [List.getElem?_take, if_pos hjl] at hj
          simpa using hj
        refine ⟨(vs.drop (off * sz)).take (len * sz), dvs_take (dvs_drop hv _) _, hl, ?_, fun _ => by simp [Builtin.lenOf], .inr ⟨_, _, rfl, hc⟩⟩
        intro w' hw'
        exact run_firstCells_some w' sz len _ len _ _ hl (fun j u hj => by have := hc j u hj; simpa [World.cell?, hw'] using this)
      · simp at e
    · simp at e
  · simp at e

/-- What is appended: a slice's elements, a string's bytes, or so many zeros. -/
def SrcOk (P : Program) (i : TypeInfo) (tx : TypeId) (x : Value) (n : Nat) (news : List Value) (w : World) : Prop :=
  (∃ d, P.underlying tx = some d ∧ ((∃ e', d = .slice e') ∨ d = .string) ∧ (∀ w', w'.heap = w.heap → (Builtin.firstCells i.size n x).run P w' = .ok news.toArray w') ∧ ∀ w', (Builtin.lenOf x).run P w' = .ok n w') ∨
  (∃ k q z, P.underlying tx = some (.int k) ∧ x = .int q (n : Int) ∧ n < 2 ^ 30 ∧ i.zero = some z ∧ z.cells.size = i.size ∧ news = (List.replicate n z.cells.toList).flatten)

theorem zeroCells_list (z : Array Value) (n : Nat) : (Builtin.zeroCells z n) = (List.replicate n z.toList).flatten.toArray := by
  apply Array.ext'
  rw [← zero_cells z n]
  simp [Builtin.zeroCells]

theorem wrap_nat {n : Nat} (h : n < 2 ^ 30) : IntKind.i64.wrap (n : Int) = n := by
  simp only [IntKind.wrap, IntKind.signed, IntKind.bits]
  simp
  omega

/-- What is appended, and to what, where the slice must be laid anew. -/
theorem append_grow {w : World} {t tx ty e : TypeId} {i : TypeInfo} {z : Value} (ht : P.underlying t = some (.slice e))
    (hi : P.info? e = some i) (hz : i.zero = some z) {base : Option Addr} {sLen sCap n : Nat} {x : Value} {olds news : List Value}
    (ho : ∀ w', w'.heap = w.heap → (Builtin.firstCells i.size sLen (.slice base sLen sCap)).run P w' = .ok olds.toArray w')
    (hsrc : SrcOk P i tx x n news w)
    (hg : sCap < sLen + n) (h63 : sLen + n < 2 ^ 30) (h48 : i.bytes < 2 ^ 16) :
    ∃ zs, (Builtin.append_ #[t, tx] ty #[.slice base sLen sCap, x]).run P w =
      .ok (.slice (some ⟨w.heap.size, 0, none⟩) (sLen + n) (grownCap w (sLen + n) sCap e)) (w.drew.alloc (.cells (olds ++ news ++ zs).toArray e)) ∧
      zs.length = (grownCap w (sLen + n) sCap e - (sLen + n)) * z.cells.size ∧ sLen + n ≤ grownCap w (sLen + n) sCap e := by
  have hnn : ¬ (sLen + n ≤ sCap) := by omega
  have h63' : ¬ (9223372036854775807 < ((sLen : Int) + (n : Int))) := by omega
  have hb : (sLen + n) * i.bytes ≤ 140737488355328 := by
    have : (sLen + n) * i.bytes ≤ 2 ^ 30 * 2 ^ 16 := Nat.mul_le_mul (by omega) (by omega)
    omega
  have h48' : ¬ (281474976710656 < Builtin.nextslicecap (sLen + n) sCap * i.bytes) := by
    have := growslice_fits hg hb; omega
  have hfo := ho w.drew rfl
  refine ⟨(Builtin.zeroCells z.cells (grownCap w (sLen + n) sCap e - (sLen + n))).toList, ?_, ?_, ?_⟩
  · rcases hsrc with ⟨d, htx, hd, hn, hl⟩ | ⟨k, q, z', htx, rfl, hn30, hz', hzs, rfl⟩
    · have hf := hn w.drew rfl
      rcases hd with ⟨e', rfl⟩ | rfl
      all_goals
        simp [Builtin.append_, run_underlying ht, run_sizeOf hi, run_underlying htx, hl, hnn, run_typeInfo hi, h63', h48', Question.forced, hf, hfo, run_zeroValue hi hz, newRow, grownCap]
        congr 2
        apply Array.ext'
        simp
    · rw [hz] at hz'; obtain rfl := Option.some.inj hz'
      have hw := wrap_nat hn30
      have h0 : ¬ ((n : Int) < 0) := by omega
      have hbn : n * i.bytes ≤ 2 ^ 30 * 2 ^ 16 := Nat.mul_le_mul (by omega) (by omega)
      have hb48 : ¬ (281474976710656 < (n : Int) * (i.bytes : Int)) := by
        have : (n : Int) * (i.bytes : Int) = ((n * i.bytes : Nat) : Int) := by simp
        omega
      by_cases hn0 : n * i.size = 0
      · have hnil : (List.replicate n z.cells.toList).flatten = [] := by
          apply List.eq_nil_of_length_eq_zero
          rw [List.length_flatten]; simp [hzs, hn0]
        simp [Builtin.append_, run_underlying ht, run_sizeOf hi, run_underlying htx, asInt, asIntOf, hw, h0, hb48, hnn, run_typeInfo hi, h63', h48', Question.forced, hn0, hfo, run_zeroValue hi hz, newRow, grownCap, hnil]
        congr 2
        apply Array.ext'
        simp
      · simp [Builtin.append_, run_underlying ht, run_sizeOf hi, run_underlying htx, asInt, asIntOf, hw, h0, hb48, hnn, run_typeInfo hi, h63', h48', Question.forced, hn0, hfo, run_zeroValue hi hz, newRow, grownCap]
        congr 2
        apply Array.ext'
        simp [zeroCells_list]
  · simp [Builtin.zeroCells]
  · unfold grownCap
    simp only [Question.cut]
    omega
end
end
end Go.Sx
