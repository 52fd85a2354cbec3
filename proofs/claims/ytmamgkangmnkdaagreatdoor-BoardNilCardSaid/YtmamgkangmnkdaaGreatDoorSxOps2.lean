/- SX, part 4: structs, arrays, slices, addresses, interfaces. -/
import Derived.Test.YtmamgkangmnkdaaGreatDoorSxOps
namespace Go.Sx
open Go
noncomputable section
section
variable {P : Program} {B : Bnds} {A : List SB} {σ : Vl}

theorem run_list_mapM {α β : Type} (g : α → Sem β) (g' : α → β) (w : World) : ∀ (l : List α), (∀ x ∈ l, (g x).run P w = .ok (g' x) w) → (l.mapM g).run P w = .ok (l.map g') w
  | [], _ => by simp
  | x :: l, h => by
    have ih := run_list_mapM g g' w l (fun y hy => h y (by simp [hy]))
    simp [h x (by simp), ih]
theorem run_array_mapM {α β : Type} (g : α → Sem β) (g' : α → β) (w : World) (l : Array α) (h : ∀ x ∈ l.toList, (g x).run P w = .ok (g' x) w) : (l.mapM g).run P w = .ok (l.map g') w := by
  rw [Array.mapM_eq_mapM_toList]
  simp only [Sem.run_map, run_list_mapM g g' w l.toList h, Result.andThen_ok]
  congr 1
  apply Array.ext'
  simp

/-- The model's 'fill', on lists. -/
def fillCV (place : Nat → Option (Nat × Nat)) (cells : List CV) : List (Nat × CV) → Option (List CV)
  | [] => some cells
  | (i, v) :: rest => match place i with
    | none => none
    | some (off, size) =>
      let ds := v.cells
      if lenR ds = size then (match splS cells off ds with
        | some r => fillCV place r rest
        | none => none) else none

theorem foldl_splice (off : Nat) : ∀ (vs : List Value) (j : Nat) (arr : Array Value), off + j + vs.length ≤ arr.size →
    ((vs.zipIdx j).foldl (fun cs (p : Value × Nat) => cs.setIfInBounds (off + p.2) p.1) arr).toList = arr.toList.take (off + j) ++ vs ++ arr.toList.drop (off + j + vs.length)
  | [], j, arr, _ => by simp
  | v :: vs, j, arr, h => by
    simp only [List.length_cons] at h
    have ih := foldl_splice off vs (j + 1) (arr.setIfInBounds (off + j) v) (by simp; omega)
    simp only [List.zipIdx_cons, List.foldl_cons, List.length_cons]
    rw [ih]
    simp only [Array.toList_setIfInBounds]
    have e1 : (arr.toList.set (off + j) v).take (off + (j + 1)) = arr.toList.take (off + j) ++ [v] := by
      rw [show off + (j + 1) = off + j + 1 by omega, List.take_add_one]
      have : off + j < arr.size := by omega
      simp [List.take_set, this]
      rw [List.set_eq_of_length_le (by simp; omega)]
    have e2 : (arr.toList.set (off + j) v).drop (off + (j + 1) + vs.length) = arr.toList.drop (off + j + (vs.length + 1)) := by
      rw [List.drop_set_of_lt (by omega)]
      congr 1; omega
    rw [e1, e2]; simp

def partsOk (σ : Vl) (m : M) : List (Nat × CV) → List (Nat × Value) → Prop
  | [], [] => True
  | (i, c) :: cs, (j, v) :: vs => i = j ∧ dv σ m c = some v ∧ partsOk σ m cs vs
  | _, _ => False

theorem fillCV_ok {m : M} (place : Nat → Option (Nat × Nat)) : ∀ (ps : List (Nat × CV)) (qs : List (Nat × Value)) {cells out : List CV} {arr : Array Value}, partsOk σ m ps qs → dvs σ m cells = some arr.toList →
    fillCV place cells ps = some out → ∃ arr', Instr.fill place arr qs = some arr' ∧ dvs σ m out = some arr'.toList
  | [], [], cells, out, arr, _, hc, h => by simp [fillCV] at h; subst h; exact ⟨arr, rfl, hc⟩
  | [], _ :: _, _, _, _, hp, _, _ => hp.elim
  | _ :: _, [], _, _, _, hp, _, _ => hp.elim
  | (i, c) :: ps, (j, v) :: qs, cells, out, arr, ⟨hij, hv, hp⟩, hc, h => by
    subst hij
    simp only [fillCV] at h
    split at h
    · simp at h
    · rename_i off size hpl
      split at h
      · rename_i hcond
        rw [lenR_eq] at hcond
        split at h
        case h_2 => simp at h
        rename_i rc hrc
        obtain ⟨rfl, hle⟩ := splS_all hrc
        have hd := dv_cells hv
        have hl := dvs_length hd
        have hlc := dvs_length hc
        simp only [Array.length_toList] at hl hlc
        have key := foldl_splice off v.cells.toList 0 arr (by simp; omega)
        simp only [Nat.add_zero, Array.length_toList] at key
        obtain ⟨arr', h1, h2⟩ := fillCV_ok place ps qs (arr := (v.cells.toList.zipIdx 0).foldl (fun cs (p : Value × Nat) => cs.setIfInBounds (off + p.2) p.1) arr) hp
          (by rw [key]; have := dvs_append (dvs_append (dvs_take hc off) hd) (dvs_drop hc (off + c.cells.length)); rw [hl]; exact this) h
        refine ⟨arr', ?_, h2⟩
        simp only [Instr.fill, hpl]
        rw [if_neg (by simp; omega)]
        rw [← h1]
        congr 1
        rw [← Array.foldl_toList]
        simp
      · simp at h

def placesOf (P : Program) : List Field → Option (List (Nat × Nat))
  | [] => some []
  | f :: fs => (infoQ P f.type).bind fun i => (placesOf P fs).map fun l => (f.offset, i.size) :: l
theorem placesOf_ok : ∀ {fs : List Field} {l : List (Nat × Nat)}, placesOf P fs = some l → ∀ w, (fs.mapM (fun f => do pure (f.offset, ← sizeOf f.type) : Field → Sem (Nat × Nat))).run P w = .ok l w
  | [], l, h, w => by simp [placesOf] at h; subst h; simp
  | f :: fs, l, h, w => by
    simp only [placesOf, infoQ_eq, Option.bind_eq_some_iff, Option.map_eq_some_iff] at h
    obtain ⟨i, hi, l', hl', rfl⟩ := h
    have ih := placesOf_ok hl' w
    simp only [List.mapM_cons, Sem.run_bind, run_sizeOf hi, Result.andThen_ok, Sem.run_pure, ih]

def buildCV (P : Program) (t : TypeId) (parts : List (Nat × CV)) : R CV :=
  (zeroCV P t).bind fun z => match undQ P t with
    | some (.struct fields) => (R.ofOpt 60 (placesOf P fields.toList)).bind fun pl => (R.ofOpt 61 (fillCV (pl[·]?) z.cells parts)).bind fun cs => .ok (.agg cs)
    | some (.array _ elem) => match infoQ P elem with
      | some i => (R.ofOpt 62 (fillCV (fun j => some (j * i.size, i.size)) z.cells parts)).bind fun cs => .ok (.agg cs)
      | none => .bad 63
    | _ => .bad 64
theorem buildCV_ok {m : M} {t : TypeId} {ps : List (Nat × CV)} {qs : List (Nat × Value)} {c : CV} (hp : partsOk σ m ps qs) (e : buildCV P t ps = .ok c) (w : World) :
    ∃ v, (Instr.build t qs.toArray).run P w = .ok v w ∧ dv σ m c = some v := by
  unfold buildCV at e
  simp only [undQ_eq, infoQ_eq] at e
  obtain ⟨z, hz, e⟩ := R.bind_ok e
  obtain ⟨zv, hzr, hzd⟩ := zeroCV_ok (σ := σ) (m := m) hz w
  have hzc := dv_cells hzd
  split at e
  · rename_i fields hu
    obtain ⟨pl, hpl, e⟩ := R.bind_ok e
    obtain ⟨cs, hcs, e⟩ := R.bind_ok e
    simp at e; subst e
    obtain ⟨arr', h1, h2⟩ := fillCV_ok (pl[·]?) ps qs hp hzc (R.ofOpt_ok hcs)
    refine ⟨.agg arr', ?_, by simp [dv, h2]⟩
    have hm := placesOf_ok (R.ofOpt_ok hpl) w
    simp only [Instr.build, Sem.run_bind, hzr, Result.andThen_ok, run_underlying hu]
    rw [Array.mapM_eq_mapM_toList]
    simp only [Sem.run_map, hm, Result.andThen_ok]
    simp [h1]
  · rename_i n elem hu
    split at e
    · rename_i i hi
      obtain ⟨cs, hcs, e⟩ := R.bind_ok e
      simp at e; subst e
      obtain ⟨arr', h1, h2⟩ := fillCV_ok _ ps qs hp hzc (R.ofOpt_ok hcs)
      refine ⟨.agg arr', ?_, by simp [dv, h2]⟩
      simp only [Instr.build, Sem.run_bind, hzr, Result.andThen_ok, run_underlying hu, run_sizeOf hi]
      simp [h1]
    · simp at e
  · simp at e

/-- So many zeros. -/
def reps (n : Nat) (z : List CV) : List CV := (List.replicate n z).flatten
theorem zero_cells (z : Array Value) : ∀ (n : Nat), ((Array.range (n * z.size)).map (z[· % z.size]!)).toList = (List.replicate n z.toList).flatten := by
  intro n
  apply List.ext_getElem?
  intro i
  induction n generalizing i with
  | zero => simp
  | succ n ih =>
    simp only [List.replicate_succ, List.flatten_cons]
    by_cases hi : i < z.size
    · rw [List.getElem?_append_left (by simpa using hi)]
      have h2 : i < (n + 1) * z.size := by rw [Nat.succ_mul]; omega
      simp only [Array.toList_map, Array.toList_range, List.getElem?_map, List.getElem?_range h2, Option.map_some]
      rw [Nat.mod_eq_of_lt hi]
      simp [hi]
    · rw [List.getElem?_append_right (by simp; omega)]
      simp only [Array.length_toList]
      rw [← ih]
      simp only [Array.toList_map, Array.toList_range, List.getElem?_map]
      by_cases h2 : i < (n + 1) * z.size
      · have h3 : i - z.size < n * z.size := by rw [Nat.succ_mul] at h2; omega
        rw [List.getElem?_range h2, List.getElem?_range h3]
        simp only [Option.map_some]
        congr 2
        rw [Nat.mod_eq_sub_mod (by omega)]
      · have h3 : ¬ (i - z.size < n * z.size) := by rw [Nat.succ_mul] at h2; omega
        rw [List.getElem?_eq_none (by simp; omega), List.getElem?_eq_none (by simp; omega)]
theorem dvs_reps {m : M} {z : List CV} {vs : List Value} (h : dvs σ m z = some vs) : ∀ n, dvs σ m (reps n z) = some (List.replicate n vs).flatten
  | 0 => by simp [reps, dvs]
  | n + 1 => by
    have ih := dvs_reps h n
    simp only [reps, List.replicate_succ, List.flatten_cons] at ih ⊢
    exact dvs_append h ih

def buildSliceCV (P : Program) (h : Heap) (t : TypeId) (len : Nat) (parts : List (Nat × CV)) : R (CV × Heap) :=
  match undQ P t with
  | some (.slice elem) => match infoQ P elem with
    | some i => if len * i.size > 2 ^ 24 ∨ i.size = 0 then .bad 65 else
      (zeroCV P elem).bind fun z =>
        if z.cells.length = i.size then
          (R.ofOpt 66 (fillCV (fun j => some (j * i.size, i.size)) (reps len z.cells) parts)).bind fun cs =>
            (R.ofOpt 67 (h.new (.cells cs elem false))).bind fun h' => .ok (.slice h.n 0 len len, h')
        else .bad 68
    | none => .bad 69
  | _ => .bad 70
theorem buildSliceCV_ok {m : M} {h h' : Heap} {w : World} (r : Rep σ m h w) {t : TypeId} {len : Nat} {ps : List (Nat × CV)} {qs : List (Nat × Value)} {c : CV} (hp : partsOk σ m ps qs) (e : buildSliceCV P h t len ps = .ok (c, h')) (hN : h'.n ≤ σ.N) :
    ∃ v w' m', (Instr.buildSlice t len qs.toArray).run P w = .ok v w' ∧ dv σ m' c = some v ∧ Rep σ m' h' w' ∧ Evo h m w h' m' w' := by
  unfold buildSliceCV at e
  simp only [undQ_eq, infoQ_eq] at e
  split at e
  · rename_i elem hu
    split at e
    · rename_i i hi
      split at e
      · simp at e
      · rename_i hsz
        obtain ⟨z, hz, e⟩ := R.bind_ok e
        obtain ⟨zv, hzr, hzd⟩ := zeroCV_ok (σ := σ) (m := m) hz w
        have hzc := dv_cells hzd
        split at e
        · rename_i hzl
          obtain ⟨cs, hcs, e⟩ := R.bind_ok e
          obtain ⟨h2, hn, e⟩ := R.bind_ok e
          simp at e; obtain ⟨rfl, rfl⟩ := e
          have hlz := dvs_length hzc
          simp only [Array.length_toList] at hlz
          have hcells : ((Array.range (len * i.size)).map ((if len * i.size = 0 then #[] else zv.cells)[· % (if len * i.size = 0 then #[] else zv.cells).size]!)).toList = (List.replicate len zv.cells.toList).flatten := by
            by_cases h0 : len * i.size = 0
            · have hl0 : len = 0 := by rcases Nat.mul_eq_zero.1 h0 with h1 | h1 <;> omega
              subst hl0; simp
            · simp only [h0, if_false]
              rw [← zero_cells zv.cells len, ← hzl, hlz]
          obtain ⟨arr', h1, h2'⟩ := fillCV_ok (fun j => some (j * i.size, i.size)) ps qs (arr := (Array.range (len * i.size)).map ((if len * i.size = 0 then #[] else zv.cells)[· % (if len * i.size = 0 then #[] else zv.cells).size]!)) hp
            (by rw [hcells]; exact dvs_reps hzc len) (R.ofOpt_ok hcs)
          obtain ⟨m', _, hm', hle, hr, hev⟩ := r.newCells h2' [] false (fun _ => rfl) (R.ofOpt_ok hn) hN
          refine ⟨.slice (some ⟨w.heap.size, 0, none⟩) len len, _, m', ?_, by simp [dv, hm'], hr, hev⟩
          simp only [Instr.buildSlice, Sem.run_bind, run_underlying hu, Result.andThen_ok, run_sizeOf hi]
          rw [if_neg (by omega)]
          by_cases h0 : len * i.size = 0
          · have hl0 : len = 0 := by rcases Nat.mul_eq_zero.1 h0 with h1 | h1 <;> omega
            subst hl0
            have hr0 : Array.range 0 = #[] := rfl
            simp only [Nat.zero_mul, if_true, hr0, Array.map_empty] at h1 ⊢
            simp only [Sem.run_bind, Sem.run_pure, Result.andThen_ok]
            simp [h1, newRow]
          · simp only [h0, if_false] at h1 ⊢
            simp only [Sem.run_bind, hzr, Sem.run_pure, Result.andThen_ok]
            simp [h1, newRow]
        · simp at e
    · simp at e
  · simp at e
end
end
end Go.Sx
