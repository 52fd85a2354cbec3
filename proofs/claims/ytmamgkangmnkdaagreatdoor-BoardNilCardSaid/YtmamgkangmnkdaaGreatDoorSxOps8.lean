/- SX, part 9b: make, cap, clear. -/
import Derived.Test.YtmamgkangmnkdaaGreatDoorSxOps7
import Derived.Laws.MakeOwn
namespace Go.Sx
open Go
noncomputable section
section
variable {P : Program} {B : Bnds} {A : List SB} {σ : Vl}

def makeCV (P : Program) (B : Bnds) (A : List SB) (h : Heap) (t : TypeId) (x y : CV) : R (CV × Heap) :=
  match undQ P t with
  | some (.slice e) => match infoQ P e with
    | some i => match i.zero with
      | some z => (boundCV B A (some x) 0).bind fun l => (boundCV B A (some y) 0).bind fun c =>
          if l ≤ c ∧ i.bytes * c ≤ 281474976710656 ∧ c ≤ 65536 then
            (R.ofOpt 260 (ofVals (madeCells z.cells (c * i.size)).toList)).bind fun cs => (R.ofOpt 261 (h.new (.cells cs e false))).bind fun h' => .ok (.slice h.n 0 l c, h')
          else .bad 262
      | none => .bad 263
    | none => .bad 264
  | _ => .bad 265

theorem makeCV_ok (hB : B.ok σ) (hA : Holds σ A) {m : M} {h h' : Heap} {w : World} (r : Rep σ m h w) {t : TypeId} {x y c : CV} {vx vy : Value} (hx : dv σ m x = some vx) (hy : dv σ m y = some vy)
    (e : makeCV P B A h t x y = .ok (c, h')) (hN : h'.n ≤ σ.N) :
    ∃ v w' m', (Instr.makeSlice t vx vy).run P w = .ok v w' ∧ dv σ m' c = some v ∧ Rep σ m' h' w' ∧ Evo h m w h' m' w' := by
  unfold makeCV at e
  simp only [undQ_eq, infoQ_eq] at e
  split at e
  · rename_i el ht
    split at e
    · rename_i i hi
      split at e
      · rename_i z hz
        replace e := R.bind_ok e; obtain ⟨l, hl, e⟩ := e
        replace e := R.bind_ok e; obtain ⟨c', hc, e⟩ := e
        split at e
        · rename_i hcond
          replace e := R.bind_ok e; obtain ⟨cs, hcs, e⟩ := e
          replace e := R.bind_ok e; obtain ⟨h2, hn, e⟩ := e
          simp at e; obtain ⟨rfl, rfl⟩ := e
          obtain ⟨k1, z1, h1, h1', h1''⟩ := (boundCV_ok hB hA (x := some x) (v := some vx) (m := m) hx hl).resolve_left (by simp)
          obtain ⟨k2, z2, h2', h2'', h2'''⟩ := (boundCV_ok hB hA (x := some y) (v := some vy) (m := m) hy hc).resolve_left (by simp)
          simp only [Option.some.injEq] at h1 h2'
          subst h1; subst h2'
          have hrun := run_make (P := P) w t el i z ht hi hz k1 k2 z1 z2 h1' (by omega) (by
            have : z2 = (c' : Int) := by omega
            rw [this]; have := hcond.2.1; omega) (by omega)
          rw [h1'', h2'''] at hrun
          obtain ⟨m', _, hm', hle, hr, hev⟩ := r.newCells (ofVals_ok σ m (R.ofOpt_ok hcs)) [] false (fun _ => rfl) (R.ofOpt_ok hn) hN
          simp only [List.append_nil, Array.toArray_toList] at hr hev hm'
          exact ⟨_, _, m', hrun, by simp [dv, hm'], hr, hev⟩
        · simp at e
      · simp at e
    · simp at e
  · simp at e

def capCV (P : Program) (t : TypeId) (x : CV) : R CV :=
  match undQ P t, x with
  | some (.slice _), .nilslice => .ok (.int .i64 (.lit 0))
  | some (.slice _), .slice _ _ _ cap => .ok (.int .i64 (.lit cap))
  | some (.array n _), _ => .ok (.int .i64 (.lit n))
  | _, _ => .bad 266

theorem capCV_ok {m : M} {t ty : TypeId} {x c : CV} {v : Value} (hx : dv σ m x = some v) (e : capCV P t x = .ok c) (w : World) :
    ∃ u, (Builtin.cap_ #[t] ty #[v]).run P w = .ok u w ∧ dv σ m c = some u := by
  unfold capCV at e
  simp only [undQ_eq] at e
  split at e
  · rename_i hu
    simp [dv] at hx; subst hx
    simp at e; subst e
    exact ⟨.int .i64 0, by simp [Builtin.cap_, run_underlying hu, goInt], by simp [dv, SI.den]⟩
  · rename_i id off len cap hu
    simp only [dv, Option.map_eq_some_iff] at hx
    obtain ⟨⟨b, q⟩, hm, rfl⟩ := hx
    simp at e; subst e
    exact ⟨.int .i64 cap, by simp [Builtin.cap_, run_underlying hu, goInt], by simp [dv, SI.den]⟩
  · rename_i n el hu
    simp at e; subst e
    exact ⟨.int .i64 n, by simp [Builtin.cap_, run_underlying hu, goInt], by simp [dv, SI.den]⟩
  · simp at e

def clearCV (P : Program) (h : Heap) (t : TypeId) (x : CV) : R (CV × Heap) :=
  match undQ P t, x with
  | some (.slice _), .nilslice => .ok (.tuple [], h)
  | some (.slice e), .slice id off len _ => if len = 0 then .ok (.tuple [], h) else match h.obj id, infoQ P e with
    | some (.cells cs el opn), some i => match i.zero with
      | some z => (R.ofOpt 267 (ofVals (Builtin.zeroCells z.cells len).toList)).bind fun ds =>
        if off + ds.length ≤ cs.length ∧ ds.all CV.one = true then
          (R.ofOpt 268 (h.set id (some (.cells (cs.take off ++ ds ++ cs.drop (off + ds.length)) el opn)))).bind fun h' => .ok (.tuple [], h')
        else .bad 269
      | none => .bad 270
    | _, _ => .bad 271
  | _, _ => .bad 272

theorem clearCV_ok {m : M} {h h' : Heap} {w : World} (r : Rep σ m h w) {t ty : TypeId} {x c : CV} {v : Value} (hx : dv σ m x = some v) (e : clearCV P h t x = .ok (c, h')) :
    ∃ u w', (Builtin.clear_ #[t] ty #[v]).run P w = .ok u w' ∧ dv σ m c = some u ∧ Rep σ m h' w' ∧ Evo h m w h' m w' := by
  unfold clearCV at e
  simp only [undQ_eq, infoQ_eq] at e
  split at e
  · rename_i el hu
    simp [dv] at hx; subst hx
    simp at e; obtain ⟨rfl, rfl⟩ := e
    exact ⟨.tuple #[], w, by simp [Builtin.clear_, run_underlying hu], by simp [dv, dvs], r, Evo.refl _ _ _⟩
  · rename_i el id off len cap hu
    simp only [dv, Option.map_eq_some_iff] at hx
    obtain ⟨⟨b, q⟩, hm, rfl⟩ := hx
    split at e
    · rename_i h0; subst h0
      simp at e; obtain ⟨rfl, rfl⟩ := e
      exact ⟨.tuple #[], w, by simp [Builtin.clear_, run_underlying hu], by simp [dv, dvs], r, Evo.refl _ _ _⟩
    · rename_i h0
      split at e
      · rename_i cs el' opn i ho hi
        split at e
        · rename_i z hz
          replace e := R.bind_ok e; obtain ⟨ds, hds, e⟩ := e
          split at e
          · rename_i hcond
            replace e := R.bind_ok e; obtain ⟨h2, hs, e⟩ := e
            simp at e; obtain ⟨rfl, rfl⟩ := e
            obtain ⟨b', n, w', hm', hrun, hr, hev⟩ := r.splice (P := P) ho hcond.1 hcond.2 (ofVals_ok σ m (R.ofOpt_ok hds)) (R.ofOpt_ok hs)
            rw [hm] at hm'; simp at hm'; obtain ⟨rfl, rfl⟩ := hm'
            refine ⟨.tuple #[], w', ?_, by simp [dv, dvs], hr, hev⟩
            simp [Builtin.clear_, run_underlying hu, run_zeroValue hi hz, hrun]
          · simp at e
        · simp at e
      · simp at e
  · simp at e
end
end
end Go.Sx
