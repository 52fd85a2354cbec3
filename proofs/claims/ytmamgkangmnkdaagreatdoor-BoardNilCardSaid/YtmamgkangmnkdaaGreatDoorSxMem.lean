/- SX, part 2: reading, writing and making memory; operands. -/
import Derived.Test.YtmamgkangmnkdaaGreatDoorSxBase
namespace Go.Sx
open Go
noncomputable section

/-- What an operation comes to: done; first decide this; not served. -/
inductive R (α : Type) where
  | ok (a : α)
  | split (b : SB)
  | bad (n : Nat)
  deriving Inhabited
def R.bind {α β : Type} : R α → (α → R β) → R β
  | .ok a, f => f a
  | .split b, _ => .split b
  | .bad n, _ => .bad n
theorem R.bind_ok {α β : Type} {x : R α} {f : α → R β} {b : β} (h : x.bind f = .ok b) : ∃ a, x = .ok a ∧ f a = .ok b := by
  cases x with
  | ok a => exact ⟨a, rfl, h⟩
  | split b => simp [R.bind] at h
  | bad n => simp [R.bind] at h
def R.ofOpt {α : Type} (n : Nat) : Option α → R α
  | some a => .ok a
  | none => .bad n
theorem R.ofOpt_ok {α : Type} {n : Nat} {x : Option α} {a : α} (h : R.ofOpt n x = .ok a) : x = some a := by
  cases x <;> simp [R.ofOpt] at h ⊢; exact h
def R.dec (B : Bnds) (A : List SB) (b : SB) : R Bool :=
  match b.dec B A with
  | some v => .ok v
  | none => .split b
theorem R.dec_ok {B : Bnds} {A : List SB} {b : SB} {v : Bool} {σ : Vl} (hB : B.ok σ) (hA : Holds σ A) (h : R.dec B A b = .ok v) : b.den σ = v := by
  unfold R.dec at h
  split at h
  · rename_i u hu; simp at h; subst h; exact SB.dec_ok hB hA b hu
  · simp at h

structure St where
  tm : Tr CV
  nt : Nat
  h : Heap
  asm : List SB
  df : List (FuncId × List CV) := []
  deriving Inhabited

/-- The calls that are put off. -/
def DfOk (σ : Vl) (m : M) : List (FuncId × List CV) → List Deferred → Prop
  | [], [] => True
  | (f, cs) :: l, d :: ds => (∃ cap args : Array Value, d = { target := .fn (.func f) cap, args := args } ∧ dvs σ m cs = some (args ++ cap).toList) ∧ DfOk σ m l ds
  | _, _ => False
theorem DfOk.mono {σ : Vl} {m m' : M} (h : m.le m') : ∀ {l : List (FuncId × List CV)} {ds : List Deferred}, DfOk σ m l ds → DfOk σ m' l ds
  | [], [], _ => trivial
  | (_, cs) :: _, _ :: _, ⟨⟨cap, args, h1, h2⟩, h3⟩ => ⟨⟨cap, args, h1, dvs_mono σ h cs h2⟩, DfOk.mono h h3⟩
  | [], _ :: _, h => h.elim
  | _ :: _, [], h => h.elim
theorem DfOk_wN {σ : Vl} {m : M} (N : Nat) : ∀ {l : List (FuncId × List CV)} {ds : List Deferred}, DfOk (σ.wN N) m l ds ↔ DfOk σ m l ds
  | [], [] => Iff.rfl
  | (_, _) :: _, _ :: _ => by simp only [DfOk, dvs_wN, DfOk_wN N]
  | [], _ :: _ => Iff.rfl
  | _ :: _, [] => Iff.rfl

def undefCV : CV := .tuple []

structure Inv (σ : Vl) (m : M) (s : St) (a : Act) (w : World) : Prop where
  rep : Rep σ m s.h w
  tm : ∀ t c, s.tm.get t = some c → dv σ m c = some (a.tmps.getD t undef)
  nt : a.tmps.size = s.nt
  df : DfOk σ m s.df a.defers

def St.ev (s : St) : Operand → R CV
  | .tmp t => R.ofOpt 2 (s.tm.get t)
  | .const v => R.ofOpt 1 (ofVal v)
  | .global g => .ok (.gptr g 0)
  | .func f => .ok (.func (.func f) [] [])

theorem Inv.ev {σ : Vl} {m : M} {s : St} {a : Act} {w : World} (I : Inv σ m s a w) {x : Operand} {c : CV} (h : s.ev x = .ok c) : dv σ m c = some (a.eval x) := by
  cases x with
  | tmp t => simp only [St.ev] at h; exact I.tm t c (R.ofOpt_ok h)
  | const v => simp only [St.ev] at h; exact ofVal_ok σ m (R.ofOpt_ok h)
  | global g => simp [St.ev] at h; subst h; simp [dv, Act.eval]
  | func f => simp [St.ev] at h; subst h; simp [dv, dvs, Act.eval]

def St.evs (s : St) : List Operand → R (List CV)
  | [] => .ok []
  | x :: xs => (s.ev x).bind fun c => (s.evs xs).bind fun cs => .ok (c :: cs)

theorem Inv.evs {σ : Vl} {m : M} {s : St} {a : Act} {w : World} (I : Inv σ m s a w) : ∀ {xs : List Operand} {cs : List CV}, s.evs xs = .ok cs → dvs σ m cs = some (xs.map a.eval)
  | [], cs, h => by simp [St.evs] at h; subst h; simp [dvs]
  | x :: xs, cs, h => by
    simp only [St.evs] at h
    obtain ⟨c, hc, h⟩ := R.bind_ok h
    obtain ⟨ds, hd, h⟩ := R.bind_ok h
    simp at h; subst h
    simp [dvs_cons, I.ev hc, I.evs hd]

def St.put (s : St) (d : Option Tmp) (c : CV) : Option St :=
  match d with
  | none => some s
  | some t => if t < s.nt then (Tr.set 40 s.tm t (some c)).map fun tm => { s with tm } else none

theorem Inv.put {σ : Vl} {m m' : M} {s s' : St} {a : Act} {w w' : World} {h' : Heap} (I : Inv σ m s a w) (hm : m.le m') (hr : Rep σ m' h' w') {d : Option Tmp} {c : CV} {v : Value}
    (hp : St.put { s with h := h' } d c = some s') (hv : dv σ m' c = some v) : Inv σ m' s' (a.put d v) w' := by
  have htm : ∀ t c, s.tm.get t = some c → dv σ m' c = some (a.tmps.getD t undef) := fun t c h => dv_mono σ hm _ (I.tm t c h)
  cases d with
  | none => simp [St.put] at hp; subst hp; exact ⟨hr, htm, I.nt, I.df.mono hm⟩
  | some t =>
    simp only [St.put] at hp
    split at hp
    · rename_i hlt
      simp only [Option.map_eq_some_iff] at hp
      obtain ⟨tm, ht, rfl⟩ := hp
      refine ⟨hr, ?_, by simp [Act.put, I.nt], by simpa [Act.put] using I.df.mono hm⟩
      intro u c' hu
      simp only [Tr.get_set 40 _ _ _ ht] at hu
      simp only [Act.put]
      by_cases e : u = t
      · subst e
        rw [if_pos rfl] at hu
        simp only [Option.some.injEq] at hu
        subst hu
        rw [hv]
        have hs : u < a.tmps.size := by rw [I.nt]; exact hlt
        simp [Array.getD, hs]
      · rw [if_neg e] at hu
        rw [htm u c' hu]
        simp only [Array.getD_eq_getD_getElem?]
        rw [Array.getElem?_setIfInBounds_ne (fun h => e h.symm)]
    · simp at hp

theorem Rep.cap_ge {σ : Vl} {m : M} {h : Heap} {w : World} (r : Rep σ m h w) {id : Nat} {cs : List CV} {e : TypeId} {opn : Bool} (ho : h.obj id = some (.cells cs e opn)) {b n : Nat} (hm : m id = some (b, n)) : cs.length ≤ n := by
  obtain ⟨b', n', wo, hm', hb, arr, rfl, hn, vs, zs, hv, ha, _⟩ := r.obj id _ ho
  rw [hm] at hm'; simp at hm'; obtain ⟨rfl, rfl⟩ := hm'
  have := dvs_length hv
  rw [← Array.length_toList, ha] at hn
  simp at hn; omega

theorem add_none (b off i : Nat) : (Addr.mk b off none).add i = ⟨b, off + i, none⟩ := by
  unfold Addr.add; split
  · rename_i h; subst h; simp
  · rfl

section
variable {P : Program}

/-- Is it a type of several cells? -/
def aggD : TypeDesc → Bool
  | .struct _ | .array _ _ => true
  | _ => false

theorem run_underlying {t : TypeId} {d : TypeDesc} (h : P.underlying t = some d) (w : World) : (underlying t).run P w = .ok d w := by
  simp [underlying, h]
theorem run_typeInfo {t : TypeId} {i : TypeInfo} (h : P.info? t = some i) (w : World) : (typeInfo t).run P w = .ok i w := by
  simp [typeInfo, h]
theorem run_sizeOf {t : TypeId} {i : TypeInfo} (h : P.info? t = some i) (w : World) : (sizeOf t).run P w = .ok i.size w := by
  simp [sizeOf, run_typeInfo h]
theorem run_isAgg {t : TypeId} {d : TypeDesc} (h : P.underlying t = some d) (w : World) : (isAgg t).run P w = .ok (aggD d) w := by
  simp only [isAgg, Sem.run_bind, run_underlying h, Result.andThen_ok]
  cases d <;> rfl
theorem run_zeroValue {t : TypeId} {i : TypeInfo} {z : Value} (h : P.info? t = some i) (hz : i.zero = some z) (w : World) : (zeroValue t).run P w = .ok z w := by
  simp [zeroValue, run_typeInfo h, hz]

def ldVar (P : Program) (h : Heap) (t : TypeId) (p : CV) : R CV :=
  match p with
  | .ptr id off => match h.obj id with
    | some (.cells cs _ _) => match undQ P t with
      | some d => if aggD d then match infoQ P t with
          | some i => if off + i.size ≤ lenR cs then .ok (.agg (takeR (dropR cs off) i.size)) else .bad 10
          | none => .bad 11
        else R.ofOpt 12 (getR cs off)
      | none => .bad 13
    | _ => .bad 14
  | .gptr g off => match h.obj g with
    | some (.glob g' cs) => match undQ P t with
      | some d => if aggD d ∨ g' ≠ g then .bad 16 else R.ofOpt 17 (getR cs off)
      | none => .bad 18
    | _ => .bad 19
  | _ => .bad 15

theorem ldVar_ok {σ : Vl} {m : M} {h : Heap} {w : World} (r : Rep σ m h w) {t : TypeId} {p c : CV} {pv : Value} (hp : dv σ m p = some pv) (e : ldVar P h t p = .ok c) :
    ∃ a v, pv = .pointer (some a) ∧ (loadVar t a).run P w = .ok v w ∧ dv σ m c = some v := by
  unfold ldVar at e
  simp only [undQ_eq, infoQ_eq, lenR_eq, takeR_eq, dropR_eq, getR_eq] at e
  split at e
  · rename_i id off
    split at e
    · rename_i cs el opn ho
      obtain ⟨b, n, vs, hm, _, hv, hcell, _⟩ := r.cell ho
      simp only [dv, hm, Option.map_some, Option.some.injEq] at hp
      subst hp
      split at e
      · rename_i d hd
        refine ⟨⟨b, off, none⟩, ?_⟩
        split at e
        · rename_i hagg
          split at e
          · rename_i i hi
            split at e
            · rename_i hle
              simp at e; subst e
              have hlen := dvs_length hv
              refine ⟨.agg ((vs.drop off).take i.size).toArray, rfl, ?_, ?_⟩
              · simp only [loadVar, Sem.run_bind, run_isAgg hd, Result.andThen_ok, hagg, if_true, run_sizeOf hi]
                have hl : ((vs.drop off).take i.size).length = i.size := by simp; omega
                have := run_loadCells_list (P := P) w ⟨b, off, none⟩ ((vs.drop off).take i.size) (fun j v hj => by
                  rw [add_none]
                  apply hcell
                  rw [List.getElem?_take] at hj
                  split at hj
                  · simpa using hj
                  · simp at hj)
                rw [hl] at this
                simp [this]
              · simp [dv, dvs_take (dvs_drop hv off) i.size]
            · simp at e
          · simp at e
        · rename_i hagg
          have hc := R.ofOpt_ok e
          obtain ⟨v, hv1, hv2⟩ := dvs_get_some hv hc
          refine ⟨v, rfl, ?_, hv2⟩
          simp only [loadVar, Sem.run_bind, run_isAgg hd, Result.andThen_ok, hagg]
          simp [hcell _ _ hv1]
      · simp at e
    · simp at e
  · rename_i g off
    split at e
    · rename_i g' cs ho
      split at e
      · rename_i d hd
        split at e
        · simp at e
        · rename_i hagg
          simp only [not_or, Decidable.not_not, Bool.not_eq_true] at hagg
          obtain ⟨hagg, rfl⟩ := hagg
          have hc := R.ofOpt_ok e
          obtain ⟨b, n, wo, h1, h2, h3, _, arr, el, fr, us, zs, rfl, h6, h7⟩ := r.obj _ _ ho
          have hbg : g' = b := by
            rw [h3] at h1
            injection h1 with h1
            injection h1
          subst hbg
          obtain ⟨v, hv1, hv2⟩ := dvs_get_some h6 hc
          simp only [dv, Option.some.injEq] at hp
          subst hp
          refine ⟨⟨g', off, none⟩, v, rfl, ?_, hv2⟩
          have hcell : w.cell? ⟨g', off, none⟩ = some v := by
            simp only [World.cell?, h2, Option.isSome_none, Bool.false_eq_true, if_false]
            have : arr[off]? = arr.toList[off]? := by simp
            rw [this, h7, List.getElem?_append_left ((List.getElem?_eq_some_iff.1 hv1).1)]
            exact hv1
          simp only [loadVar, Sem.run_bind, run_isAgg hd, Result.andThen_ok, hagg]
          simp [hcell]
      · simp at e
    · simp at e
  · simp at e

theorem run_storeCells (b : Nat) (off : Nat) (el : TypeId) : ∀ (vs : List Value) (i : Nat) (arr : Array Value) (w : World), w.heap[b]? = some (.cells arr el (0, 0)) → off + i + vs.length ≤ arr.size → (∀ v ∈ vs, v.oneCell' = true) →
    ∃ w' arr', (storeCells ⟨b, off, none⟩ vs i).run P w = .ok () w' ∧ w'.heap[b]? = some (.cells arr' el (0, 0)) ∧ arr'.toList = arr.toList.take (off + i) ++ vs ++ arr.toList.drop (off + i + vs.length) ∧
      arr'.size = arr.size ∧ w'.heap.size = w.heap.size ∧ SysEq w w' ∧ ∀ x, x ≠ b → w'.heap[x]? = w.heap[x]?
  | [], i, arr, w, hb, hle, _ => ⟨w, arr, by simp [storeCells], hb, by simp, rfl, rfl, .refl w, fun _ _ => rfl⟩
  | v :: vs, i, arr, w, hb, hle, h1 => by
    simp only [List.length_cons] at hle
    have hlt : off + i < arr.size := by omega
    let w1 := w.setCell ⟨b, off + i, none⟩ v
    have hw1 : w1.heap[b]? = some (.cells (arr.setIfInBounds (off + i) v) el (0, 0)) := by
      simp only [w1, World.setCell]
      rw [Array.getElem?_modify, if_pos rfl, hb]
      simp
    obtain ⟨w', arr', hrun, hb', harr, hsz, hhs, hsy, hoth⟩ := run_storeCells b off el vs (i + 1) (arr.setIfInBounds (off + i) v) w1 hw1 (by simp; omega) (fun u hu => h1 u (by simp [hu]))
    refine ⟨w', arr', ?_, hb', ?_, by rw [hsz]; simp, by rw [hhs]; simp [w1, World.setCell], SysEq.trans (w2 := w1) ⟨rfl, rfl, rfl⟩ hsy, ?_⟩
    · simp only [storeCells, Sem.run_bind, add_none]
      rw [run_store P w _ v _ (h1 v (by simp))]
      have hc : w.cell? ⟨b, off + i, none⟩ = some arr[off + i] := by simp [World.cell?, hb, hlt]
      have hf : w.frozen? ⟨b, off + i, none⟩ = false := by simp [World.frozen?, hb]
      simp only [hc, hf, Bool.false_eq_true, if_false, Result.andThen_ok]
      exact hrun
    · rw [harr]
      simp only [Array.toList_setIfInBounds, List.length_cons]
      have e1 : (arr.toList.set (off + i) v).take (off + (i + 1)) = arr.toList.take (off + i) ++ [v] := by
        rw [show off + (i + 1) = off + i + 1 by omega, List.take_add_one]
        simp [List.take_set, hlt]
        rw [List.set_eq_of_length_le (by simp; omega)]
      have e2 : (arr.toList.set (off + i) v).drop (off + (i + 1) + vs.length) = arr.toList.drop (off + i + (vs.length + 1)) := by
        rw [List.drop_set_of_lt (by omega)]
        congr 1; omega
      rw [e1, e2]
      simp
    · intro x hx
      rw [hoth x hx]
      simp only [w1, World.setCell]
      rw [Array.getElem?_modify, if_neg (fun h => hx h.symm)]

/-- Cells laid over others; all at once, so that nothing is put off. -/
def splS (cs : List CV) : Nat → List CV → Option (List CV) :=
  List.rec (motive := fun _ => Nat → List CV → Option (List CV)) (fun n ds => Bool.rec none (List.rec (motive := fun _ => Option (List CV)) (some []) (fun _ _ _ => none) ds) (Nat.beq n 0))
    (fun c cs g n ds => Bool.rec (Option.rec none (fun r => some (c :: r)) (g (Nat.sub n 1) ds))
      (List.rec (motive := fun _ => Option (List CV)) (some (c :: cs)) (fun d ds _ => Option.rec none (fun r => some (d :: r)) (g 0 ds)) ds) (Nat.beq n 0)) cs
theorem splS_nil (n : Nat) (ds : List CV) : splS [] n ds = if n = 0 ∧ ds = [] then some [] else none := by
  cases n <;> cases ds <;> first | rfl | (simp; rfl)
theorem splS_zero (c : CV) (cs ds : List CV) : splS (c :: cs) 0 ds = match ds with
    | [] => some (c :: cs)
    | d :: ds => match splS cs 0 ds with
      | some r => some (d :: r)
      | none => none := by
  cases ds with
  | nil => rfl
  | cons d ds =>
    show (Option.rec none (fun r => some (d :: r)) (splS cs 0 ds) : Option (List CV)) = _
    simp only
    cases splS cs 0 ds <;> rfl
theorem splS_succ (c : CV) (cs ds : List CV) (n : Nat) : splS (c :: cs) (n + 1) ds = match splS cs n ds with
    | some r => some (c :: r)
    | none => none := by
  show (Option.rec none (fun r => some (c :: r)) (splS cs (n + 1 - 1) ds) : Option (List CV)) = _
  rw [Nat.add_sub_cancel]
  cases splS cs n ds <;> rfl
theorem splS_all : ∀ {cs : List CV} {off : Nat} {ds r : List CV}, splS cs off ds = some r → r = cs.take off ++ ds ++ cs.drop (off + ds.length) ∧ off + ds.length ≤ cs.length
  | [], off, ds, r, h => by
    rw [splS_nil] at h
    split at h
    · rename_i hc; obtain ⟨rfl, rfl⟩ := hc; simp at h; subst h; simp
    · simp at h
  | c :: cs, 0, [], r, h => by rw [splS_zero] at h; simp at h; subst h; simp
  | c :: cs, 0, d :: ds, r, h => by
    rw [splS_zero] at h
    simp only at h
    split at h
    · rename_i r' hr
      simp only [Option.some.injEq] at h; subst h
      have := splS_all hr
      refine ⟨by rw [this.1]; simp, by simp at this ⊢; omega⟩
    · simp at h
  | c :: cs, n + 1, ds, r, h => by
    rw [splS_succ] at h
    split at h
    · rename_i r' hr
      simp only [Option.some.injEq] at h; subst h
      have := splS_all hr
      refine ⟨?_, by simp only [List.length_cons]; omega⟩
      rw [this.1, show n + 1 + ds.length = n + ds.length + 1 by omega]
      simp
    · simp at h
theorem splS_ok {cs : List CV} {off : Nat} {ds r : List CV} (h : splS cs off ds = some r) : r = cs.take off ++ ds ++ cs.drop (off + ds.length) := (splS_all h).1

def stVar (P : Program) (h : Heap) (t : TypeId) (p v : CV) : R Heap :=
  match p with
  | .ptr id off => match h.obj id with
    | some (.cells cs el opn) => match infoQ P t with
      | some i =>
        let ds := v.cells
        if lenR ds = i.size ∧ allR CV.one ds = true then
          (R.ofOpt 25 (splS cs off ds)).bind fun r => R.ofOpt 20 (h.set id (some (.cells r el opn)))
        else .bad 21
      | none => .bad 22
    | _ => .bad 23
  | _ => .bad 24

theorem dvs_one {σ : Vl} {m : M} : ∀ {cs : List CV} {vs : List Value}, dvs σ m cs = some vs → cs.all CV.one = true → ∀ v ∈ vs, v.oneCell' = true
  | [], vs, h, _, v, hv => by simp [dvs] at h; subst h; simp at hv
  | c :: cs, vs, h, ha, v, hv => by
    obtain ⟨u, us, hu, hus, rfl⟩ := dvs_cons.1 h
    simp only [List.all_cons, Bool.and_eq_true] at ha
    rcases List.mem_cons.1 hv with rfl | h'
    · exact dv_one hu ha.1
    · exact dvs_one hus ha.2 v h'

/-- A row of cells is written. -/
theorem Rep.splice {σ : Vl} {m : M} {h h' : Heap} {w : World} (r : Rep σ m h w) {id off : Nat} {cs ds : List CV} {el : TypeId} {opn : Bool} {vs : List Value}
    (ho : h.obj id = some (.cells cs el opn)) (hle : off + ds.length ≤ cs.length) (h1 : ds.all CV.one = true) (hd : dvs σ m ds = some vs)
    (hs : h.set id (some (.cells (cs.take off ++ ds ++ cs.drop (off + ds.length)) el opn)) = some h') :
    ∃ b n w', m id = some (b, n) ∧ (storeCells ⟨b, off, none⟩ vs).run P w = .ok () w' ∧ Rep σ m h' w' ∧ Evo h m w h' m w' := by
  obtain ⟨b, n, wo, hm, hb, arr, rfl, hn, us, zs, hu, ha, hz⟩ := r.obj id _ ho
  have hlu := dvs_length hu
  have hlv := dvs_length hd
  have hla : arr.size = us.length + zs.length := by rw [← Array.length_toList, ha]; simp
  obtain ⟨w', arr', hrun, hb', harr, hsz, hhs, hsy, hoth⟩ := run_storeCells (P := P) b off el vs 0 arr w hb (by simp; omega) (dvs_one hd h1)
  refine ⟨b, n, w', hm, hrun, ?_⟩
  refine r.upd ho hm hs hb' ?_ hhs hoth hsy
  refine ⟨arr', rfl, by omega, us.take off ++ vs ++ us.drop (off + ds.length), zs, ?_, ?_, hz⟩
  · exact dvs_append (dvs_append (dvs_take hu off) hd) (dvs_drop hu _)
  · rw [harr, ha, ← hlv]
    simp only [Nat.add_zero]
    rw [List.take_append_of_le_length (by omega), List.drop_append_of_le_length (by omega)]
    simp

theorem stVar_ok {σ : Vl} {m : M} {h h' : Heap} {w : World} (r : Rep σ m h w) {t : TypeId} {p c : CV} {pv v : Value} (hp : dv σ m p = some pv) (hc : dv σ m c = some v) (e : stVar P h t p c = .ok h') :
    ∃ a w', pv = .pointer (some a) ∧ (storeVar t a v).run P w = .ok () w' ∧ Rep σ m h' w' ∧ Evo h m w h' m w' := by
  unfold stVar at e
  simp only [infoQ_eq] at e
  split at e
  · rename_i id off
    split at e
    · rename_i cs el opn ho
      split at e
      · rename_i i hi
        try simp only at e
        split at e
        · rename_i hcond
          obtain ⟨h1, h3⟩ := hcond
          rw [lenR_eq] at h1
          rw [allR_eq] at h3
          replace e := R.bind_ok e; obtain ⟨r', hspl, e⟩ := e
          have h2 := (splS_all (R.ofOpt_ok hspl)).2
          have hs := R.ofOpt_ok e
          rw [splS_ok (R.ofOpt_ok hspl)] at hs
          have hcells := dv_cells hc
          obtain ⟨b, n, w', hm, hrun, hr, hev⟩ := r.splice (P := P) ho h2 h3 hcells hs
          simp only [dv, hm, Option.map_some, Option.some.injEq] at hp
          subst hp
          refine ⟨_, w', rfl, ?_, hr, hev⟩
          have hlen := dvs_length hcells
          simp only [storeVar, Sem.run_bind, run_sizeOf hi, Result.andThen_ok]
          rw [if_neg (by simp only [ne_eq, Decidable.not_not]; rw [← Array.length_toList]; omega)]
          exact hrun
        · simp at e
      · simp at e
    · simp at e
  · simp at e

/-- New cells are laid. -/
theorem Rep.newCells {σ : Vl} {m : M} {h h' : Heap} {w : World} (r : Rep σ m h w) {cs : List CV} {el : TypeId} {vs : List Value} (hv : dvs σ m cs = some vs) (zs : List Value) (opn : Bool) (hz : opn = false → zs = [])
    (hs : h.new (.cells cs el opn) = some h') (hN : h'.n ≤ σ.N) :
    ∃ m', m'.le m' ∧ m' h.n = some (w.heap.size, (vs ++ zs).length) ∧ m.le m' ∧ Rep σ m' h' { w with heap := w.heap.push (.cells (vs ++ zs).toArray el) } ∧ Evo h m w h' m' { w with heap := w.heap.push (.cells (vs ++ zs).toArray el) } := by
  have hr := r.new (w' := { w with heap := w.heap.push (.cells (vs ++ zs).toArray el) }) (n := (vs ++ zs).length) hs hN rfl ⟨rfl, rfl, rfl⟩
    (show ORep σ m (.cells cs el opn) (vs ++ zs).length (.cells (vs ++ zs).toArray el (0, 0)) from ⟨_, rfl, by simp, vs, zs, hv, by simp, hz⟩)
  exact ⟨_, M.le_refl _, by simp [M.put], M.le_put (r.top h.n (Nat.le_refl _) (by rw [Heap.n_new hs] at hN; omega)), hr.1, hr.2⟩

def zeroCV (P : Program) (t : TypeId) : R CV :=
  match infoQ P t with
  | some i => match i.zero with
    | some (.agg cs) => (R.ofOpt 30 (ofVals cs.toList)).bind fun l => .ok (.agg l)
    | some v => R.ofOpt 31 (ofVal v)
    | none => .bad 32
  | none => .bad 33
theorem zeroCV_ok {σ : Vl} {m : M} {t : TypeId} {c : CV} (e : zeroCV P t = .ok c) (w : World) : ∃ v, (zeroValue t).run P w = .ok v w ∧ dv σ m c = some v := by
  unfold zeroCV at e
  simp only [infoQ_eq] at e
  split at e
  · rename_i i hi
    split at e
    · rename_i cs hz
      obtain ⟨l, hl, e⟩ := R.bind_ok e
      simp at e; subst e
      refine ⟨_, run_zeroValue hi hz w, ?_⟩
      simp [dv, ofVals_ok σ m (R.ofOpt_ok hl)]
    · rename_i v _ hz
      exact ⟨_, run_zeroValue hi hz w, ofVal_ok σ m (R.ofOpt_ok e)⟩
    · simp at e
  · simp at e

def boxCV (h : Heap) (el : TypeId) (c : CV) : R (CV × Heap) :=
  let ds := c.cells
  if allR CV.one ds then
    (R.ofOpt 34 (h.new (.cells ds el false))).bind fun h' => .ok (.ptr h.n 0, h')
  else .bad 35
theorem boxCV_ok {σ : Vl} {m : M} {h h' : Heap} {w : World} (r : Rep σ m h w) {el : TypeId} {c p : CV} {v : Value} (hc : dv σ m c = some v) (e : boxCV h el c = .ok (p, h')) (hN : h'.n ≤ σ.N) :
    ∃ a w' m', (newVar el v).run P w = .ok a w' ∧ dv σ m' p = some (.pointer (some a)) ∧ Rep σ m' h' w' ∧ Evo h m w h' m' w' := by
  unfold boxCV at e
  simp only [allR_eq] at e
  try simp only at e
  split at e
  · rename_i h1
    obtain ⟨h2, hn, e⟩ := R.bind_ok e
    simp at e
    obtain ⟨rfl, rfl⟩ := e
    have hcells := dv_cells hc
    obtain ⟨m', _, hm', hle, hr, hev⟩ := r.newCells hcells [] false (fun _ => rfl) (R.ofOpt_ok hn) hN
    refine ⟨⟨w.heap.size, 0, none⟩, _, m', ?_, ?_, hr, hev⟩
    · simp [newVar, newRow]
    · simp [dv, hm']
  · simp at e
end
end
end Go.Sx
