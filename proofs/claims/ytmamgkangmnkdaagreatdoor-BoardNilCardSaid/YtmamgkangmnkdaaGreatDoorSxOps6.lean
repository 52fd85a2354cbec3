/- SX, part 8: len, copy, maps, type assertions, the least and the greatest. -/
import Derived.Test.YtmamgkangmnkdaaGreatDoorSxOps5
namespace Go.Sx
open Go
noncomputable section
section
variable {P : Program} {B : Bnds} {A : List SB} {σ : Vl}

def lenCV (P : Program) (h : Heap) (t : TypeId) (x : CV) : R CV :=
  match undQ P t, x with
  | some .string, .str s => .ok (.int .i64 (.lit s.length))
  | some (.array n _), _ => .ok (.int .i64 (.lit n))
  | some (.slice _), .slice _ _ n _ => .ok (.int .i64 (.lit n))
  | some (.slice _), .oslice _ _ _ _ n => .ok (.int .i64 (.lit n))
  | some (.slice _), .nilslice => .ok (.int .i64 (.lit 0))
  | some (.map _ _), .nilmap => .ok (.int .i64 (.lit 0))
  | some (.map _ _), .map id => match h.obj id with
    | some (.map es _) => .ok (.int .i64 (.lit es.length))
    | _ => .bad 160
  | _, _ => .bad 161

theorem ents_length {m : M} : ∀ {es : List (CV × CV × Nat)} {ws : List MapEntry}, ents σ m es ws → ws.length = es.length
  | [], [], _ => rfl
  | [], _ :: _, e => e.elim
  | _ :: _, [], e => e.elim
  | (_, _, _) :: _, _ :: _, ⟨_, _, _, h⟩ => by simp [ents_length h]

theorem Rep.map {m : M} {h : Heap} {w : World} (r : Rep σ m h w) {id : Nat} {es : List (CV × CV × Nat)} {clock : Nat} (ho : h.obj id = some (.map es clock)) {b n : Nat} (hm : m id = some (b, n)) :
    ∃ arr, w.heap[b]? = some (.map arr clock) ∧ ents σ m es arr.toList := by
  obtain ⟨b', n', wo, hm', hb, arr, rfl, he⟩ := r.obj id _ ho
  rw [hm] at hm'; simp at hm'; obtain ⟨rfl, rfl⟩ := hm'
  exact ⟨arr, hb, he⟩

theorem run_getMap {w : World} {b : Nat} {arr : Array MapEntry} {clock : Nat} (hb : w.heap[b]? = some (.map arr clock)) : (getObj b).run P w = .ok (.map arr clock) w := by
  simp [getObj, Sem.run, hb]

theorem size_mk (s : List UInt8) : (ByteArray.mk s.toArray).size = s.length := by simp [ByteArray.size]

theorem lenCV_ok {m : M} {h : Heap} {w : World} (r : Rep σ m h w) {t ty : TypeId} {x c : CV} {v : Value} (hx : dv σ m x = some v) (e : lenCV P h t x = .ok c) :
    ∃ u, (Builtin.len_ #[t] ty #[v]).run P w = .ok u w ∧ dv σ m c = some u := by
  unfold lenCV at e
  simp only [undQ_eq] at e
  split at e
  case h_7 hu =>
    rename_i k el id
    split at e
    · rename_i es clock ho
      simp at e; subst e
      simp only [dv, Option.map_eq_some_iff] at hx
      obtain ⟨⟨b, q⟩, hm, rfl⟩ := hx
      obtain ⟨arr, hb, he⟩ := r.map ho hm
      refine ⟨_, ?_, rfl⟩
      have := ents_length he
      simp at this
      simp [Builtin.len_, run_underlying hu, run_getMap hb, goInt, SI.den, this]
    · simp at e
  all_goals first
    | (simp at e; done)
    | (rename_i hu
       simp at e; subst e
       try simp only [dv, Option.map_eq_some_iff, Option.some.injEq] at hx
       first | subst hx | (obtain ⟨_, _, rfl⟩ := hx) | skip
       refine ⟨_, ?_, rfl⟩
       simp [Builtin.len_, run_underlying hu, goInt, SI.den, size_mk])

/-- Keys that the model compares at once. -/
def keyEq (B : Bnds) (A : List SB) (k k' : CV) : R Bool :=
  match k, k' with
  | .int q a, .int q' b => if q = q' then R.dec B A (.eq a b) else .bad 162
  | _, _ => .bad 163

def findCV (B : Bnds) (A : List SB) (k : CV) : List (CV × CV × Nat) → Nat → R (Option (Nat × CV))
  | [], _ => .ok none
  | (k', v, _) :: es, i => (keyEq B A k k').bind fun b => if b then .ok (some (i, v)) else findCV B A k es (i + 1)

theorem findCV_ok (hB : B.ok σ) (hA : Holds σ A) {m : M} {kk : IntKind} {k : CV} {kv : Value} (hk : dv σ m k = some kv) : ∀ (es : List (CV × CV × Nat)) (ws : List MapEntry) (i : Nat) {res : Option (Nat × CV)}, ents σ m es ws → findCV B A k es i = .ok res →
    ∃ r', Instr.findNow (.int kk) kv ws i = some r' ∧ (match res, r' with | none, none => True | some (j, c), some (j', v) => j = j' ∧ i ≤ j ∧ dv σ m c = some v ∧ (ws[j - i]?).map (·.key) = some kv | _, _ => False)
  | [], [], i, res, _, e => by simp [findCV] at e; subst e; exact ⟨none, rfl, trivial⟩
  | [], _ :: _, _, _, h, _ => h.elim
  | _ :: _, [], _, _, h, _ => h.elim
  | (k', v, b) :: es, w :: ws, i, res, ⟨h1, h2, h3, h4⟩, e => by
    simp only [findCV] at e
    replace e := R.bind_ok e; obtain ⟨t, ht, e⟩ := e
    unfold keyEq at ht
    split at ht
    · rename_i q a q' a'
      split at ht
      · rename_i hq; subst hq
        have hd := R.dec_ok hB hA ht
        simp [dv] at hk h1; subst hk
        simp [SB.den] at hd
        split at e
        · rename_i htt; subst htt
          simp at e; subst e
          simp at hd
          refine ⟨some (i, w.val), ?_, ?_⟩
          · simp [Instr.findNow, ← h1, Instr.sameNow, hd]
          · refine ⟨rfl, Nat.le_refl _, h2, ?_⟩
            simp [← h1, hd]
        · rename_i htt
          have htf : t = false := by simpa using htt
          subst htf
          simp at hd
          obtain ⟨r', hr1, hr2⟩ := findCV_ok hB hA (kk := kk) (k := .int q a) rfl es ws (i + 1) h4 e
          refine ⟨r', ?_, ?_⟩
          · rw [← hr1]
            have hbeq : (a.den σ == a'.den σ) = false := by simpa using hd
            simp [Instr.findNow, ← h1, Instr.sameNow, hbeq]
          · cases res with
            | none => cases r' with
              | none => trivial
              | some _ => exact hr2.elim
            | some p => cases r' with
              | none => exact hr2.elim
              | some p' =>
                obtain ⟨e1, e2, e3, e4⟩ := hr2
                refine ⟨e1, by omega, e3, ?_⟩
                have : p.1 - i = (p.1 - (i + 1)) + 1 := by omega
                rw [this]; simpa using e4
      · simp at ht
    · simp at ht

def intKey (P : Program) (t : TypeId) : Bool := match undQ P t with | some (.int _) => true | _ => false

def entsCV (h : Heap) (x : CV) : R (List (CV × CV × Nat)) :=
  match x with
  | .nilmap => .ok []
  | .map id => match h.obj id with
    | some (.map es _) => .ok es
    | _ => .bad 164
  | _ => .bad 165

def lookupCV (P : Program) (B : Bnds) (A : List SB) (h : Heap) (t : TypeId) (x k : CV) (ok : Bool) : R CV :=
  match undQ P t with
  | some (.map kt et) => if intKey P kt then
      (entsCV h x).bind fun es => (findCV B A k es 0).bind fun res =>
      match res with
      | some (_, c) => .ok (if ok then .tuple [c, .bool (.lit true)] else c)
      | none => (zeroCV P et).bind fun z => .ok (if ok then .tuple [z, .bool (.lit false)] else z)
    else .bad 166
  | _ => .bad 167

theorem intKey_ok {t : TypeId} (h : intKey P t = true) : ∃ k, P.underlying t = some (.int k) := by
  unfold intKey at h
  simp only [undQ_eq] at h
  split at h
  · rename_i k hk; exact ⟨k, hk⟩
  · simp at h

theorem run_checkKey {kt : TypeId} {k : IntKind} (hk : P.underlying kt = some (.int k)) (b : Bool) (v : Value) (w : World) : (Instr.checkKey b 10000 kt v).run P w = .ok () w := by
  show (Instr.checkKey b (9999 + 1) kt v).run P w = _
  rw [Instr.checkKey]
  simp only [Sem.run_bind, run_underlying hk, Result.andThen_ok]
  cases v <;> rfl

theorem run_findKey {kt : TypeId} {k : IntKind} (hk : P.underlying kt = some (.int k)) {v : Value} {ws : List MapEntry} {r : Option (Nat × Value)} (h : Instr.findNow (.int k) v ws 0 = some r) (w : World) :
    (Instr.findKey kt v ws).run P w = .ok r w := by
  simp [Instr.findKey, run_underlying hk, h]

theorem entsCV_ok {m : M} {h : Heap} {w : World} (r : Rep σ m h w) {x : CV} {vx : Value} {es : List (CV × CV × Nat)} (hx : dv σ m x = some vx) (e : entsCV h x = .ok es) :
    ∃ arr : Array MapEntry, ents σ m es arr.toList ∧ ((vx = .map none ∧ arr = #[]) ∨ ∃ b clock, vx = .map (some b) ∧ w.heap[b]? = some (.map arr clock)) := by
  unfold entsCV at e
  split at e
  · simp [dv] at hx; subst hx
    simp at e; subst e
    exact ⟨#[], trivial, .inl ⟨rfl, rfl⟩⟩
  · rename_i id
    simp only [dv, Option.map_eq_some_iff] at hx
    obtain ⟨⟨b, q⟩, hm, rfl⟩ := hx
    split at e
    · rename_i es' clock ho
      simp at e; subst e
      obtain ⟨arr, hb, he⟩ := r.map ho hm
      exact ⟨arr, he, .inr ⟨b, clock, rfl, hb⟩⟩
    · simp at e
  · simp at e

theorem lookupCV_ok (hB : B.ok σ) (hA : Holds σ A) {m : M} {h : Heap} {w : World} (r : Rep σ m h w) {t : TypeId} {x k c : CV} {vx vk : Value} {ok : Bool} (hx : dv σ m x = some vx) (hk : dv σ m k = some vk) (e : lookupCV P B A h t x k ok = .ok c) :
    ∃ u, (Instr.lookup t vx vk ok).run P w = .ok u w ∧ dv σ m c = some u := by
  unfold lookupCV at e
  simp only [undQ_eq] at e
  split at e
  · rename_i kt et hu
    split at e
    · rename_i hik
      obtain ⟨kk, hkk⟩ := intKey_ok hik
      replace e := R.bind_ok e; obtain ⟨es, hes, e⟩ := e
      replace e := R.bind_ok e; obtain ⟨res, hres, e⟩ := e
      obtain ⟨arr, he, ha⟩ := entsCV_ok r hx hes
      obtain ⟨r', hf, hm'⟩ := findCV_ok hB hA (kk := kk) hk es arr.toList 0 he hres
      have hfind := run_findKey (P := P) hkk hf w
      split at e
      · rename_i j c'
        cases r' with
        | none => exact hm'.elim
        | some p =>
          obtain ⟨j', v⟩ := p
          simp only at hm'
          simp at e; subst e
          refine ⟨if ok then .tuple #[v, .bool true] else v, ?_, ?_⟩
          · rcases ha with ⟨rfl, rfl⟩ | ⟨b, clock, rfl, hb⟩
            · simp only at hfind; simp [Instr.lookup, run_underlying hu, run_checkKey hkk, hfind]
            · simp [Instr.lookup, run_underlying hu, run_getMap hb, run_checkKey hkk, hfind]
          · cases ok <;> simp [dv, dvs, hm', SB.den]
      · cases r' with
        | some p => exact hm'.elim
        | none =>
          replace e := R.bind_ok e; obtain ⟨z, hz, e⟩ := e
          obtain ⟨zv, hz1, hz2⟩ := zeroCV_ok (σ := σ) (m := m) hz w
          simp at e; subst e
          refine ⟨if ok then .tuple #[zv, .bool false] else zv, ?_, ?_⟩
          · rcases ha with ⟨rfl, rfl⟩ | ⟨b, clock, rfl, hb⟩
            · simp only at hfind; simp [Instr.lookup, run_underlying hu, run_checkKey hkk, hfind, hz1]
            · simp [Instr.lookup, run_underlying hu, run_getMap hb, run_checkKey hkk, hfind, hz1]
          · cases ok <;> simp [dv, dvs, hz2, SB.den]
    · simp at e
  · simp at e

theorem ents_append {m : M} : ∀ {es : List (CV × CV × Nat)} {ws : List MapEntry} {k v : CV} {e : MapEntry}, ents σ m es ws → dv σ m k = some e.key → dv σ m v = some e.val → ents σ m (es ++ [(k, v, e.born)]) (ws ++ [e])
  | [], [], _, _, _, _, h1, h2 => ⟨h1, h2, rfl, trivial⟩
  | [], _ :: _, _, _, _, h, _, _ => h.elim
  | _ :: _, [], _, _, _, h, _, _ => h.elim
  | (_, _, _) :: _, _ :: _, _, _, _, ⟨a, b, c, d⟩, h1, h2 => ⟨a, b, c, ents_append d h1 h2⟩

theorem ents_modify {m : M} : ∀ {es : List (CV × CV × Nat)} {ws : List MapEntry} {k v : CV} {kv vv : Value} (i : Nat), ents σ m es ws → dv σ m k = some kv → dv σ m v = some vv →
    ents σ m (es.modify i (fun p => (k, v, p.2.2))) (ws.modify i (fun e => { e with key := kv, val := vv }))
  | [], [], _, _, _, _, _, _, _, _ => by simp [ents]
  | [], _ :: _, _, _, _, _, _, h, _, _ => h.elim
  | _ :: _, [], _, _, _, _, _, h, _, _ => h.elim
  | (_, _, _) :: _, _ :: _, _, _, _, _, 0, ⟨a, b, c, d⟩, h1, h2 => by simp [ents, h1, h2, c, d]
  | (_, _, _) :: _, _ :: _, _, _, _, _, i + 1, ⟨a, b, c, d⟩, h1, h2 => by simp [ents, a, b, c, ents_modify i d h1 h2]

def mapUpdCV (P : Program) (B : Bnds) (A : List SB) (h : Heap) (t : TypeId) (x k v : CV) : R Heap :=
  match undQ P t with
  | some (.map kt _) => if intKey P kt then match x with
    | .map id => match h.obj id with
      | some (.map es clock) => (findCV B A k es 0).bind fun res => match res with
        | some (i, _) => R.ofOpt 168 (h.set id (some (.map (es.modify i (fun p => (k, v, p.2.2))) clock)))
        | none => R.ofOpt 169 (h.set id (some (.map (es ++ [(k, v, clock)]) (clock + 1))))
      | _ => .bad 170
    | _ => .bad 171
    else .bad 172
  | _ => .bad 173

theorem run_setMap {w : World} {b : Nat} {arr arr' : Array MapEntry} {clock c' : Nat} (hb : w.heap[b]? = some (.map arr clock)) :
    (setObj b (.map arr' c')).run P w = .ok () { w with heap := w.heap.setIfInBounds b (.map arr' c') } := by
  simp [setObj, Sem.run, hb]

theorem Rep.setMap {m : M} {h h' : Heap} {w : World} (r : Rep σ m h w) {id : Nat} {es es' : List (CV × CV × Nat)} {clock c' : Nat} (ho : h.obj id = some (.map es clock)) {b n : Nat} (hm : m id = some (b, n))
    (hs : h.set id (some (.map es' c')) = some h') {arr' : Array MapEntry} (he : ents σ m es' arr'.toList) :
    Rep σ m h' { w with heap := w.heap.setIfInBounds b (.map arr' c') } ∧ Evo h m w h' m { w with heap := w.heap.setIfInBounds b (.map arr' c') } := by
  obtain ⟨arr, hb, _⟩ := r.map ho hm
  have hlt := (Array.getElem?_eq_some_iff.1 hb).1
  refine r.upd ho hm hs (wo' := .map arr' c') ?_ ⟨arr', rfl, he⟩ (by simp) ?_ ⟨rfl, rfl, rfl⟩
  · simp [hlt]
  · intro x hx
    rw [Array.getElem?_setIfInBounds_ne (fun h => hx h.symm)]

theorem mapUpdCV_ok (hB : B.ok σ) (hA : Holds σ A) {m : M} {h h' : Heap} {w : World} (r : Rep σ m h w) {t : TypeId} {x k v : CV} {vx vk vv : Value} (hx : dv σ m x = some vx) (hk : dv σ m k = some vk) (hv : dv σ m v = some vv)
    (e : mapUpdCV P B A h t x k v = .ok h') : ∃ w', (Instr.mapUpdate t vx vk vv).run P w = .ok () w' ∧ Rep σ m h' w' ∧ Evo h m w h' m w' := by
  unfold mapUpdCV at e
  simp only [undQ_eq] at e
  split at e
  · rename_i kt et hu
    split at e
    · rename_i hik
      obtain ⟨kk, hkk⟩ := intKey_ok hik
      split at e
      · rename_i id
        simp only [dv, Option.map_eq_some_iff] at hx
        obtain ⟨⟨b, q⟩, hm, rfl⟩ := hx
        split at e
        · rename_i es clock ho
          obtain ⟨arr, hb, he⟩ := r.map ho hm
          replace e := R.bind_ok e; obtain ⟨res, hres, e⟩ := e
          obtain ⟨r', hf, hm'⟩ := findCV_ok hB hA (kk := kk) hk es arr.toList 0 he hres
          simp only [Instr.mapUpdate, Sem.run_bind, run_underlying hu, Result.andThen_ok, run_getMap hb, run_checkKey hkk, run_findKey hkk hf]
          split at e
          · rename_i i c
            cases r' with
            | none => exact hm'.elim
            | some p =>
              obtain ⟨j, v'⟩ := p
              simp only at hm'
              obtain ⟨rfl, _, _, hkey⟩ := hm'
              simp only [Nat.sub_zero] at hkey
              obtain ⟨hr, hev⟩ := r.setMap ho hm (R.ofOpt_ok e) (arr' := arr.modify i fun e => { e with key := vk, val := vv }) (by rw [Array.toList_modify]; exact ents_modify i he hk hv)
              refine ⟨_, ?_, hr, hev⟩
              have hk2 : ((arr[i]?).map (·.key)).getD vk = vk := by
                have : arr[i]? = arr.toList[i]? := by simp
                rw [this, hkey]; rfl
              have hsame : Instr.sameBits 10000 vk vk = true := by
                unfold findCV at hres
                cases es with
                | nil => simp at hres
                | cons p ps =>
                  simp only at hres
                  replace hres := R.bind_ok hres; obtain ⟨_, hkq, _⟩ := hres
                  unfold keyEq at hkq
                  split at hkq
                  · simp [dv] at hk; subst hk
                    simp [Instr.sameBits]
                  · simp at hkq
              simp only [hk2, Instr.keyThatStays, hsame, if_true, Sem.run_bind, Sem.run_pure, Result.andThen_ok]
              rw [run_setMap hb]
          · cases r' with
            | some p => exact hm'.elim
            | none =>
              obtain ⟨hr, hev⟩ := r.setMap ho hm (R.ofOpt_ok e) (arr' := arr.push { key := vk, val := vv, born := clock }) (by rw [Array.toList_push]; exact ents_append (e := { key := vk, val := vv, born := clock }) he hk hv)
              exact ⟨_, run_setMap hb, hr, hev⟩
        · simp at e
      · simp at e
    · simp at e
  · simp at e
end
end
end Go.Sx
