/- SX, part 7: append. -/
import Derived.Test.YtmamgkangmnkdaaGreatDoorSxOps4
namespace Go.Sx
open Go
noncomputable section
section
variable {P : Program} {B : Bnds} {A : List SB} {σ : Vl}

theorem Rep.kill {m : M} {h h' : Heap} {w : World} (r : Rep σ m h w) {id : Nat} (hs : h.set id none = some h') : Rep σ m h' w ∧ Evo h m w h' m w := by
  have key : ∀ i o, h'.obj i = some o → h.obj i = some o := by
    intro i o hi
    rw [Heap.obj_set hs] at hi
    split at hi
    · simp at hi
    · exact hi
  refine ⟨⟨?_, fun i o hi => r.obj i o (key i o hi), fun i j o o' b n n' hi hj => r.inj i j o o' b n n' (key i o hi) (key j o' hj)⟩, ?_⟩
  · intro i hi hN; rw [Heap.n_set hs] at hi; exact r.top i hi hN
  · exact ⟨Nat.le_refl _, by rw [Heap.n_set hs]; exact Nat.le_refl _, M.le_refl m, fun _ _ => rfl, fun _ _ _ => rfl, fun i o _ n hi hm => .inr ⟨i, o, n, key i o hi, hm⟩, .refl w⟩

/-- An id gives its block to a new one. -/
theorem Rep.swap {m : M} {h h1 h2 : Heap} {w w' : World} (r : Rep σ m h w) {id : Nat} {o o' : HObj} {b n : Nat} {wo' : Obj}
    (ho : h.obj id = some o) (hm : m id = some (b, n)) (hs : h.set id none = some h1) (hn : h1.new o' = some h2) (hN : h2.n ≤ σ.N) (hb : w'.heap[b]? = some wo') (hr : ORep σ m o' n wo')
    (hsz : w'.heap.size = w.heap.size) (hoth : ∀ x, x ≠ b → w'.heap[x]? = w.heap[x]?) (hsy : SysEq w w') :
    Rep σ (m.put h.n (b, n)) h2 w' ∧ Evo h m w h2 (m.put h.n (b, n)) w' := by
  have hn1 : h1.n = h.n := Heap.n_set hs
  have hN' : h.n < σ.N := by rw [Heap.n_new hn, hn1] at hN; omega
  have hle : m.le (m.put h.n (b, n)) := M.le_put (r.top h.n (Nat.le_refl _) hN')
  have hidn : id ≠ h.n := r.ne hN' ho
  have hold : ∀ i, i ≠ h.n → m.put h.n (b, n) i = m i := fun i hi => by simp [M.put, hi]
  have hnew : m.put h.n (b, n) h.n = some (b, n) := by simp [M.put]
  have cases2 : ∀ i oi, h2.obj i = some oi → (i = h.n ∧ oi = o') ∨ (i ≠ h.n ∧ i ≠ id ∧ h.obj i = some oi) := by
    intro i oi hi
    rw [Heap.obj_new hn, hn1] at hi
    split at hi
    · rename_i e; simp at hi; exact .inl ⟨e, hi.symm⟩
    · rename_i e
      rw [Heap.obj_set hs] at hi
      split at hi
      · simp at hi
      · rename_i e'; exact .inr ⟨e, e', hi⟩
  refine ⟨⟨?_, ?_, ?_⟩, ⟨by omega, by rw [Heap.n_new hn, hn1]; omega, hle, fun i hi => hold i (by rw [Heap.n_new hn, hn1] at hi; omega), ?_, ?_, hsy⟩⟩
  · intro i hi hiN; rw [Heap.n_new hn, hn1] at hi; rw [hold i (by omega)]; exact r.top i (by omega) hiN
  · intro i oi hi
    rcases cases2 i oi hi with ⟨rfl, rfl⟩ | ⟨e1, e2, hi'⟩
    · exact ⟨b, n, wo', hnew, hb, hr.mono hle⟩
    · obtain ⟨bi, ni, woi, hmi, hbi, hri⟩ := r.obj i oi hi'
      refine ⟨bi, ni, woi, by rw [hold i e1]; exact hmi, ?_, hri.mono hle⟩
      rw [hoth bi ?_]; exact hbi
      intro hbb; subst hbb
      exact e2 (r.inj i id oi o bi ni n hi' ho hmi hm)
  · intro i j oi oj bi ni nj hi hj hmi hmj
    rcases cases2 i oi hi with ⟨rfl, rfl⟩ | ⟨e1, e2, hi'⟩
    · rcases cases2 j oj hj with ⟨rfl, rfl⟩ | ⟨e1', e2', hj'⟩
      · rfl
      · rw [hnew] at hmi; simp at hmi; obtain ⟨rfl, rfl⟩ := hmi
        rw [hold j e1'] at hmj
        exact absurd (r.inj j id oj o b nj n hj' ho hmj hm) e2'
    · rw [hold i e1] at hmi
      rcases cases2 j oj hj with ⟨rfl, rfl⟩ | ⟨e1', e2', hj'⟩
      · rw [hnew] at hmj; simp at hmj; obtain ⟨rfl, rfl⟩ := hmj
        exact absurd (r.inj i id oi o b ni n hi' ho hmi hm) e2
      · rw [hold j e1'] at hmj
        exact r.inj i j oi oj bi ni nj hi' hj' hmi hmj
  · intro x _ hx
    exact hoth x (fun e => hx id o n ho (e ▸ hm))
  · intro i oi bi ni hi hmi
    right
    rcases cases2 i oi hi with ⟨rfl, rfl⟩ | ⟨e1, e2, hi'⟩
    · rw [hnew] at hmi; simp at hmi; obtain ⟨rfl, rfl⟩ := hmi
      exact ⟨id, o, n, ho, hm⟩
    · rw [hold i e1] at hmi; exact ⟨i, oi, ni, hi', hmi⟩

theorem append_fits {w : World} {t tx ty e : TypeId} {i : TypeInfo} (ht : P.underlying t = some (.slice e))
    {base : Option Addr} {sLen sCap n : Nat} {x : Value} {news : List Value}
    (hsrc : SrcOk P i tx x n news w) (hi : P.info? e = some i) (hby : i.bytes < 2 ^ 16)
    (hfit : sLen + n ≤ sCap) {w' : World} (hs : (match base with | some a => storeCells (a.add (sLen * i.size)) news | none => pure ()).run P w = .ok () w') :
    (Builtin.append_ #[t, tx] ty #[.slice base sLen sCap, x]).run P w = .ok (.slice base (sLen + n) sCap) w' := by
  rcases hsrc with ⟨d, htx, hd, hn, hl⟩ | ⟨k, q, z, htx, rfl, hn30, hz, hzs, rfl⟩
  · have hn := hn w rfl
    rcases hd with ⟨e', rfl⟩ | rfl
    all_goals
      cases base with
      | none =>
        simp at hs; subst hs
        simp [Builtin.append_, run_underlying ht, run_sizeOf hi, run_underlying htx, hl, hfit, hn]
      | some a =>
        simp only at hs
        simp [Builtin.append_, run_underlying ht, run_sizeOf hi, run_underlying htx, hl, hfit, hn, hs]
  · have hw := wrap_nat hn30
    have h0 : ¬ ((n : Int) < 0) := by omega
    have hbn : n * i.bytes ≤ 2 ^ 30 * 2 ^ 16 := Nat.mul_le_mul (by omega) (by omega)
    have hb48 : ¬ (281474976710656 < (n : Int) * (i.bytes : Int)) := by
      have : (n : Int) * (i.bytes : Int) = ((n * i.bytes : Nat) : Int) := by simp
      omega
    by_cases hn0 : n * i.size = 0
    · have hnil : (List.replicate n z.cells.toList).flatten = [] := by
        apply List.eq_nil_of_length_eq_zero
        rw [List.length_flatten]; simp [hzs, hn0]
      rw [hnil] at hs
      cases base with
      | none =>
        simp at hs; subst hs
        simp [Builtin.append_, run_underlying ht, run_sizeOf hi, run_underlying htx, asInt, asIntOf, hw, h0, hb48, run_typeInfo hi, hfit, hn0]
      | some a =>
        simp only at hs
        simp [Builtin.append_, run_underlying ht, run_sizeOf hi, run_underlying htx, asInt, asIntOf, hw, h0, hb48, run_typeInfo hi, hfit, hn0, hs]
    · cases base with
      | none =>
        simp at hs; subst hs
        simp [Builtin.append_, run_underlying ht, run_sizeOf hi, run_underlying htx, asInt, asIntOf, hw, h0, hb48, run_typeInfo hi, hfit, run_zeroValue hi hz]
      | some a =>
        simp only at hs
        simp [Builtin.append_, run_underlying ht, run_sizeOf hi, run_underlying htx, asInt, asIntOf, hw, h0, hb48, run_typeInfo hi, hfit, hn0, run_zeroValue hi hz, zeroCells_list, hs]

/-- What may be appended: a slice's elements, or a string's bytes. -/
def srcX (h : Heap) (i : TypeInfo) (d : TypeDesc) (x : CV) : R (Nat × List CV) :=
  match d, x with
  | .slice _, x => srcCV h i.size x
  | .int _, .int _ (.lit n) => if 0 ≤ n ∧ n < 2 ^ 16 then match i.zero with
      | some z => if z.cells.size = i.size then (R.ofOpt 262 (ofVals z.cells.toList)).bind fun zs => .ok (n.toNat, reps n.toNat zs) else .bad 263
      | none => .bad 264
    else .bad 261
  | .string, .str s => if i.size = 1 then .ok (s.length, s.map fun b => .int .u8 (.lit b.toNat)) else .bad 140
  | _, _ => .bad 141
theorem dvs_bytes {m : M} : ∀ (s : List UInt8), dvs σ m (s.map fun b => .int .u8 (.lit b.toNat)) = some (s.map fun b => Value.int .u8 b.toNat)
  | [] => by simp [dvs]
  | b :: s => by simp [dvs_cons, dv, SI.den, dvs_bytes s]
theorem srcX_ok {m : M} {h : Heap} {w : World} (r : Rep σ m h w) {i : TypeInfo} {tx : TypeId} {d : TypeDesc} {x : CV} {n : Nat} {ds : List CV} {v : Value} (htx : P.underlying tx = some d) (hx : dv σ m x = some v) (e : srcX h i d x = .ok (n, ds)) :
    ∃ vs, dvs σ m ds = some vs ∧ vs.length = n * i.size ∧ SrcOk P i tx v n vs w := by
  unfold srcX at e
  split at e
  · obtain ⟨vs, h1, h2, h3, h4, _⟩ := srcCV_ok (P := P) r hx e
    exact ⟨vs, h1, h2, .inl ⟨_, htx, .inl ⟨_, rfl⟩, h3, h4⟩⟩
  · rename_i k q n'
    split at e
    · rename_i hn
      split at e
      · rename_i z hz
        split at e
        · rename_i hzs
          replace e := R.bind_ok e; obtain ⟨zs, hzv, e⟩ := e
          simp at e; obtain ⟨rfl, rfl⟩ := e
          simp [dv, SI.den] at hx; subst hx
          have h1 := ofVals_ok σ m (R.ofOpt_ok hzv)
          refine ⟨_, dvs_reps h1 _, ?_, .inr ⟨k, q, z, htx, ?_, by omega, hz, hzs, rfl⟩⟩
          · rw [List.length_flatten]; simp [hzs]
          · congr 1; omega
        · simp at e
      · simp at e
    · simp at e
  · rename_i s
    split at e
    · rename_i hs
      simp at e; obtain ⟨rfl, rfl⟩ := e
      simp [dv] at hx; subst hx
      refine ⟨_, dvs_bytes s, by simp [hs], .inl ⟨_, htx, .inr rfl, ?_, ?_⟩⟩
      · intro w' _
        rw [hs]
        simp [Builtin.firstCells]
      · intro w'; simp [Builtin.lenOf, ByteArray.size]
    · simp at e
  · simp at e

def growCV (h : Heap) (e : TypeId) (i : TypeInfo) (olds ds : List CV) (len : Nat) : R (CV × Heap) :=
  match i.zero with
  | some z => if z.cells.size = i.size ∧ len < 2 ^ 30 then
      (R.ofOpt 142 (h.new (.cells (olds ++ ds) e true))).bind fun h' => .ok (.oslice h.n i.size 0 0 len, h')
    else .bad 143
  | none => .bad 144

def appendCV (P : Program) (h : Heap) (t tx : TypeId) (s x : CV) : R (CV × Heap) :=
  match undQ P t with
  | some (.slice e) => match infoQ P e, undQ P tx with
    | some i, some d =>
      if i.size = 0 ∨ 2 ^ 16 ≤ i.bytes then .bad 145 else
      (srcX h i d x).bind fun (n, ds) =>
      match s with
      | .nilslice => if n = 0 then .ok (.nilslice, h) else growCV h e i [] ds n
      | .slice id off len cap =>
        if len + n ≤ cap then
          if n = 0 then .ok (.slice id off len cap, h) else
          match h.obj id with
          | some (.cells cs el opn) => if off + len * i.size + ds.length ≤ cs.length ∧ ds.all CV.one = true then
              (R.ofOpt 146 (h.set id (some (.cells (cs.take (off + len * i.size) ++ ds ++ cs.drop (off + len * i.size + ds.length)) el opn)))).bind fun h' => .ok (.slice id off (len + n) cap, h')
            else .bad 147
          | _ => .bad 148
        else (srcCV h i.size (.slice id off len cap)).bind fun (_, olds) => growCV h e i olds ds (len + n)
      | .oslice id sz off base len => match h.obj id with
        | some (.cells cs el _) =>
          if n = 0 then (if 0 < sz ∧ (off + len) * sz ≤ cs.length then .ok (.oslice id sz off base len, h) else .bad 149) else
          if sz = i.size ∧ off = 0 ∧ base = 0 ∧ len * sz = cs.length ∧ el = e ∧ ds.all CV.one = true ∧ len + n < 2 ^ 30 ∧ (i.zero.map fun z => z.cells.size) = some i.size then
            (R.ofOpt 150 (h.set id none)).bind fun h1 => (R.ofOpt 151 (h1.new (.cells (cs ++ ds) el true))).bind fun h2 => .ok (.oslice h.n sz 0 0 (len + n), h2)
          else .bad 152
        | _ => .bad 153
      | _ => .bad 154
    | _, _ => .bad 155
  | _ => .bad 156

theorem growCV_ok {m : M} {h h' : Heap} {w : World} (r : Rep σ m h w) {e t tx ty : TypeId} {i : TypeInfo} (ht : P.underlying t = some (.slice e))
    (hi : P.info? e = some i) (hsz : 0 < i.size) (hby : i.bytes < 2 ^ 16) {base : Option Addr} {sLen sCap n len : Nat} {x : Value} {olds ds : List CV} {vo vn : List Value}
    (ho : ∀ w', w'.heap = w.heap → (Builtin.firstCells i.size sLen (.slice base sLen sCap)).run P w' = .ok vo.toArray w')
    (hsrc : SrcOk P i tx x n vn w)
    (hvo : dvs σ m olds = some vo) (hvn : dvs σ m ds = some vn) (hlo : vo.length = sLen * i.size) (hln : vn.length = n * i.size) (hlen : len = sLen + n)
    (hg : sCap < sLen + n) {c : CV} (e1 : growCV h e i olds ds len = .ok (c, h')) (hN : h'.n ≤ σ.N) :
    ∃ v w' m', (Builtin.append_ #[t, tx] ty #[.slice base sLen sCap, x]).run P w = .ok v w' ∧ dv σ m' c = some v ∧ Rep σ m' h' w' ∧ Evo h m w h' m' w' := by
  unfold growCV at e1
  split at e1
  · rename_i z hz
    split at e1
    · rename_i hzs
      replace e1 := R.bind_ok e1; obtain ⟨h2, hnew, e1⟩ := e1
      simp at e1; obtain ⟨rfl, rfl⟩ := e1
      subst hlen
      obtain ⟨zs, hrun, hzl, hcap⟩ := append_grow (w := w) (ty := ty) ht hi hz ho hsrc hg hzs.2 hby
      obtain ⟨m', _, hm', hle, hr, hev⟩ := r.newCells (dvs_append hvo hvn) zs true (by simp) (R.ofOpt_ok hnew) hN
      have hheap : (w.drew.alloc (.cells (vo ++ vn ++ zs).toArray e)).heap = ({ w with heap := w.heap.push (.cells (vo ++ vn ++ zs).toArray e) } : World).heap := rfl
      refine ⟨_, _, m', hrun, ?_, hr.congr hheap, hev.congr hheap ⟨rfl, rfl, rfl⟩⟩
      have htot : (vo ++ vn ++ zs).length = grownCap w (sLen + n) sCap e * i.size := by
        have h3 : (grownCap w (sLen + n) sCap e - (sLen + n)) * i.size = grownCap w (sLen + n) sCap e * i.size - (sLen + n) * i.size := Nat.sub_mul _ _ _
        have h4 : (sLen + n) * i.size ≤ grownCap w (sLen + n) sCap e * i.size := Nat.mul_le_mul_right _ hcap
        have h5 : (sLen + n) * i.size = sLen * i.size + n * i.size := Nat.add_mul _ _ _
        simp only [List.length_append, hlo, hln, hzl, hzs.1]
        omega
      rw [htot] at hm'
      simp only [dv, hm', Option.map_some, Nat.mul_div_cancel _ hsz, Nat.zero_mul, Nat.sub_zero]
      simp
    · simp at e1
  · simp at e1

theorem appendCV_ok {m : M} {h h' : Heap} {w : World} (r : Rep σ m h w) {t tx ty : TypeId} {s x c : CV} {vs vx : Value} (hs : dv σ m s = some vs) (hx : dv σ m x = some vx) (e : appendCV P h t tx s x = .ok (c, h')) (hN : h'.n ≤ σ.N) :
    ∃ v w' m', (Builtin.append_ #[t, tx] ty #[vs, vx]).run P w = .ok v w' ∧ dv σ m' c = some v ∧ Rep σ m' h' w' ∧ Evo h m w h' m' w' := by
  unfold appendCV at e
  simp only [undQ_eq, infoQ_eq] at e
  split at e
  · rename_i el ht
    split at e
    · rename_i i d hi htx
      split at e
      · simp at e
      · rename_i hsz
        have hsz0 : 0 < i.size := by omega
        have hby : i.bytes < 2 ^ 16 := by omega
        replace e := R.bind_ok e; obtain ⟨⟨n, ds⟩, hsrc, e⟩ := e
        obtain ⟨vn, hvn, hln, hsx⟩ := srcX_ok (P := P) r htx hx hsrc
        try simp only at e
        split at e
        · simp [dv] at hs; subst hs
          split at e
          · rename_i hn0; subst hn0
            simp at e; obtain ⟨rfl, rfl⟩ := e
            refine ⟨_, w, m, append_fits ht hsx hi hby (Nat.le_refl _) (by simp), by simp [dv], r, Evo.refl _ _ _⟩
          · rename_i hn0
            exact growCV_ok r ht hi hsz0 hby (sLen := 0) (sCap := 0) (vo := []) (fun w' _ => by simp [Builtin.firstCells]) hsx (by simp [dvs]) hvn (by simp) hln (by omega) (by omega) e hN
        · rename_i id off len cap
          split at e
          · rename_i hfit
            split at e
            · rename_i hn0; subst hn0
              simp at e; obtain ⟨rfl, rfl⟩ := e
              have hv0 : vn = [] := by apply List.eq_nil_of_length_eq_zero; omega
              subst hv0
              have hs' := hs
              simp only [dv, Option.map_eq_some_iff] at hs'
              obtain ⟨⟨b, q⟩, hm, rfl⟩ := hs'
              refine ⟨_, w, m, append_fits ht hsx hi hby hfit (by simp [storeCells]), by simpa using hs, r, Evo.refl _ _ _⟩
            · rename_i hn0
              split at e
              · rename_i cs el' opn ho
                split at e
                · rename_i hcond
                  replace e := R.bind_ok e; obtain ⟨h2, hset, e⟩ := e
                  simp at e; obtain ⟨rfl, rfl⟩ := e
                  obtain ⟨b, q, w', hm, hrun, hr, hev⟩ := r.splice (P := P) ho hcond.1 hcond.2 hvn (R.ofOpt_ok hset)
                  simp only [dv, hm, Option.map_some, Option.some.injEq] at hs
                  subst hs
                  refine ⟨_, w', m, append_fits ht hsx hi hby hfit (by simpa [add_none] using hrun), by simp [dv, hm], hr, hev⟩
                · simp at e
              · simp at e
          · rename_i hfit
            replace e := R.bind_ok e; obtain ⟨⟨n', olds⟩, hold, e⟩ := e
            obtain ⟨vo, hvo, hlo, hfo, hlo', hsh⟩ := srcCV_ok (P := P) r hs hold
            have hs' := hs
            simp only [dv, Option.map_eq_some_iff] at hs'
            obtain ⟨⟨b, q⟩, hm, rfl⟩ := hs'
            have hn' : n' = len := by
              have := hlo' w
              simp [Builtin.lenOf] at this; exact this.symm
            subst hn'
            exact growCV_ok r ht hi hsz0 hby hfo hsx hvo hvn hlo hln rfl (by omega) e hN
        · rename_i id sz off base len
          split at e
          · rename_i cs el' opn ho
            have hs' := hs
            simp only [dv, Option.map_eq_some_iff] at hs'
            obtain ⟨⟨b, q⟩, hm, rfl⟩ := hs'
            have hq := r.cap_ge ho hm
            split at e
            · rename_i hn0; subst hn0
              split at e
              · rename_i hcond
                simp at e; obtain ⟨rfl, rfl⟩ := e
                have hv0 : vn = [] := by apply List.eq_nil_of_length_eq_zero; omega
                subst hv0
                have hqs : off + len ≤ q / sz := (Nat.le_div_iff_mul_le hcond.1).2 (by omega)
                refine ⟨_, w, m, append_fits ht hsx hi hby (by show len + 0 ≤ q / sz - off; omega) (by simp [storeCells]), by simpa using hs, r, Evo.refl _ _ _⟩
              · simp at e
            · rename_i hn0
              split at e
              · rename_i hcond
                obtain ⟨rfl, rfl, rfl, hlen, rfl, hone, hbig, hzero⟩ := hcond
                replace e := R.bind_ok e; obtain ⟨h1, hkill, e⟩ := e
                replace e := R.bind_ok e; obtain ⟨h2, hnew, e⟩ := e
                simp at e; obtain ⟨rfl, rfl⟩ := e
                obtain ⟨b', q', wo, hm', hb, arr, rfl, hnq, us, zs, hu, ha, hz⟩ := r.obj id _ ho
                rw [hm] at hm'; simp at hm'; obtain ⟨rfl, rfl⟩ := hm'
                have hlu := dvs_length hu
                have hlv := dvs_length hvn
                have hone' := dvs_one hvn hone
                have hla : arr.size = us.length + zs.length := by rw [← Array.length_toList, ha]; simp
                have haddr : (if q / i.size = 0 then 0 else 0 * i.size) = 0 := by simp
                simp only [haddr, Nat.sub_zero]
                by_cases hfit : len + n ≤ q / i.size
                · have hfit2 : (len + n) * i.size ≤ q := (Nat.le_div_iff_mul_le hsz0).1 hfit
                  have hfit3 : len * i.size + vn.length ≤ arr.size := by rw [hln, ← Nat.add_mul]; omega
                  obtain ⟨w', arr', hrun, hb', harr, hsz', hhs, hsy, hoth⟩ := run_storeCells (P := P) b (len * i.size) el' vn 0 arr w hb (by simpa using hfit3) hone'
                  have hor : ORep σ m (.cells (cs ++ ds) el' true) q (.cells arr' el' (0, 0)) := by
                    refine ⟨arr', rfl, by omega, us ++ vn, zs.drop vn.length, dvs_append hu hvn, ?_, by simp⟩
                    rw [harr, ha]
                    simp only [Nat.add_zero]
                    have e1 : (us ++ zs).take (len * i.size) = us := by
                      rw [List.take_append_of_le_length (by omega), List.take_of_length_le (by omega)]
                    have e2 : (us ++ zs).drop (len * i.size + vn.length) = zs.drop vn.length := by
                      rw [List.drop_append]
                      have : us.drop (len * i.size + vn.length) = [] := List.drop_eq_nil_of_le (by omega)
                      rw [this, List.nil_append]
                      congr 1; omega
                    rw [e1, e2]
                  obtain ⟨hr, hev⟩ := r.swap ho hm (R.ofOpt_ok hkill) (R.ofOpt_ok hnew) hN hb' hor hhs hoth hsy
                  refine ⟨_, w', _, append_fits ht hsx hi hby hfit (by simpa [add_none] using hrun), ?_, hr, hev⟩
                  simp [dv, M.put]
                · obtain ⟨hrk, hevk⟩ := r.kill (R.ofOpt_ok hkill)
                  cases hzz : i.zero with
                  | none => simp [hzz] at hzero
                  | some z =>
                    simp only [hzz, Option.map_some, Option.some.injEq] at hzero
                    have hfo : ∀ w', w'.heap = w.heap → (Builtin.firstCells i.size len (.slice (some ⟨b, 0, none⟩) len (q / i.size))).run P w' = .ok us.toArray w' := by
                      intro w' hw'
                      refine run_firstCells_some w' i.size len _ len _ us (by omega) ?_
                      intro j u hj
                      rw [add_none]
                      have hju := (List.getElem?_eq_some_iff.1 hj).1
                      simp only [World.cell?, hw', hb]
                      simp only [Option.isSome_none, Bool.false_eq_true, if_false, Nat.zero_add]
                      have : arr[j]? = arr.toList[j]? := by simp
                      rw [this, ha, List.getElem?_append_left hju]; exact hj
                    have hg := growCV_ok (P := P) (e := el') (ty := ty) (c := .oslice h1.n i.size 0 0 (len + n)) (h' := h2) hrk ht hi hsz0 hby hfo hsx hu hvn (by omega) hln rfl (by omega)
                      (by unfold growCV; simp only [hzz]; rw [if_pos ⟨hzero, hbig⟩, R.ofOpt_ok hnew]; rfl) hN
                    obtain ⟨v, w', m', hrun, hdv, hr, hev⟩ := hg
                    rw [Heap.n_set (R.ofOpt_ok hkill)] at hdv
                    exact ⟨v, w', m', hrun, hdv, hr, hevk.trans hev⟩
              · simp at e
          · simp at e
        · simp at e
    · simp at e
  · simp at e
end
end
end Go.Sx
