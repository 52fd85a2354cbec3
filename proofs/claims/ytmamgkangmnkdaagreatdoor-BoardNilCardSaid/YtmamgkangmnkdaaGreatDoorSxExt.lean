/- SX, part 9c: functions without a body: what reflectlite tells of types, and its variables. -/
import Derived.Test.YtmamgkangmnkdaaGreatDoorSxQuick
import Derived.Laws.Externs
import Derived.KernelRfl
namespace Go.Sx
open Go Go.Extern
noncomputable section

/-- A value that a function without a body answers. -/
def ofRes : Value → Option CV
  | .pointer (some ⟨g, off, none⟩) => some (.gptr g off)
  | .iface t (.agg ⟨[.pointer (some ⟨g, off, none⟩)]⟩) => some (.iface t (.agg [.gptr g off]))
  | v => ofVal v
theorem ofRes_ok (σ : Vl) (m : M) {v : Value} {c : CV} (h : ofRes v = some c) : dv σ m c = some v := by
  unfold ofRes at h
  split at h
  · simp at h; subst h; simp [dv]
  · simp at h; subst h; simp [dv, dvs]
  · exact ofVal_ok σ m h

section
variable {P : Program} {B : Bnds} {A : List SB} {σ : Vl}

theorem find_of {fn : Func} {n : String} {e : Array Value → Sem Value} (h : fn.name = n) (h1 : (Extern.allGenericRows.lookup n).isNone = true) (h2 : (Extern.allTypedRows.lookup n).isNone = true) (h3 : Extern.allRows.lookup n = some e) : Extern.find fn = some e := by
  have h1' : Extern.allGenericRows.lookup n = none := by simpa using h1
  have h2' : Extern.allTypedRows.lookup n = none := by simpa using h2
  simp [Extern.find, h, h1', h2', h3]

theorem find_typeOf {fn : Func} (h : fn.name = "internal/reflectlite.TypeOf") : Extern.find fn = some ReflectliteType.typeOf :=
  find_of h (by kernel_rfl) (by kernel_rfl) (by kernel_rfl)
theorem find_valueOf {fn : Func} (h : fn.name = "internal/reflectlite.ValueOf") : Extern.find fn = some (fun args => ReflectliteValue.unpack (args.getD 0 (.tuple #[]))) :=
  find_of h (by kernel_rfl) (by kernel_rfl) (by kernel_rfl)
theorem find_vType {fn : Func} (h : fn.name = "(internal/reflectlite.Value).Type") : Extern.find fn = some (ReflectliteValue.methodAny (ReflectliteValue.valueError "reflectlite.Value.Type" 0) fun t _ _ _ => ReflectliteType.toType t) :=
  find_of h (by kernel_rfl) (by kernel_rfl) (by kernel_rfl)
theorem find_isNil {fn : Func} (h : fn.name = "(internal/reflectlite.Value).IsNil") : Extern.find fn = some (ReflectliteValue.method (ReflectliteValue.valueError "reflectlite.Value.IsNil" 0) ReflectliteValue.isNil) :=
  find_of h (by kernel_rfl) (by kernel_rfl) (by kernel_rfl)
theorem find_vElem {fn : Func} (h : fn.name = "(internal/reflectlite.Value).Elem") : Extern.find fn = some (ReflectliteValue.method (ReflectliteValue.valueError "reflectlite.Value.Elem" 0) ReflectliteValue.elem) :=
  find_of h (by kernel_rfl) (by kernel_rfl) (by kernel_rfl)
theorem find_vSet {fn : Func} (h : fn.name = "(internal/reflectlite.Value).Set") : Extern.find fn = some ReflectliteValue.set :=
  find_of h (by kernel_rfl) (by kernel_rfl) (by kernel_rfl)
/-- The variable of a Value: its type, where it lies, its flags. -/
def partsCV (P : Program) (c : CV) : R (TypeId × Nat × Nat × Nat) :=
  match c with
  | .agg [h, .ptr id off, .int .u64 (.lit f)] => if f = 0 then .bad 481 else
    (R.ofOpt 482 h.tv).bind fun hv => (R.ofOpt 483 (pev P (Rtype.ofHandle hv))).bind fun t => .ok (t, id, off, f.toNat)
  | _ => .bad 484

theorem partsCV_ok {m : M} {c : CV} {v : Value} {t : TypeId} {id off f : Nat} (hv : dv σ m c = some v) (e : partsCV P c = .ok (t, id, off, f)) :
    ∃ b n, m id = some (b, n) ∧ ∀ w, (ReflectliteValue.partsAny v).run P w = .ok (some (t, ⟨b, off, none⟩, f)) w := by
  unfold partsCV at e
  split at e
  · rename_i h id' off' f'
    split at e
    · simp at e
    · rename_i hf
      replace e := R.bind_ok e; obtain ⟨hh, hth, e⟩ := e
      replace e := R.bind_ok e; obtain ⟨t', ht, e⟩ := e
      simp at e; obtain ⟨rfl, rfl, rfl, rfl⟩ := e
      simp only [dv, Option.map_eq_some_iff] at hv
      obtain ⟨vs, hvs, rfl⟩ := hv
      obtain ⟨h', us, hh', hus, rfl⟩ := dvs_cons.1 hvs
      obtain ⟨p', us2, hp', hus2, rfl⟩ := dvs_cons.1 hus
      obtain ⟨n', us3, hn', hus3, rfl⟩ := dvs_cons.1 hus2
      simp [dvs] at hus3; subst hus3
      rw [tv_ok σ m h (R.ofOpt_ok hth)] at hh'
      simp only [Option.some.injEq] at hh'; subst hh'
      simp only [dv, Option.map_eq_some_iff] at hp'
      obtain ⟨⟨b, n⟩, hm, rfl⟩ := hp'
      simp only [dv, SI.den, Option.some.injEq] at hn'; subst hn'
      refine ⟨b, n, hm, fun w => ?_⟩
      have hrun := pev_ok (R.ofOpt_ok ht) w
      have : ReflectliteValue.partsAny (.agg [hh, .pointer (some ⟨b, off', none⟩), .int .u64 f'].toArray) = (do pure (some (← Rtype.ofHandle hh, ⟨b, off', none⟩, f'.toNat))) := by
        cases f' with
        | ofNat k => cases k with
          | zero => exact absurd rfl hf
          | succ k => rfl
        | negSucc k => rfl
      rw [this]
      simp [hrun]
  · simp at e

def nilCV : CV → Option Bool
  | .nilFunc | .nilIface | .nilmap | .nilptr | .nilslice => some true
  | .ptr _ _ | .gptr _ _ | .slice _ _ _ _ | .oslice _ _ _ _ _ | .map _ | .iface _ _ => some false
  | _ => none

/-- A Value of a variable. -/
def mkV (P : Program) (t : TypeId) (p : CV) (flags : Nat) : R CV :=
  (R.ofOpt 485 (pev P (Rtype.handle t))).bind fun hv => (R.ofOpt 486 (ofRes hv)).bind fun h => (R.ofOpt 487 (pev P (Rtype.kind t))).bind fun k =>
  .ok (.agg [h, p, .int .u64 (.lit (Int.ofNat (k + ReflectliteValue.flagIndir + flags)))])
theorem mkV_ok {m : M} {t : TypeId} {p c : CV} {a : Addr} {flags : Nat} (hp : dv σ m p = some (.pointer (some a))) (e : mkV P t p flags = .ok c) :
    ∃ v, dv σ m c = some v ∧ ∀ w, (ReflectliteValue.mk t a flags).run P w = .ok v w := by
  unfold mkV at e
  replace e := R.bind_ok e; obtain ⟨hv, h1, e⟩ := e
  replace e := R.bind_ok e; obtain ⟨h, h2, e⟩ := e
  replace e := R.bind_ok e; obtain ⟨k, h3, e⟩ := e
  simp at e; subst e
  refine ⟨.agg #[hv, .pointer (some a), .int .u64 (Int.ofNat (k + ReflectliteValue.flagIndir + flags))], ?_, fun w => ?_⟩
  · simp [dv, dvs, hp, ofRes_ok σ m (R.ofOpt_ok h2), SI.den]
  · simp [ReflectliteValue.mk, pev_ok (R.ofOpt_ok h1) w, pev_ok (R.ofOpt_ok h3) w]

def noPackQ (P : Program) (_ : TypeId) : Option Unit := if ownAll P then some () else none
theorem noPackQ_ok {t : TypeId} (h : noPackQ P t = some ()) (what : String) (w : World) : (Rtype.noPack what t).run P w = .ok () w := by
  unfold noPackQ at h
  split at h
  · rename_i ho
    simp [Rtype.noPack, packed_false ho]
  · simp at h
def noPackMethodsQ (P : Program) (t : TypeId) : Option Unit := if ownAll P && !(mopQ P P.depth t) then some () else none
theorem noPackMethodsQ_ok {t : TypeId} (h : noPackMethodsQ P t = some ()) (what : String) (w : World) : (Rtype.noPackMethods what t).run P w = .ok () w := by
  unfold noPackMethodsQ at h
  split at h
  · rename_i ho
    simp only [Bool.and_eq_true, Bool.not_eq_true'] at ho
    simp [Rtype.noPackMethods, mopQ_ok ho.1, ho.2]
  · simp at h
def noPackHeldQ (P : Program) (t : TypeId) : Option Unit := if ownAll P && !(hopQ P P.depth t) then some () else none
theorem noPackHeldQ_ok {t : TypeId} (h : noPackHeldQ P t = some ()) (what : String) (w : World) : (Rtype.noPackHeld what t).run P w = .ok () w := by
  unfold noPackHeldQ at h
  split at h
  · rename_i ho
    simp only [Bool.and_eq_true, Bool.not_eq_true'] at ho
    simp [Rtype.noPackHeld, hopQ_ok ho.1, ho.2]
  · simp at h

/-- An int64 in a cell. -/
def cellCV (h : Heap) (p : CV) : R (Nat × Nat × List CV × TypeId × Bool × SI) :=
  match p with
  | .ptr id off => match h.obj id with
    | some (.cells cs el opn) => match cs[off]? with
      | some (.int .i64 x) => .ok (id, off, cs, el, opn, x)
      | _ => .bad 519
    | _ => .bad 520
  | _ => .bad 521
theorem cellCV_ok {m : M} {h : Heap} {w : World} (r : Rep σ m h w) {p : CV} {pv : Value} (hp : dv σ m p = some pv) {id off : Nat} {cs : List CV} {el : TypeId} {opn : Bool} {x : SI} (e : cellCV h p = .ok (id, off, cs, el, opn, x)) :
    h.obj id = some (.cells cs el opn) ∧ off < cs.length ∧ ∃ b n, m id = some (b, n) ∧ pv = .pointer (some ⟨b, off, none⟩) ∧ w.cell? ⟨b, off, none⟩ = some (.int .i64 (x.den σ)) ∧ w.frozen? ⟨b, off, none⟩ = false := by
  unfold cellCV at e
  split at e
  · rename_i id' off'
    split at e
    · rename_i cs' el' opn' ho
      split at e
      · rename_i x' hx
        simp at e; obtain ⟨rfl, rfl, rfl, rfl, rfl, rfl⟩ := e
        obtain ⟨b, n, vs, hm, _, hv, hcell, hfr⟩ := r.cell ho
        simp only [dv, hm, Option.map_some, Option.some.injEq] at hp
        subst hp
        obtain ⟨v, hv1, hv2⟩ := dvs_get_some hv hx
        simp only [dv, Option.some.injEq] at hv2
        subst hv2
        exact ⟨ho, (List.getElem?_eq_some_iff.1 hx).1, b, n, hm, rfl, hcell _ _ hv1, hfr _⟩
      · simp at e
    · simp at e
  · simp at e

def addCV (h : Heap) (p : CV) (y : SI) : R (CV × Heap) :=
  (cellCV h p).bind fun (id, off, cs, el, opn, x) =>
    let s := SI.wrap' [] .i64 (SI.add' x y)
    (R.ofOpt 523 (splS cs off [.int .i64 s])).bind fun r => (R.ofOpt 522 (h.set id (some (.cells r el opn)))).bind fun h' => .ok (.int .i64 s, h')
theorem addCV_ok {m : M} {h h' : Heap} {w : World} (r : Rep σ m h w) {p c : CV} {pv : Value} (hp : dv σ m p = some pv) {y : SI} {k : IntKind} (e : addCV h p y = .ok (c, h')) :
    ∃ v w', (Atomic.update (Op.intArith .add) .i64 true #[pv, .int k (y.den σ)]).run P w = .ok v w' ∧ dv σ m c = some v ∧ Rep σ m h' w' ∧ Evo h m w h' m w' := by
  unfold addCV at e
  replace e := R.bind_ok e; obtain ⟨⟨id, off, cs, el, opn, x⟩, hc, e⟩ := e
  try simp only at e
  replace e := R.bind_ok e; obtain ⟨r', hspl, e⟩ := e
  replace e := R.bind_ok e; obtain ⟨h2, hs, e⟩ := e
  rw [splS_ok (R.ofOpt_ok hspl)] at hs
  simp at e; obtain ⟨rfl, rfl⟩ := e
  obtain ⟨ho, hlt, b, n, hm, rfl, hcell, hfr⟩ := cellCV_ok r hp hc
  have hden : (SI.wrap' [] .i64 (SI.add' x y)).den σ = IntKind.i64.wrap (x.den σ + y.den σ) := by
    rw [SI.den_wrap' (B := []) (by intro _ _ _ h; simp at h), SI.den_add']
  have hone : ([CV.int .i64 (SI.wrap' [] .i64 (SI.add' x y))] : List CV).all CV.one = true := rfl
  obtain ⟨b', n', w', hm', hrun, hr, hev⟩ := r.splice (P := P) (vs := [.int .i64 (IntKind.i64.wrap (x.den σ + y.den σ))]) ho (by simp; omega) hone (by simp [dv, dvs, hden]) (R.ofOpt_ok hs)
  rw [hm] at hm'; simp at hm'; obtain ⟨rfl, rfl⟩ := hm'
  refine ⟨.int .i64 (IntKind.i64.wrap (x.den σ + y.den σ)), w', ?_, by simp [dv, hden], hr, hev⟩
  have hst : ∀ mode, (store ⟨b, off, none⟩ (.int .i64 (IntKind.i64.wrap (x.den σ + y.den σ))) mode).run P w = .ok () (w.setCell ⟨b, off, none⟩ (.int .i64 (IntKind.i64.wrap (x.den σ + y.den σ)))) := by
    intro mode
    rw [run_store P w _ _ mode rfl, hcell]
    simp [hfr]
  have hw : w' = w.setCell ⟨b, off, none⟩ (.int .i64 (IntKind.i64.wrap (x.den σ + y.den σ))) := by
    simp only [storeCells, Sem.run_bind, add_none, Nat.add_zero, hst, Result.andThen_ok, Sem.run_pure] at hrun
    injection hrun with _ h; exact h.symm
  subst hw
  show (do
    let a ← asAddr (.pointer (some ⟨b, off, none⟩))
    let old ← Atomic.read (.int .i64) a
    let new ← Op.intArith .add .i64 (← asInt old) (← asInt (.int k (y.den σ)))
    store a new .atomic
    pure (if true then new else old) : Sem Value).run P w = _
  simp [asAddr, Atomic.read, hcell, asInt, asIntOf, Op.intArith, hst]

theorem find_addInt64 {fn : Func} (h : fn.name = "sync/atomic.AddInt64") : Extern.find fn = some (Atomic.update (Op.intArith .add) .i64 true) :=
  find_of h (by kernel_rfl) (by kernel_rfl) (by kernel_rfl)
theorem find_loadInt64 {fn : Func} (h : fn.name = "sync/atomic.LoadInt64") : Extern.find fn = some (Atomic.loadT (.int .i64)) :=
  find_of h (by kernel_rfl) (by kernel_rfl) (by kernel_rfl)

/-- What asks the program alone. -/
def pureRow (n : String) : Option (Array Value → Sem Value) :=
  if n = "(*internal/abi.Type).Kind" then some (ReflectliteType.abiMethod fun t => do pure (.int .u8 (← Rtype.kind t)))
  else if n = "(internal/reflectlite.rtype).Elem" then some (ReflectliteType.method ReflectliteType.elem)
  else if n = "(internal/reflectlite.rtype).Implements" then some (ReflectliteType.relation "Implements" ReflectliteType.implements_)
  else if n = "(internal/reflectlite.rtype).AssignableTo" then some (ReflectliteType.relation "AssignableTo" ReflectliteType.assignableTo)
  else if n = "(internal/reflectlite.rtype).Comparable" then some (ReflectliteType.method fun t => do Rtype.noPackHeld "Comparable" t; pure (.bool (← typeInfo t).comparable))
  else none
theorem find_pure {fn : Func} {e : Array Value → Sem Value} (h : pureRow fn.name = some e) : Extern.find fn = some e := by
  unfold pureRow at h
  split at h
  · rename_i hn; simp only [Option.some.injEq] at h; subst h
    exact find_of hn (by kernel_rfl) (by kernel_rfl) (by kernel_rfl)
  · split at h
    · rename_i hn; simp only [Option.some.injEq] at h; subst h
      exact find_of hn (by kernel_rfl) (by kernel_rfl) (by kernel_rfl)
    · split at h
      · rename_i hn; simp only [Option.some.injEq] at h; subst h
        exact find_of hn (by kernel_rfl) (by kernel_rfl) (by kernel_rfl)
      · split at h
        · rename_i hn; simp only [Option.some.injEq] at h; subst h
          exact find_of hn (by kernel_rfl) (by kernel_rfl) (by kernel_rfl)
        · split at h
          · rename_i hn; simp only [Option.some.injEq] at h; subst h
            exact find_of hn (by kernel_rfl) (by kernel_rfl) (by kernel_rfl)
          · simp at h

/-- Does a type have what an interface asks? -/
def implQ (P : Program) (T V : TypeId) : Option Bool :=
  (noPackMethodsQ P V).bind fun _ => (noPackMethodsQ P T).bind fun _ => (pev P (Rtype.under T)).bind fun a => (pev P (Rtype.under V)).bind fun b => (pev P (typeInfo V)).bind fun i =>
  match a.2.desc, b.2.desc with
  | .interface want, .interface got => some (want.all got.contains)
  | .interface want, _ => some (lacking want i.methods).isEmpty
  | _, _ => some false
theorem implQ_ok {T V : TypeId} {r : Bool} (h : implQ P T V = some r) (w : World) : (Rtype.implements T V).run P w = .ok r w := by
  simp only [implQ, Option.bind_eq_some_iff] at h
  obtain ⟨_, h1, _, h2, a, h3, b, h4, i, h5, h6⟩ := h
  have r1 := noPackMethodsQ_ok h1 "a method set held against an interface's list" w
  have r2 := noPackMethodsQ_ok h2 "a method set held against an interface's list" w
  simp only [Rtype.implements, Sem.run_bind, r1, r2, Result.andThen_ok, pev_ok h3 w, pev_ok h4 w]
  split at h6
  · rename_i want got ha hb
    simp only [Option.some.injEq] at h6; subst h6
    simp [ha, hb]
  · rename_i want ha hb'
    simp only [Option.some.injEq] at h6; subst h6
    have hm : (Instr.missingMethod want i.methods).isNone = (lacking want i.methods).isEmpty := by
      cases hl : lacking want i.methods with
      | nil => rw [missingMethod_none hl]; rfl
      | cons x y =>
        obtain ⟨mm, hmm⟩ := missingMethod_some (want := want) (got := i.methods) (by rw [hl]; simp)
        rw [hmm]; rfl
    rw [ha]
    cases hb : b.2.desc with
    | interface got => exact absurd hb (hb' got)
    | _ => simp [pev_ok h5 w, hm]
  · rename_i h8 h7
    simp only [Option.some.injEq] at h6; subst h6
    cases ha : a.2.desc with
    | interface want =>
      cases hb : b.2.desc with
      | interface got => exact absurd hb (h7 want got ha)
      | _ => exact absurd ha (h8 want)
    | _ => cases b.2.desc <;> rfl

def rtQ (P : Program) : Value → Option TypeId
  | .agg ⟨[h]⟩ => (pev P (Rtype.ofHandle h)).bind fun t => (noPackQ P t).map fun _ => t
  | _ => none
theorem rtQ_ok {v : Value} {t : TypeId} (h : rtQ P v = some t) (w : World) : (ReflectliteType.ofRtype v).run P w = .ok t w := by
  unfold rtQ at h
  split at h
  · rename_i x
    simp only [Option.bind_eq_some_iff, Option.map_eq_some_iff] at h
    obtain ⟨t', h1, _, h2, rfl⟩ := h
    show (do let t ← Rtype.ofHandle x; Rtype.noPack "a Type asked or handed on" t; pure t : Sem TypeId).run P w = _
    simp [pev_ok h1 w, noPackQ_ok h2 _ w]
  · simp at h

def pureQ (P : Program) (n : String) (vs : List Value) : Option Value :=
  if n = "(*internal/abi.Type).Kind" then match vs with
    | [h] => (pev P (Rtype.ofHandle h)).bind fun t => (noPackQ P t).bind fun _ => (pev P (Rtype.kind t)).map fun k => .int .u8 (k : Nat)
    | _ => none
  else if n = "(internal/reflectlite.rtype).Elem" then match vs with
    | [r] => (rtQ P r).bind fun t => (pev P (Rtype.elem? t)).bind fun e => e.bind fun e => pev P (ReflectliteType.toType e)
    | _ => none
  else if n = "(internal/reflectlite.rtype).Implements" then match vs with
    | [r, .iface _ u] => (rtQ P u).bind fun u => (rtQ P r).bind fun t => (pev P (Rtype.kind u)).bind fun k => if k = 20 then (noPackMethodsQ P t).bind fun _ => (noPackQ P u).bind fun _ => (implQ P u t).map .bool else none
    | _ => none
  else if n = "(internal/reflectlite.rtype).AssignableTo" then match vs with
    | [r, .iface _ u] => (rtQ P u).bind fun u => (rtQ P r).bind fun t => (noPackMethodsQ P t).bind fun _ => (noPackMethodsQ P u).bind fun _ => (pev P (Rtype.directlyAssignable u t)).bind fun d => (implQ P u t).map fun i => .bool (d || i)
    | _ => none
  else if n = "(internal/reflectlite.rtype).Comparable" then match vs with
    | [r] => (rtQ P r).bind fun t => (noPackHeldQ P t).bind fun _ => (pev P (typeInfo t)).map fun i => .bool i.comparable
    | _ => none
  else none

theorem rl_relation (what : String) (f : TypeId → TypeId → Sem Bool) (r u : Value) (t : TypeId) : ReflectliteType.relation what f #[r, .iface t u] = (do pure (.bool (← f (← ReflectliteType.ofRtype u) (← ReflectliteType.ofRtype r)))) := rfl
theorem rl_abi (f : TypeId → Sem Value) (h : Value) : ReflectliteType.abiMethod f #[h] = (do let t ← Rtype.ofHandle h; Rtype.noPack "a method of abi.Type" t; f t) := rfl
theorem rl_tmethod (f : TypeId → Sem Value) (r : Value) : ReflectliteType.method f #[r] = (do f (← ReflectliteType.ofRtype r)) := rfl

theorem pureQ_ok {fn : Func} {vs : List Value} {v : Value} (h : pureQ P fn.name vs = some v) : ∃ e, Extern.find fn = some e ∧ ∀ w : World, (e vs.toArray).run P w = .ok v w := by
  unfold pureQ at h
  split at h
  · rename_i hn
    refine ⟨_, find_pure (by unfold pureRow; rw [if_pos hn]), fun w => ?_⟩
    split at h
    · simp only [Option.bind_eq_some_iff, Option.map_eq_some_iff] at h
      obtain ⟨t, h1, _, h2, k, h3, rfl⟩ := h
      show (ReflectliteType.abiMethod _ #[_]).run P w = _
      rw [rl_abi]
      simp [pev_ok h1 w, noPackQ_ok h2 _ w, pev_ok h3 w]
    · simp at h
  · rename_i n1
    split at h
    · rename_i hn
      refine ⟨_, find_pure (by unfold pureRow; rw [if_neg n1, if_pos hn]), fun w => ?_⟩
      split at h
      · simp only [Option.bind_eq_some_iff] at h
        obtain ⟨t, h1, e, h2, e', rfl, h3⟩ := h
        show (ReflectliteType.method _ #[_]).run P w = _
        rw [rl_tmethod]
        simp [rtQ_ok h1 w, ReflectliteType.elem, pev_ok h2 w, pev_ok h3 w]
      · simp at h
    · rename_i n2
      split at h
      · rename_i hn
        refine ⟨_, find_pure (by unfold pureRow; rw [if_neg n1, if_neg n2, if_pos hn]), fun w => ?_⟩
        split at h
        · simp only [Option.bind_eq_some_iff] at h
          obtain ⟨u, h1, t, h2, k, h3, h4⟩ := h
          split at h4
          · rename_i hk
            simp only [Option.bind_eq_some_iff, Option.map_eq_some_iff] at h4
            obtain ⟨_, h5, _, h6, b, h7, rfl⟩ := h4
            show (ReflectliteType.relation _ _ #[_, .iface _ _]).run P w = _
            rw [rl_relation]
            simp [rtQ_ok h1 w, rtQ_ok h2 w, ReflectliteType.implements_, pev_ok h3 w, hk, noPackMethodsQ_ok h5 _ w, noPackQ_ok h6 _ w, implQ_ok h7 w]
          · simp at h4
        · simp at h
      · rename_i n3
        split at h
        · rename_i hn
          refine ⟨_, find_pure (by unfold pureRow; rw [if_neg n1, if_neg n2, if_neg n3, if_pos hn]), fun w => ?_⟩
          split at h
          · simp only [Option.bind_eq_some_iff, Option.map_eq_some_iff] at h
            obtain ⟨u, h1, t, h2, _, h5, _, h6, d, h3, i, h7, rfl⟩ := h
            show (ReflectliteType.relation _ _ #[_, .iface _ _]).run P w = _
            rw [rl_relation]
            by_cases hut : u = t
            · simp [rtQ_ok h1 w, rtQ_ok h2 w, ReflectliteType.assignableTo, hut]
              simp [← hut] at *
              simp [pev_ok h3 w, implQ_ok h7 w]
            · simp [rtQ_ok h1 w, rtQ_ok h2 w, ReflectliteType.assignableTo, hut, noPackMethodsQ_ok h5 _ w, noPackMethodsQ_ok h6 _ w, pev_ok h3 w, implQ_ok h7 w]
          · simp at h
        · rename_i n4
          split at h
          · rename_i hn
            refine ⟨_, find_pure (by unfold pureRow; rw [if_neg n1, if_neg n2, if_neg n3, if_neg n4, if_pos hn]), fun w => ?_⟩
            split at h
            · simp only [Option.bind_eq_some_iff, Option.map_eq_some_iff] at h
              obtain ⟨t, h1, _, h2, i, h3, rfl⟩ := h
              show (ReflectliteType.method _ #[_]).run P w = _
              rw [rl_tmethod]
              simp [rtQ_ok h1 w, noPackHeldQ_ok h2 _ w, pev_ok h3 w]
            · simp at h
          · simp at h

/-- Those that are served. -/
def extNames : List String := ["internal/reflectlite.TypeOf", "internal/reflectlite.ValueOf", "(internal/reflectlite.Value).Type", "(internal/reflectlite.Value).IsNil", "(internal/reflectlite.Value).Elem", "(internal/reflectlite.Value).Set",
  "sync/atomic.AddInt64", "sync/atomic.LoadInt64", "(*internal/abi.Type).Kind", "(internal/reflectlite.rtype).Elem", "(internal/reflectlite.rtype).Implements", "(internal/reflectlite.rtype).AssignableTo", "(internal/reflectlite.rtype).Comparable"]
theorem ext_next : ∀ n ∈ "" :: extNames, (Extern.allNextRows.lookup n).isNone = true := List.all_eq_true.1 (by kernel_rfl : ("" :: extNames).all (fun n => (Extern.allNextRows.lookup n).isNone) = true)
theorem ext_go : ∀ n ∈ extNames, (n == "runtime.NumGoroutine") = false := by
  intro n hn
  have := List.all_eq_true.1 (by decide : extNames.all (fun n => !(n == "runtime.NumGoroutine")) = true) n hn
  simpa using this
theorem next_none {fn : Func} (h : fn.name ∈ extNames) (h2 : fn.origin = "") : Extern.findNext fn = none := by
  have h3 : Extern.allNextRows.lookup fn.name = none := by simpa using ext_next fn.name (by simp [h])
  have h4 : Extern.allNextRows.lookup "" = none := by simpa using ext_next "" (by simp)
  simp [Extern.findNext, h3, h2, h4]

def extCV (P : Program) (h : Heap) (fn : Func) (cs : List CV) : R (CV × Heap) :=
  if !(extNames.contains fn.name) || fn.origin != "" || fn.body.isSome then .bad 490 else
  if fn.name = "internal/reflectlite.TypeOf" then match cs with
    | [.nilIface] => .ok (.nilIface, h)
    | [.iface t _] => (R.ofOpt 491 (pev P (ReflectliteType.toType t))).bind fun v => (R.ofOpt 492 (ofRes v)).bind fun c => .ok (c, h)
    | _ => .bad 493
  else if fn.name = "internal/reflectlite.ValueOf" then match cs with
    | [.iface t c] => (boxCV h t c).bind fun (p, h') => (mkV P t p 0).bind fun c => .ok (c, h')
    | _ => .bad 494
  else if fn.name = "(internal/reflectlite.Value).Type" then match cs with
    | [c] => (partsCV P c).bind fun (t, _) => (R.ofOpt 495 (pev P (ReflectliteType.toType t))).bind fun v => (R.ofOpt 496 (ofRes v)).bind fun c => .ok (c, h)
    | _ => .bad 497
  else if fn.name = "(internal/reflectlite.Value).IsNil" then match cs with
    | [c] => (partsCV P c).bind fun (t, id, off, f) => (R.ofOpt 498 (noPackQ P t)).bind fun _ =>
      if [18, 19, 20, 21, 22, 23, 26].contains (f % 32) then (ldVar P h t (.ptr id off)).bind fun x => (R.ofOpt 499 (nilCV x)).bind fun b => .ok (.bool (.lit b), h) else .bad 500
    | _ => .bad 501
  else if fn.name = "(internal/reflectlite.Value).Elem" then match cs with
    | [c] => (partsCV P c).bind fun (t, id, off, f) => (R.ofOpt 502 (noPackQ P t)).bind fun _ =>
      if f % 32 = 22 then (ldVar P h t (.ptr id off)).bind fun x => match x with
        | .ptr id2 off2 => (R.ofOpt 503 (pev P (Rtype.elem? t))).bind fun e => (R.ofOpt 504 e).bind fun e => (mkV P e (.ptr id2 off2) ReflectliteValue.flagAddr).bind fun c => .ok (c, h)
        | _ => .bad 505
      else .bad 506
    | _ => .bad 507
  else if fn.name = "(internal/reflectlite.Value).Set" then match cs with
    | [c, d] => (partsCV P c).bind fun (t, id, off, f) => (partsCV P d).bind fun (t2, id2, off2, _) =>
      (R.ofOpt 508 (noPackQ P t)).bind fun _ => (R.ofOpt 509 (noPackQ P t2)).bind fun _ =>
      if f / ReflectliteValue.flagAddr % 2 = 1 then
        match pev P (Rtype.directlyAssignable t t2) with
        | some true => (ldVar P h t2 (.ptr id2 off2)).bind fun x => (stVar P h t (.ptr id off) x).bind fun h' => .ok (.tuple [], h')
        | _ => .bad 510
      else .bad 511
    | _ => .bad 512
  else if fn.name = "sync/atomic.AddInt64" then match cs with
    | [p, .int _ y] => addCV h p y
    | _ => .bad 517
  else if fn.name = "sync/atomic.LoadInt64" then match cs with
    | [p] => (cellCV h p).bind fun (_, _, _, _, _, x) => .ok (.int .i64 x, h)
    | _ => .bad 518
  else (R.ofOpt 513 (CV.tvs cs)).bind fun vs => (R.ofOpt 514 (pureQ P fn.name vs)).bind fun v => (R.ofOpt 515 (ofRes v)).bind fun c => .ok (c, h)

theorem rl_method (z : Sem Value) (f : TypeId → Addr → Nat → Nat → Sem Value) (v : Value) :
    ReflectliteValue.method z f #[v] = (do match ← ReflectliteValue.parts v with | none => z | some (t, a, fl) => f t a fl (fl % 32)) := rfl
theorem rl_methodAny (z : Sem Value) (f : TypeId → Addr → Nat → Nat → Sem Value) (v : Value) :
    ReflectliteValue.methodAny z f #[v] = (do match ← ReflectliteValue.partsAny v with | none => z | some (t, a, fl) => f t a fl (fl % 32)) := rfl
theorem rl_set (v x : Value) : ReflectliteValue.set #[v, x] = (do
    let (some (dst, a, fl), some (src, b, _)) := (← ReflectliteValue.parts v, ← ReflectliteValue.parts x)
      | unsupported (.noEntry "extern/(internal/reflectlite.Value).Set.zeroValue")
    if fl / ReflectliteValue.flagAddr % 2 == 0 then unsupported (.noEntry "extern/(internal/reflectlite.Value).Set.unaddressable")
    let val ← loadVar src b
    if ← Rtype.directlyAssignable dst src then storeVar dst a val
    else if ← Rtype.implements dst src then
      if (← Rtype.kind src) == 20 then
        match val with
        | .nilIface => unsupported (.noEntry "extern/reflectlite: a nil value of one interface type handed on as a value of another")
        | _ => storeVar dst a val
      else storeVar dst a (.iface src val)
    else panicString ("reflectlite.Set: value of type " ++ (← Rtype.spelt src) ++ " is not assignable to type " ++ (← Rtype.spelt dst))
    pure (.tuple #[])) := rfl

theorem parts_run {v : Value} {t : TypeId} {a : Addr} {f : Nat} (h : ∀ w, (ReflectliteValue.partsAny v).run P w = .ok (some (t, a, f)) w) (hp : noPackQ P t = some ()) (w : World) :
    (ReflectliteValue.parts v).run P w = .ok (some (t, a, f)) w := by
  simp [ReflectliteValue.parts, h w, noPackQ_ok hp _ w]

theorem extCV_ok {m : M} {h h' : Heap} {w : World} (r : Rep σ m h w) {fn : Func} {f : FuncId} (hf : P.funcs[f]? = some fn) {cs : List CV} {vs : Array Value} {c : CV} (hv : dvs σ m cs = some vs.toList)
    (e : extCV P h fn cs = .ok (c, h')) (hN : h'.n ≤ σ.N) :
    ∃ v w' m', (callFunc f vs).run P w = .ok (.value v) w' ∧ dv σ m' c = some v ∧ Rep σ m' h' w' ∧ Evo h m w h' m' w' := by
  unfold extCV at e
  split at e
  · simp at e
  · rename_i hcond
    simp only [Bool.or_eq_true, not_or, Bool.not_eq_true] at hcond
    obtain ⟨⟨hc1, hc2⟩, hc3⟩ := hcond
    have hin : fn.name ∈ extNames := by simpa using hc1
    have hor : fn.origin = "" := by simpa using hc2
    have key : ∀ {ex : Array Value → Sem Value}, Extern.find fn = some ex → ∀ {v : Value} {w' : World}, (ex vs).run P w = .ok v w' → (callFunc f vs).run P w = .ok (.value v) w' := by
      intro ex hex v w' hr
      rw [run_callFunc_extern hf (ext_go _ hin) (by simpa using hc3) (next_none hin hor) hex vs w, hr]
      rfl
    have one : ∀ {c : CV}, cs = [c] → ∃ v, vs = #[v] ∧ dv σ m c = some v := by
      intro c hc
      subst hc
      obtain ⟨v, us, h1, h2, heq⟩ := dvs_cons.1 hv
      simp [dvs] at h2; subst h2
      exact ⟨v, by apply Array.ext'; simpa using heq, h1⟩
    split at e
    · rename_i hn
      split at e
      · simp at e; obtain ⟨rfl, rfl⟩ := e
        obtain ⟨v, rfl, h1⟩ := one rfl
        simp [dv] at h1; subst h1
        exact ⟨.nilIface, w, m, key (find_typeOf hn) rfl, by simp [dv], r, Evo.refl _ _ _⟩
      · rename_i t x
        replace e := R.bind_ok e; obtain ⟨tv, h2, e⟩ := e
        replace e := R.bind_ok e; obtain ⟨tc, h3, e⟩ := e
        simp at e; obtain ⟨rfl, rfl⟩ := e
        obtain ⟨v, rfl, h1⟩ := one rfl
        simp only [dv, Option.map_eq_some_iff] at h1
        obtain ⟨u, _, rfl⟩ := h1
        exact ⟨tv, w, m, key (find_typeOf hn) (pev_ok (R.ofOpt_ok h2) w), ofRes_ok σ m (R.ofOpt_ok h3), r, Evo.refl _ _ _⟩
      · simp at e
    · split at e
      · rename_i hn
        split at e
        · rename_i t x
          replace e := R.bind_ok e; obtain ⟨⟨p, h2⟩, hb, e⟩ := e
          replace e := R.bind_ok e; obtain ⟨vc, hm, e⟩ := e
          simp at e; obtain ⟨rfl, rfl⟩ := e
          obtain ⟨v, rfl, h1⟩ := one rfl
          simp only [dv, Option.map_eq_some_iff] at h1
          obtain ⟨u, hu, rfl⟩ := h1
          obtain ⟨a, w', m', h3, h4, h5, h6⟩ := boxCV_ok (P := P) r hu hb hN
          obtain ⟨v2, h7, h8⟩ := mkV_ok (P := P) h4 hm
          refine ⟨v2, w', m', key (find_valueOf hn) ?_, h7, h5, h6⟩
          show (ReflectliteValue.unpack (.iface t u)).run P w = _
          simp [ReflectliteValue.unpack, h3, h8 w']
        · simp at e
      · split at e
        · rename_i hn
          split at e
          · replace e := R.bind_ok e; obtain ⟨⟨t, id, off, fl⟩, hp, e⟩ := e
            replace e := R.bind_ok e; obtain ⟨tv, h2, e⟩ := e
            replace e := R.bind_ok e; obtain ⟨tc, h3, e⟩ := e
            simp at e; obtain ⟨rfl, rfl⟩ := e
            obtain ⟨v, rfl, h1⟩ := one rfl
            obtain ⟨b, n, hm, hrun⟩ := partsCV_ok h1 hp
            refine ⟨tv, w, m, key (find_vType hn) ?_, ofRes_ok σ m (R.ofOpt_ok h3), r, Evo.refl _ _ _⟩
            rw [rl_methodAny]
            simp [hrun w, pev_ok (R.ofOpt_ok h2) w]
          · simp at e
        · split at e
          · rename_i hn
            split at e
            · replace e := R.bind_ok e; obtain ⟨⟨t, id, off, fl⟩, hp, e⟩ := e
              replace e := R.bind_ok e; obtain ⟨_, h2, e⟩ := e
              split at e
              · rename_i hk
                replace e := R.bind_ok e; obtain ⟨x, hx, e⟩ := e
                replace e := R.bind_ok e; obtain ⟨bb, hbb, e⟩ := e
                simp at e; obtain ⟨rfl, rfl⟩ := e
                obtain ⟨v, rfl, h1⟩ := one rfl
                obtain ⟨b, n, hm, hrun⟩ := partsCV_ok h1 hp
                obtain ⟨a, u, ha, hl, hu⟩ := ldVar_ok (P := P) r (pv := .pointer (some ⟨b, off, none⟩)) (by simp [dv, hm]) hx
                simp only [Value.pointer.injEq, Option.some.injEq] at ha
                subst ha
                refine ⟨.bool bb, w, m, key (find_isNil hn) ?_, by simp [dv, SB.den], r, Evo.refl _ _ _⟩
                have hpr := parts_run hrun (R.ofOpt_ok h2) w
                rw [rl_method]
                simp only [Sem.run_bind, hpr, Result.andThen_ok, ReflectliteValue.isNil, hk]
                simp only [Bool.not_true, Bool.false_eq_true, if_false, Sem.run_bind, hl, Result.andThen_ok]
                have hb' := R.ofOpt_ok hbb
                cases x <;> simp [nilCV] at hb' <;> subst hb' <;> simp [dv] at hu <;> (try subst hu) <;> (try (obtain ⟨_, _, _, rfl⟩ := hu)) <;> (try (obtain ⟨_, _, rfl⟩ := hu)) <;> (try (obtain ⟨_, rfl⟩ := hu)) <;> rfl
              · simp at e
            · simp at e
          · split at e
            · rename_i hn
              split at e
              · replace e := R.bind_ok e; obtain ⟨⟨t, id, off, fl⟩, hp, e⟩ := e
                replace e := R.bind_ok e; obtain ⟨_, h2, e⟩ := e
                split at e
                · rename_i hk
                  replace e := R.bind_ok e; obtain ⟨x, hx, e⟩ := e
                  split at e
                  · rename_i id2 off2
                    replace e := R.bind_ok e; obtain ⟨eo, heo, e⟩ := e
                    replace e := R.bind_ok e; obtain ⟨el, hel, e⟩ := e
                    replace e := R.bind_ok e; obtain ⟨vc, hmk, e⟩ := e
                    simp at e; obtain ⟨rfl, rfl⟩ := e
                    have hel' := R.ofOpt_ok hel
                    subst hel'
                    obtain ⟨v, rfl, h1⟩ := one rfl
                    obtain ⟨b, n, hm, hrun⟩ := partsCV_ok h1 hp
                    obtain ⟨a, u, ha, hl, hu⟩ := ldVar_ok (P := P) r (pv := .pointer (some ⟨b, off, none⟩)) (by simp [dv, hm]) hx
                    simp only [Value.pointer.injEq, Option.some.injEq] at ha
                    subst ha
                    have hu' := hu
                    simp only [dv, Option.map_eq_some_iff] at hu
                    obtain ⟨⟨b2, n2⟩, hm2, rfl⟩ := hu
                    obtain ⟨v2, h7, h8⟩ := mkV_ok (P := P) hu' hmk
                    refine ⟨v2, w, m, key (find_vElem hn) ?_, h7, r, Evo.refl _ _ _⟩
                    have hpr := parts_run hrun (R.ofOpt_ok h2) w
                    rw [rl_method]
                    simp only [Sem.run_bind, hpr, Result.andThen_ok, ReflectliteValue.elem, hk]
                    simp only [bne_self_eq_false, Bool.and_false, Bool.false_eq_true, if_false, Sem.run_bind, hl, Result.andThen_ok, pev_ok (R.ofOpt_ok heo) w]
                    exact h8 w
                  · simp at e
                · simp at e
              · simp at e
            · split at e
              · rename_i hn
                split at e
                · rename_i c1 d1
                  replace e := R.bind_ok e; obtain ⟨⟨t, id, off, fl⟩, hp, e⟩ := e
                  replace e := R.bind_ok e; obtain ⟨⟨t2, id2, off2, fl2⟩, hp2, e⟩ := e
                  replace e := R.bind_ok e; obtain ⟨_, h2, e⟩ := e
                  replace e := R.bind_ok e; obtain ⟨_, h3, e⟩ := e
                  split at e
                  · rename_i hfl
                    split at e
                    · rename_i hda
                      replace e := R.bind_ok e; obtain ⟨x, hx, e⟩ := e
                      replace e := R.bind_ok e; obtain ⟨h4, hst, e⟩ := e
                      simp at e; obtain ⟨rfl, rfl⟩ := e
                      obtain ⟨v1, us, h5, h6, heq⟩ := dvs_cons.1 hv
                      obtain ⟨v2, us2, h7, h8, rfl⟩ := dvs_cons.1 h6
                      simp [dvs] at h8; subst h8
                      have hva : vs = #[v1, v2] := by apply Array.ext'; simpa using heq
                      subst hva
                      obtain ⟨b, n, hm, hrun⟩ := partsCV_ok h5 hp
                      obtain ⟨b2, n2, hm2, hrun2⟩ := partsCV_ok h7 hp2
                      obtain ⟨a, u, ha, hl, hu⟩ := ldVar_ok (P := P) r (pv := .pointer (some ⟨b2, off2, none⟩)) (by simp [dv, hm2]) hx
                      simp only [Value.pointer.injEq, Option.some.injEq] at ha
                      subst ha
                      obtain ⟨a', w', ha', hs, hr', hev⟩ := stVar_ok (P := P) r (pv := .pointer (some ⟨b, off, none⟩)) (by simp [dv, hm]) hu hst
                      simp only [Value.pointer.injEq, Option.some.injEq] at ha'
                      subst ha'
                      refine ⟨.tuple #[], w', m, key (find_vSet hn) ?_, by simp [dv, dvs], hr', hev⟩
                      have hpr := parts_run hrun (R.ofOpt_ok h2) w
                      have hpr2 := parts_run hrun2 (R.ofOpt_ok h3) w
                      rw [rl_set]
                      have hfl0 : (fl / ReflectliteValue.flagAddr % 2 == 0) = false := by simp [hfl]
                      simp only [Sem.run_bind, hpr, hpr2, Result.andThen_ok, hfl0]
                      simp [hl, pev_ok hda w, hs]
                    · simp at e
                  · simp at e
                · simp at e
              · split at e
                · rename_i hn
                  split at e
                  · rename_i p k y
                    obtain ⟨v1, us, h5, h6, heq⟩ := dvs_cons.1 hv
                    obtain ⟨v2, us2, h7, h8, rfl⟩ := dvs_cons.1 h6
                    simp [dvs] at h8; subst h8
                    simp only [dv, Option.some.injEq] at h7
                    subst h7
                    have hva : vs = #[v1, .int k (y.den σ)] := by apply Array.ext'; simpa using heq
                    subst hva
                    obtain ⟨v, w', h9, h10, h11, h12⟩ := addCV_ok (P := P) (k := k) r h5 e
                    exact ⟨v, w', m, key (find_addInt64 hn) h9, h10, h11, h12⟩
                  · simp at e
                · split at e
                  · rename_i hn
                    split at e
                    · replace e := R.bind_ok e; obtain ⟨⟨id, off, cs', el, opn, x⟩, hc, e⟩ := e
                      simp at e; obtain ⟨rfl, rfl⟩ := e
                      obtain ⟨v, rfl, h1⟩ := one rfl
                      obtain ⟨ho, hlt, b, n, hm, rfl, hcell, hfr⟩ := cellCV_ok r h1 hc
                      refine ⟨.int .i64 (x.den σ), w, m, key (find_loadInt64 hn) ?_, by simp [dv], r, Evo.refl _ _ _⟩
                      show (do Atomic.read (.int .i64) (← asAddr (.pointer (some ⟨b, off, none⟩))) : Sem Value).run P w = _
                      simp [asAddr, Atomic.read, hcell]
                    · simp at e
                  · replace e := R.bind_ok e; obtain ⟨us, hus, e⟩ := e
                    replace e := R.bind_ok e; obtain ⟨rv, hrv, e⟩ := e
                    replace e := R.bind_ok e; obtain ⟨rc, hrc, e⟩ := e
                    simp at e; obtain ⟨rfl, rfl⟩ := e
                    have h1 := tvs_ok σ m cs (R.ofOpt_ok hus)
                    rw [hv] at h1
                    simp only [Option.some.injEq] at h1
                    subst h1
                    obtain ⟨ex, hex, hrun⟩ := pureQ_ok (R.ofOpt_ok hrv)
                    exact ⟨rv, w, m, key hex (by simpa using hrun w), ofRes_ok σ m (R.ofOpt_ok hrc), r, Evo.refl _ _ _⟩
end
end
end Go.Sx
