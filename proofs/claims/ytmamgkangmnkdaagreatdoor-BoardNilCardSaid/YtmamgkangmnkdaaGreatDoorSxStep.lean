/- SX, part 10: one operation. -/
import Derived.Test.YtmamgkangmnkdaaGreatDoorSxExt
namespace Go.Sx
open Go
noncomputable section

/-- No function of the program counts goroutines (one function of the runtime's has an answer of its own). -/
class GoFree (P : Program) : Prop where
  ok : ∀ (f : FuncId) (fn : Func), P.funcs[f]? = some fn → (fn.name == "runtime.NumGoroutine") = false
theorem GoFree.of {P : Program} (h : (P.funcs.toList.all fun fn => !(fn.name == "runtime.NumGoroutine")) = true) : GoFree P := by
  constructor
  intro f fn hf
  have hm : fn ∈ P.funcs.toList := by
    have := Array.mem_of_getElem? hf
    simpa using this
  simpa using List.all_eq_true.1 h fn hm

/-- What an operation comes to. -/
inductive Act1 where
  | val (c : CV)
  | skip
  | enter (f : FuncId) (args : List CV)
  | defer (f : FuncId) (args : List CV)
  deriving Inhabited

/-- Whom a call means: a function with a body, or one without. -/
inductive Tgt where
  | enter (f : FuncId) (args : List CV)
  | ext (f : FuncId) (args : List CV)

section
variable (P : Program) (B : Bnds)

def St.evPairs (s : St) : List (Nat × Operand) → R (List (Nat × CV))
  | [] => .ok []
  | (i, x) :: xs => (s.ev x).bind fun c => (s.evPairs xs).bind fun cs => .ok ((i, c) :: cs)

def St.evOpt (s : St) : Option Operand → R (Option CV)
  | none => .ok none
  | some x => (s.ev x).bind fun c => .ok (some c)

/-- A function that has a body. -/
def enterCV (f : FuncId) (args : List CV) : R Tgt :=
  match fnQ P f with
  | some fn => if fn.body.isSome then .ok (.enter f args) else .ok (.ext f args)
  | none => .bad 211

def methodCV (t : TypeId) (v : CV) (name : String) (rest : List CV) : R Tgt :=
  match infoQ P t with
  | some i => match i.methods.find? (·.name == name) with
    | some mm => if mm.path.size = 0 then match mm.func, undQ P t with
        | some (f, true), some (.pointer _) => enterCV P f (v :: rest)
        | some (f, false), some (.int _) => enterCV P f (v :: rest)
        | some (f, false), some (.struct _) => enterCV P f (v :: rest)
        | _, _ => .bad 212
      else (R.ofOpt 207 v.tv).bind fun vv => (R.ofOpt 208 (pev P (method (P.types.size + Made.depth) t vv name))).bind fun (f, rv) => (R.ofOpt 209 (ofRes rv)).bind fun rc => enterCV P f (rc :: rest)
    | none => .bad 214
  | none => .bad 215

def targetCV (fn : Fn) (captured args : List CV) : R Tgt :=
  match fn with
  | .func f => enterCV P f (args ++ captured)
  | .method name => match args with
    | .iface t v :: rest => methodCV P t v name rest
    | _ => .bad 216
  | .methodOf t name => match args with
    | r :: rest => match undQ P t, r with
      | some (.interface _), .iface t' v => methodCV P t' v name rest
      | some (.pointer _), r => methodCV P t r name rest
      | some (.struct _), r => methodCV P t r name rest
      | some (.int _), r => methodCV P t r name rest
      | _, _ => .bad 217
    | [] => .bad 218
  | _ => .bad 219

def val1 (h : Heap) (x : R CV) : R (Act1 × Heap) := x.bind fun c => .ok (.val c, h)
def val2 (x : R (CV × Heap)) : R (Act1 × Heap) := x.bind fun (c, h) => .ok (.val c, h)
def skip1 (x : R Heap) : R (Act1 × Heap) := x.bind fun h => .ok (.skip, h)
def ent1 (h : Heap) (x : R Tgt) : R (Act1 × Heap) := x.bind fun a => match a with
  | .enter f cs => .ok (.enter f cs, h)
  | .ext f cs => match fnQ P f with
    | some fn => val2 (extCV P h fn cs)
    | none => .bad 206

def builtinCV (s : St) (b : Builtin) (ts : Array TypeId) (args : List CV) : R (Act1 × Heap) :=
  match b, ts.toList, args with
  | .len, [t], [x] => val1 s.h (lenCV P s.h t x)
  | .append, [t, tx], [x, y] => val2 (appendCV P s.h t tx x y)
  | .max, _, x :: rest => val1 s.h (foldCV B s.asm true x rest)
  | .min, _, x :: rest => val1 s.h (foldCV B s.asm false x rest)
  | .cap, [t], [x] => val1 s.h (capCV P t x)
  | .clear, [t], [x] => val2 (clearCV P s.h t x)
  | _, _, _ => .bad 220

def callCV (s : St) (c : Call) : R (Act1 × Heap) :=
  (s.evs c.args.toList).bind fun args =>
  match c.callee with
  | .builtin b => builtinCV P B s b c.argTypes args
  | .value f => (s.ev f).bind fun f => match f with
    | .func fn first captured => ent1 P s.h (targetCV P fn captured (first ++ args))
    | _ => .bad 221
  | .invoke r name => (s.ev r).bind fun r => ent1 P s.h (targetCV P (.method name) [] (r :: args))

def nilOk : CV → Bool
  | .nilptr | .nilIface | .nilFunc | .sym _ => false
  | .func (.method _) _ _ => false
  | _ => true

def stepOp (s : St) (o : Op) : R (Act1 × Heap) :=
  match o with
  | .move x => val1 s.h (s.ev x)
  | .assign x => val1 s.h (s.ev x)
  | .pick c x y => (s.ev c).bind fun c => match c with
    | .bool b => (R.dec B s.asm b).bind fun t => val1 s.h (s.ev (if t then x else y))
    | _ => .bad 222
  | .alloc el => (zeroCV P el).bind fun z => val2 (boxCV s.h el z)
  | .box el x => (s.ev x).bind fun c => val2 (boxCV s.h el c)
  | .build t ps => (s.evPairs ps.toList).bind fun ps => val1 s.h (buildCV P t ps)
  | .buildSlice t n ps => (s.evPairs ps.toList).bind fun ps => val2 (buildSliceCV P s.h t n ps)
  | .load t x => (s.ev x).bind fun x => val1 s.h (ldVar P s.h t x)
  | .store t x y => (s.ev x).bind fun x => (s.ev y).bind fun y => skip1 (stVar P s.h t x y)
  | .nilCheck x => (s.ev x).bind fun c => if nilOk c then .ok (.val c, s.h) else .bad 223
  | .binOp op t x y _ => (s.ev x).bind fun a => (s.ev y).bind fun b => val1 s.h (match op, a, b with
    | .shl, .int k a, .int _ b => shI B s.asm .shl k a b
    | .shr, .int k a, .int _ b => shI B s.asm .shr k a b
    | op, .int k a, .int k' b => if k = k' then binI B s.asm op k a b else .bad 224
    | op, .str a, .str b => (R.ofOpt 259 (pev P (Op.stringOp op ⟨a.toArray⟩ ⟨b.toArray⟩))).bind fun v => R.ofOpt 260 (ofVal v)
    | .eql, a, b => (eqCV P B s.asm s.h ((x matches .const _) || (y matches .const _)) t a b).bind fun b => .ok (.bool b)
    | .neq, a, b => (eqCV P B s.asm s.h ((x matches .const _) || (y matches .const _)) t a b).bind fun b => .ok (.bool b.neg)
    | _, _, _ => .bad 225)
  | .unOp op _ x => (s.ev x).bind fun x => val1 s.h (unCV B s.asm op x)
  | .convert t u x => (s.ev x).bind fun x => val1 s.h (convCV P B s.asm t u x)
  | .makeInterface t x => (s.ev x).bind fun x => match undQ P t with
    | some (.interface _) => .bad 226
    | some _ => .ok (.val (.iface t x), s.h)
    | none => .bad 227
  | .makeFunc fn first captured => (s.evs first.toList).bind fun xs => (s.evs captured.toList).bind fun ys => .ok (.val (.func fn xs ys), s.h)
  | .makeMap _ none => val2 ((R.ofOpt 228 (s.h.new (.map [] 0))).bind fun h => .ok (.map s.h.n, h))
  | .makeSlice t x y => (s.ev x).bind fun x => (s.ev y).bind fun y => val2 (makeCV P B s.asm s.h t x y)
  | .slice t x lo hi mx => (s.ev x).bind fun x => (s.evOpt lo).bind fun lo => (s.evOpt hi).bind fun hi => (s.evOpt mx).bind fun mx => val1 s.h (sliceCV P B s.asm s.h t x lo hi mx)
  | .fieldAddr t x f => (s.ev x).bind fun x => val1 s.h (fieldAddrCV P t x f)
  | .field t x f => (s.ev x).bind fun x => val1 s.h (fieldCV P t x f)
  | .indexAddr t x i => (s.ev x).bind fun x => (s.ev i).bind fun i => val1 s.h (indexAddrCV P B s.asm s.h t x i)
  | .index t x i => (s.ev x).bind fun x => (s.ev i).bind fun i => val1 s.h (indexCV P B s.asm t x i)
  | .lookup t x i ok => (s.ev x).bind fun x => (s.ev i).bind fun i => val1 s.h (lookupCV P B s.asm s.h t x i ok)
  | .mapUpdate t x i v => (s.ev x).bind fun x => (s.ev i).bind fun i => (s.ev v).bind fun v => skip1 (mapUpdCV P B s.asm s.h t x i v)
  | .insert t x i v => (s.ev x).bind fun x => (s.ev i).bind fun i => (s.ev v).bind fun v => skip1 (mapUpdCV P B s.asm s.h t x i v)
  | .typeAssert x _ t ok => (s.ev x).bind fun x => val1 s.h (assertCV P x t ok)
  | .extract x i => (s.ev x).bind fun x => val1 s.h (extractCV x i)
  | .call c => callCV P B s c
  | .defer c => match c.callee with
    | .value f => (s.ev f).bind fun f => match f with
      | .func (.func f) first captured => (s.evs c.args.toList).bind fun args => .ok (.defer f (first ++ args ++ captured), s.h)
      | _ => .bad 251
    | _ => .bad 252
  | _ => .bad 229
end

section
variable {P : Program} {B : Bnds} {σ : Vl}

def nxOk (P : Program) (σ : Vl) (m : M) : Act1 → Next → Prop
  | .val c, .value v => dv σ m c = some v
  | .skip, .skip => True
  | .enter f cs, .enter f' vs => f = f' ∧ dvs σ m cs = some vs.toList ∧ ∃ fn c, P.funcs[f]? = some fn ∧ fn.body = some c
  | .defer f cs, .defer d => ∃ cap args : Array Value, d = { target := .fn (.func f) cap, args := args } ∧ dvs σ m cs = some (args ++ cap).toList
  | _, _ => False

theorem Inv.evPairs {m : M} {s : St} {a : Act} {w : World} (I : Inv σ m s a w) : ∀ {xs : List (Nat × Operand)} {cs : List (Nat × CV)}, s.evPairs xs = .ok cs → partsOk σ m cs (xs.map fun (i, x) => (i, a.eval x))
  | [], cs, h => by simp [St.evPairs] at h; subst h; simp [partsOk]
  | (i, x) :: xs, cs, h => by
    simp only [St.evPairs] at h
    replace h := R.bind_ok h; obtain ⟨c, hc, h⟩ := h
    replace h := R.bind_ok h; obtain ⟨ds, hd, h⟩ := h
    simp at h; subst h
    exact ⟨rfl, I.ev hc, I.evPairs hd⟩

theorem Inv.evOpt {m : M} {s : St} {a : Act} {w : World} (I : Inv σ m s a w) {x : Option Operand} {c : Option CV} (h : s.evOpt x = .ok c) : optDv σ m c (x.map a.eval) := by
  cases x with
  | none => simp [St.evOpt] at h; subst h; trivial
  | some x =>
    simp only [St.evOpt] at h
    replace h := R.bind_ok h; obtain ⟨c', hc, h⟩ := h
    simp at h; subst h
    exact I.ev hc

/-- What a call asks comes to what is known of its target. -/
def tgtOk (P : Program) (σ : Vl) (m : M) (t : Tgt) (x : Sem Next) (w : World) : Prop :=
  match t with
  | .enter f cs => ∃ vs : Array Value, x.run P w = .ok (.enter f vs) w ∧ dvs σ m cs = some vs.toList ∧ ∃ fn c, P.funcs[f]? = some fn ∧ fn.body = some c
  | .ext f cs => ∃ vs : Array Value, x.run P w = (callFunc f vs).run P w ∧ dvs σ m cs = some vs.toList

theorem tgtOk.congr {m : M} {t : Tgt} {x y : Sem Next} {w : World} (h : tgtOk P σ m t x w) (e : y.run P w = x.run P w) : tgtOk P σ m t y w := by
  cases t with
  | enter f cs => obtain ⟨vs, h1, h2⟩ := h; exact ⟨vs, by rw [e]; exact h1, h2⟩
  | ext f cs => obtain ⟨vs, h1, h2⟩ := h; exact ⟨vs, by rw [e]; exact h1, h2⟩

theorem enterCV_ok [GoFree P] {m : M} {f : FuncId} {cs : List CV} {vs : Array Value} {t : Tgt} (hv : dvs σ m cs = some vs.toList) (e : enterCV P f cs = .ok t) (w : World) : tgtOk P σ m t (callFunc f vs) w := by
  unfold enterCV at e
  simp only [fnQ_eq] at e
  split at e
  · rename_i fn hf
    split at e
    · rename_i hb
      have hc := GoFree.ok f fn hf
      simp at e; subst e
      obtain ⟨c, hb⟩ := Option.isSome_iff_exists.1 hb
      refine ⟨vs, ?_, hv, fn, c, hf, hb⟩
      simp [callFunc, hf, hb]
      simpa using hc
    · simp at e; subst e
      exact ⟨vs, rfl, hv⟩
  · simp at e

theorem methodCV_ok [GoFree P] {m : M} {t : TypeId} {v : CV} {name : String} {rest : List CV} {vv : Value} {vs : Array Value} {act : Tgt} (hv : dv σ m v = some vv) (hr : dvs σ m rest = some vs.toList) (e : methodCV P t v name rest = .ok act) (w : World) :
    tgtOk P σ m act (callMethod (.iface t vv) name vs) w := by
  unfold methodCV at e
  simp only [undQ_eq, infoQ_eq] at e
  split at e
  · rename_i i hi
    split at e
    · rename_i mm hmm
      have fin : ∀ (f : FuncId) (rv : Value) (rc : CV), (∀ w, (method (P.types.size + Made.depth) t vv name).run P w = .ok (f, rv) w) → dv σ m rc = some rv → enterCV P f (rc :: rest) = .ok act →
          tgtOk P σ m act (callMethod (.iface t vv) name vs) w := by
        intro f rv rc hm hrc he
        refine (enterCV_ok (σ := σ) (m := m) (vs := #[rv] ++ vs) (by simp [dvs_cons, hrc, hr]) he w).congr ?_
        simp only [callMethod, Sem.run_bind, run_program, Result.andThen_ok, hm]
      split at e
      · rename_i hp
        have hpath : mm.path = #[] := Array.eq_empty_of_size_eq_zero hp
        have hmeth : ∀ (f : FuncId) (b : Bool), mm.func = some (f, b) → (∀ (w : World) wr, (receiverAt t (.val vv) b wr).run P w = .ok vv w) →
            ∀ w, (method (P.types.size + Made.depth) t vv name).run P w = .ok (f, vv) w := by
          intro f b hf hrec w
          show (method (P.types.size + 99 + 1) t vv name).run P w = _
          rw [method]
          simp only [Sem.run_bind, run_typeInfo hi, Result.andThen_ok, hmm, hpath, hf]
          simp [follow, hrec]
        split at e
        · rename_i f el hf hu
          exact fin f vv v (hmeth f true hf fun w wr => by simp only [receiverAt, Sem.run_bind, run_underlying hu, Result.andThen_ok]; rfl) hv e
        · rename_i f k hf hu
          exact fin f vv v (hmeth f false hf fun w wr => by simp only [receiverAt, Sem.run_bind, run_underlying hu, Result.andThen_ok]; rfl) hv e
        · rename_i f fs hf hu
          exact fin f vv v (hmeth f false hf fun w wr => by simp only [receiverAt, Sem.run_bind, run_underlying hu, Result.andThen_ok]; rfl) hv e
        · simp at e
      · replace e := R.bind_ok e; obtain ⟨v', hv', e⟩ := e
        replace e := R.bind_ok e; obtain ⟨⟨f, rv⟩, hme, e⟩ := e
        replace e := R.bind_ok e; obtain ⟨rc, hrc, e⟩ := e
        have h1 := tv_ok σ m v (R.ofOpt_ok hv')
        rw [hv] at h1
        simp only [Option.some.injEq] at h1
        subst h1
        exact fin f rv rc (pev_ok (R.ofOpt_ok hme)) (ofRes_ok σ m (R.ofOpt_ok hrc)) e
    · simp at e
  · simp at e

theorem targetCV_ok [GoFree P] {m : M} {fn : Fn} {cc ca : List CV} {vc va : Array Value} {act : Tgt} (hc : dvs σ m cc = some vc.toList) (ha : dvs σ m ca = some va.toList) (e : targetCV P fn cc ca = .ok act) (w : World) :
    tgtOk P σ m act (invoke (.fn fn vc) va) w := by
  unfold targetCV at e
  simp only [undQ_eq] at e
  split at e
  · rename_i f
    exact (enterCV_ok (vs := va ++ vc) (by rw [Array.toList_append]; exact dvs_append ha hc) e w).congr (by simp [invoke])
  · rename_i name
    split at e
    · rename_i t v rest
      obtain ⟨vv, vs, hv, hr, heq⟩ := dvs_cons.1 ha
      simp only [dv, Option.map_eq_some_iff] at hv
      obtain ⟨xv, hxv, rfl⟩ := hv
      have hva : va = (Value.iface t xv :: vs).toArray := by rw [← heq]
      subst hva
      exact (methodCV_ok (vs := vs.toArray) hxv (by simpa using hr) e w).congr (by simp [invoke])
    · simp at e
  · rename_i t name
    split at e
    · rename_i r rest
      obtain ⟨vv, vs, hv, hr, heq⟩ := dvs_cons.1 ha
      have hva : va = (vv :: vs).toArray := by rw [← heq]
      subst hva
      split at e
      · rename_i ms t' v hu
        simp only [dv, Option.map_eq_some_iff] at hv
        obtain ⟨xv, hxv, rfl⟩ := hv
        exact (methodCV_ok (vs := vs.toArray) hxv (by simpa using hr) e w).congr (by simp [invoke, run_underlying hu])
      · rename_i el r' hu
        exact (methodCV_ok (vs := vs.toArray) hv (by simpa using hr) e w).congr (by simp [invoke, run_underlying hu])
      · rename_i fs r' hu
        exact (methodCV_ok (vs := vs.toArray) hv (by simpa using hr) e w).congr (by simp [invoke, run_underlying hu])
      · rename_i k r' hu
        exact (methodCV_ok (vs := vs.toArray) hv (by simpa using hr) e w).congr (by simp [invoke, run_underlying hu])
      · simp at e
    · simp at e
  · simp at e

theorem ent1_ok {m : M} {h h' : Heap} {w : World} (r : Rep σ m h w) {y : R Tgt} {x : Sem Next} {act : Act1} (e : ent1 P h y = .ok (act, h')) (hx : ∀ t, y = .ok t → tgtOk P σ m t x w) (hN : h'.n ≤ σ.N) :
    ∃ nx w' m', x.run P w = .ok nx w' ∧ nxOk P σ m' act nx ∧ Rep σ m' h' w' ∧ Evo h m w h' m' w' := by
  replace e := R.bind_ok e; obtain ⟨t, ht, e⟩ := e
  have h1 := hx t ht
  cases t with
  | enter f cs =>
    try simp only at e
    simp at e; obtain ⟨rfl, rfl⟩ := e
    obtain ⟨vs, h2, h3, h4⟩ := h1
    exact ⟨.enter f vs, w, m, h2, ⟨rfl, h3, h4⟩, r, Evo.refl _ _ _⟩
  | ext f cs =>
    try simp only at e
    split at e
    · rename_i fn hf
      replace e := R.bind_ok e; obtain ⟨⟨c, h2⟩, hc, e⟩ := e
      simp at e; obtain ⟨rfl, rfl⟩ := e
      obtain ⟨vs, h3, h4⟩ := h1
      obtain ⟨v, w', m', h5, h6, h7, h8⟩ := extCV_ok (P := P) r ((fnQ_eq P f).symm.trans hf) h4 hc hN
      exact ⟨.value v, w', m', by rw [h3]; exact h5, h6, h7, h8⟩
    · simp at e

theorem ent_val {h h' : Heap} {x : R CV} {act : Act1} (e : val1 h x = .ok (act, h')) : ∃ c, x = .ok c ∧ act = .val c ∧ h' = h := by
  replace e := R.bind_ok e; obtain ⟨c, hc, e⟩ := e
  simp at e; exact ⟨c, hc, e.1.symm, e.2.symm⟩

/-- A result without a change. -/
theorem pure_val {m : M} {s : St} {a : Act} {w : World} (I : Inv σ m s a w) {h' : Heap} {x : R CV} {act : Act1} {o : Oper} (e : val1 s.h x = .ok (act, h'))
    (hx : ∀ c, x = .ok c → ∃ v, (execOp a.eval o).run P w = .ok (.value v) w ∧ dv σ m c = some v) :
    ∃ nx w' m', (execOp a.eval o).run P w = .ok nx w' ∧ nxOk P σ m' act nx ∧ Rep σ m' h' w' ∧ Evo s.h m w h' m' w' := by
  obtain ⟨c, hc, rfl, rfl⟩ := ent_val e
  obtain ⟨v, h1, h2⟩ := hx c hc
  exact ⟨_, w, m, h1, h2, I.rep, Evo.refl _ _ _⟩

theorem builtinCV_ok (hB : B.ok σ) {m : M} {s : St} {a : Act} {w : World} (hA : Holds σ s.asm) (I : Inv σ m s a w) {b : Builtin} {ts : Array TypeId} {cs : List CV} {vs : Array Value} {act : Act1} {h' : Heap} (hv : dvs σ m cs = some vs.toList)
    (ty : TypeId) (consts : Array Bool) (e : builtinCV P B s b ts cs = .ok (act, h')) (hN : h'.n ≤ σ.N) :
    ∃ nx w' m', (builtin b ts ty consts vs).run P w = .ok nx w' ∧ nxOk P σ m' act nx ∧ Rep σ m' h' w' ∧ Evo s.h m w h' m' w' := by
  unfold builtinCV at e
  split at e
  · rename_i t x hts
    have htl : ts = #[t] := by apply Array.ext'; simpa using hts
    subst htl
    obtain ⟨xv, xs, hx, hxs, heq⟩ := dvs_cons.1 hv
    simp [dvs] at hxs; subst hxs
    have hva : vs = #[xv] := by apply Array.ext'; simpa using heq
    subst hva
    obtain ⟨c, hc, rfl, rfl⟩ := ent_val e
    obtain ⟨u, h1, h2⟩ := lenCV_ok (P := P) (ty := ty) I.rep hx hc
    exact ⟨.value u, w, m, by simp [builtin, h1], h2, I.rep, Evo.refl _ _ _⟩
  · rename_i t tx x y hts
    have htl : ts = #[t, tx] := by apply Array.ext'; simpa using hts
    subst htl
    obtain ⟨xv, xs, hx, hxs, heq⟩ := dvs_cons.1 hv
    obtain ⟨yv, ys, hy, hys, rfl⟩ := dvs_cons.1 hxs
    simp [dvs] at hys; subst hys
    have hva : vs = #[xv, yv] := by apply Array.ext'; simpa using heq
    subst hva
    replace e := R.bind_ok e; obtain ⟨⟨c, h2⟩, hc, e⟩ := e
    simp at e; obtain ⟨rfl, rfl⟩ := e
    obtain ⟨u, w', m', h1, h3, h4, h5⟩ := appendCV_ok (P := P) (ty := ty) I.rep hx hy hc hN
    exact ⟨.value u, w', m', by simp [builtin, h1], h3, h4, h5⟩
  · rename_i x rest
    obtain ⟨xv, xs, hx, hxs, heq⟩ := dvs_cons.1 hv
    have hva : vs = (xv :: xs).toArray := by apply Array.ext'; simpa using heq
    subst hva
    obtain ⟨c, hc, rfl, rfl⟩ := ent_val e
    obtain ⟨u, h1, h2⟩ := foldCV_max (P := P) hB hA hx hxs hc w
    exact ⟨.value u, w, m, by simp [builtin, Builtin.max_, h1], h2, I.rep, Evo.refl _ _ _⟩
  · rename_i x rest
    obtain ⟨xv, xs, hx, hxs, heq⟩ := dvs_cons.1 hv
    have hva : vs = (xv :: xs).toArray := by apply Array.ext'; simpa using heq
    subst hva
    obtain ⟨c, hc, rfl, rfl⟩ := ent_val e
    obtain ⟨u, h1, h2⟩ := foldCV_min (P := P) hB hA hx hxs hc w
    exact ⟨.value u, w, m, by simp [builtin, Builtin.min_, h1], h2, I.rep, Evo.refl _ _ _⟩
  · rename_i t x hts
    have htl : ts = #[t] := by apply Array.ext'; simpa using hts
    subst htl
    obtain ⟨xv, xs, hx, hxs, heq⟩ := dvs_cons.1 hv
    simp [dvs] at hxs; subst hxs
    have hva : vs = #[xv] := by apply Array.ext'; simpa using heq
    subst hva
    obtain ⟨c, hc, rfl, rfl⟩ := ent_val e
    obtain ⟨u, h1, h2⟩ := capCV_ok (P := P) (ty := ty) hx hc w
    exact ⟨.value u, w, m, by simp [builtin, h1], h2, I.rep, Evo.refl _ _ _⟩
  · rename_i t x hts
    have htl : ts = #[t] := by apply Array.ext'; simpa using hts
    subst htl
    obtain ⟨xv, xs, hx, hxs, heq⟩ := dvs_cons.1 hv
    simp [dvs] at hxs; subst hxs
    have hva : vs = #[xv] := by apply Array.ext'; simpa using heq
    subst hva
    replace e := R.bind_ok e; obtain ⟨⟨c, h2⟩, hc, e⟩ := e
    simp at e; obtain ⟨rfl, rfl⟩ := e
    obtain ⟨u, w', h1, h3, h4, h5⟩ := clearCV_ok (P := P) (ty := ty) I.rep hx hc
    exact ⟨.value u, w', m, by simp [builtin, h1], h3, h4, h5⟩
  · simp at e

theorem callCV_ok [GoFree P] (hB : B.ok σ) {m : M} {s : St} {a : Act} {w : World} (hA : Holds σ s.asm) (I : Inv σ m s a w) {c : Call} {ty : TypeId} {act : Act1} {h' : Heap} (e : callCV P B s c = .ok (act, h')) (hN : h'.n ≤ σ.N) :
    ∃ nx w' m', ((do let d ← resolve a.eval c ty; invoke d.target d.args : Sem Next)).run P w = .ok nx w' ∧ nxOk P σ m' act nx ∧ Rep σ m' h' w' ∧ Evo s.h m w h' m' w' := by
  unfold callCV at e
  replace e := R.bind_ok e; obtain ⟨args, hargs, e⟩ := e
  have hdv : dvs σ m args = some (c.args.map a.eval).toList := by simpa using I.evs hargs
  split at e
  · rename_i b hc
    obtain ⟨nx, w', m', h1, h2⟩ := builtinCV_ok hB hA I hdv ty (c.args.map fun | .const _ => true | _ => false) e hN
    exact ⟨nx, w', m', by simp only [resolve, hc, Sem.run_bind, Sem.run_pure, Result.andThen_ok, invoke]; exact h1, h2⟩
  · rename_i f hc
    replace e := R.bind_ok e; obtain ⟨fc, hf, e⟩ := e
    have hfv := I.ev hf
    split at e
    · rename_i fn first captured
      simp only [dv, Option.bind_eq_some_iff, Option.map_eq_some_iff] at hfv
      obtain ⟨xs, hx, ys, hy, hfe⟩ := hfv
      refine ent1_ok I.rep e (fun t ht => ?_) hN
      refine (targetCV_ok (vc := ys.toArray) (va := xs.toArray ++ c.args.map a.eval) (by simpa using hy) (by simp only [Array.toList_append]; exact dvs_append hx hdv) ht w).congr ?_
      simp only [resolve, hc, Sem.run_bind, ← hfe, Deferred.ofValue, Sem.run_pure, Result.andThen_ok]
    · simp at e
  · rename_i r name hc
    replace e := R.bind_ok e; obtain ⟨rc, hr, e⟩ := e
    refine ent1_ok I.rep e (fun t ht => ?_) hN
    refine (targetCV_ok (cc := []) (vc := #[]) (va := #[a.eval r] ++ c.args.map a.eval) (by simp [dvs]) (by rw [Array.toList_append]; exact dvs_cons.2 ⟨_, _, I.ev hr, hdv, rfl⟩) ht w).congr ?_
    simp only [resolve, hc, Sem.run_bind, Sem.run_pure, Result.andThen_ok]
end
end
end Go.Sx
