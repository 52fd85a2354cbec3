/- SX, part 12: the run of code. -/
import Derived.Test.YtmamgkangmnkdaaGreatDoorSxStep2
namespace Go.Sx
open Go
noncomputable section

inductive Ex where
  | norm
  | exit (id : Nat)
  | ret
  | val (c : CV)
  | bad (n : Nat)
  deriving Inhabited

abbrev Leaf := Ex × St

inductive Cmd where
  | code (c : Code)
  | loop (c : Code)
  | ops (all : Array Oper) (l : List Oper)
  | call (f : FuncId) (args : List CV)
  | dcall (f : FuncId) (args : List CV)
  | door (l : List (FuncId × List CV)) (rs : List ResultVar)

def St.assume (s : St) (b : SB) : St := { s with asm := b :: s.asm }

/-- Is an operation wanted? -/
def wantedCV (B : Bnds) (all : Array Oper) (s : St) (o : Oper) : R Bool :=
  match o.guard with
  | none => .ok true
  | some (j, want) => match (getR all.toList j).bind (·.dst) with
    | none => .ok false
    | some d => match s.tm.get d with
      | some (.bool b) => (R.dec B s.asm b).bind fun b => .ok (b == want)
      | some (.tuple []) => .ok false
      | _ => .bad 230

def thenL (L : List Leaf) (f : St → List Leaf) : List Leaf :=
  flatR L fun x => match x with
    | (.norm, s) => f s
    | y => [y]

def putL (s : St) (d : Option Tmp) (c : CV) (f : St → List Leaf) : List Leaf :=
  match s.put d c with
  | some s' => f s'
  | none => [(.bad 231, s)]

def ofArgs : List CV → Nat → Option (Tr CV)
  | [], _ => some .nil
  | c :: cs, i => (ofArgs cs (i + 1)).bind fun t => Tr.set 40 t i (some c)

/-- A result variable. -/
def resCV (P : Program) (s : St) : ResultVar → R CV
  | .tmp t => R.ofOpt 232 (s.tm.get t)
  | .cell a t => (R.ofOpt 233 (s.tm.get a)).bind fun c => ldVar P s.h t c
def ressCV (P : Program) (s : St) : List ResultVar → R (List CV)
  | [] => .ok []
  | r :: rs => (resCV P s r).bind fun c => (ressCV P s rs).bind fun cs => .ok (c :: cs)
def resultsCV (P : Program) (s : St) (rs : List ResultVar) : R CV :=
  (ressCV P s rs).bind fun cs => match cs with
    | [c] => .ok c
    | cs => .ok (.tuple cs)

/-- What becomes of the regions whose order is open; and what is known of functions without running them. -/
structure Hooks where
  draw : (Cmd → St → List Leaf) → Array Oper → St → List Leaf
  call : FuncId → List CV → St → Option (List Leaf)

def run (P : Program) (B : Bnds) (H : Hooks) : Nat → Cmd → St → List Leaf
  | 0, _, s => [(.bad 240, s)]
  | n + 1, .code c, s => match c with
    | .skip => [(.norm, s)]
    | .label _ => [(.norm, s)]
    | .region _ ops false => run P B H n (.ops ops ops.toList) s
    | .region _ ops true => H.draw (run P B H n) ops s
    | .seq a b => thenL (run P B H n (.code a) s) fun s => run P B H n (.code b) s
    | .cond c t e => match s.ev c with
      | .ok (.bool b) => match b.dec B s.asm with
        | some true => run P B H n (.code t) s
        | some false => run P B H n (.code e) s
        | none => appR (run P B H n (.code t) (s.assume b)) (run P B H n (.code e) (s.assume b.neg))
      | _ => [(.bad 241, s)]
    | .block id c => mapR (run P B H n (.code c) s) fun x => match x with
      | (.exit i, s) => if i = id then (.norm, s) else (.exit i, s)
      | y => y
    | .loop c => run P B H n (.loop c) s
    | .exit id => [(.exit id, s)]
    | .scope c => run P B H n (.code c) s
    | .ret => [(.ret, s)]
    | _ => [(.bad 242, s)]
  | n + 1, .loop c, s => thenL (run P B H n (.code c) s) fun s => run P B H n (.loop c) s
  | n + 1, .ops all l, s => match l with
    | [] => [(.norm, s)]
    | o :: rest => match wantedCV B all s o with
      | .bad k => [(.bad k, s)]
      | .split b => appR (run P B H n (.ops all (o :: rest)) (s.assume b)) (run P B H n (.ops all (o :: rest)) (s.assume b.neg))
      | .ok false => putL s o.dst undefCV fun s => run P B H n (.ops all rest) s
      | .ok true => match stepOp P B s o.op with
        | .bad k => [(.bad k, s)]
        | .split b => appR (run P B H n (.ops all (o :: rest)) (s.assume b)) (run P B H n (.ops all (o :: rest)) (s.assume b.neg))
        | .ok (.val c, h) => putL { s with h } o.dst c fun s => run P B H n (.ops all rest) s
        | .ok (.skip, h) => putL { s with h } o.dst undefCV fun s => run P B H n (.ops all rest) s
        | .ok (.defer f cs, h) => putL { s with h, df := (f, cs) :: s.df } o.dst undefCV fun s => run P B H n (.ops all rest) s
        | .ok (.enter f args, h) => flatR (run P B H n (.call f args) { s with h }) fun x => match x with
          | (.val c, s') => putL { s with h := s'.h, asm := s'.asm } o.dst c fun s => run P B H n (.ops all rest) s
          | (.bad k, s') => [(.bad k, s')]
          | (_, s') => [(.bad 243, s')]
  | n + 1, .call f args, s => match H.call f args s with
    | some L => L
    | none => match fnQ P f with
      | some fn => match fn.body, ofArgs args 0 with
        | some c, some tm => flatR (run P B H n (.code c) { tm, nt := lenR args + (fn.ntmps - lenR args), h := s.h, asm := s.asm }) fun x => match x with
          | (.norm, s') => run P B H n (.door s'.df fn.results.toList) s'
          | (.ret, s') => run P B H n (.door s'.df fn.results.toList) s'
          | (.bad k, s') => [(.bad k, s')]
          | (_, s') => [(.bad 246, s')]
        | _, _ => [(.bad 247, s)]
      | none => [(.bad 248, s)]
  | n + 1, .dcall f args, s => match fnQ P f with
    | some fn => match fn.body, ofArgs args 0 with
      | some c, some tm => mapR (run P B H n (.code c) { tm, nt := lenR args + (fn.ntmps - lenR args), h := s.h, asm := s.asm }) fun x => match x with
        | (.norm, s') => match s'.df, resultsCV P s' fn.results.toList with
          | [], .ok c => (.val c, s')
          | _, _ => (.bad 253, s')
        | (.ret, s') => match s'.df, resultsCV P s' fn.results.toList with
          | [], .ok c => (.val c, s')
          | _, _ => (.bad 254, s')
        | (.bad k, s') => (.bad k, s')
        | (_, s') => (.bad 255, s')
      | _, _ => [(.bad 256, s)]
    | none => [(.bad 257, s)]
  | n + 1, .door l rs, s => match l with
    | [] => match resultsCV P s rs with
      | .ok c => [(.val c, s)]
      | _ => [(.bad 244, s)]
    | (f, cs) :: l => flatR (run P B H n (.dcall f cs) s) fun x => match x with
      | (.val _, s') => run P B H n (.door l rs) { s with h := s'.h, asm := s'.asm }
      | (.bad k, s') => [(.bad k, s')]
      | (_, s') => [(.bad 258, s')]

section
variable {P : Program} {B : Bnds} {σ : Vl}

def exM : Ex → Exit → Prop
  | .norm, .normal => True
  | .exit i, .exit j => i = j
  | .ret, .ret => True
  | _, _ => False

def Ends (σ : Vl) (h : Heap) (m : M) (w : World) (L : List Leaf) (e : Exit) (a' : Act) (w' : World) : Prop :=
  ∃ x s', (x, s') ∈ L ∧ exM x e ∧ Holds σ s'.asm ∧ ∃ m', Inv σ m' s' a' w' ∧ Evo h m w s'.h m' w'

def CallEnds (σ : Vl) (h : Heap) (m : M) (w : World) (L : List Leaf) (e : Ending) (w' : World) : Prop :=
  ∃ c s' v m', (Ex.val c, s') ∈ L ∧ e = .returned v ∧ Holds σ s'.asm ∧ dv σ m' c = some v ∧ Rep σ m' s'.h w' ∧ Evo h m w s'.h m' w'

def Good (σ : Vl) (L : List Leaf) : Prop := (∀ n s', (Ex.bad n, s') ∈ L → ¬ Holds σ s'.asm) ∧ ∀ l ∈ L, l.2.h.n ≤ σ.N

theorem Ends.lift {h h' : Heap} {m m' : M} {w w' : World} {L L' : List Leaf} {e : Exit} {a2 : Act} {w2 : World} (x : Ends σ h' m' w' L' e a2 w2) (ev : Evo h m w h' m' w') (hL : ∀ y ∈ L', y ∈ L) : Ends σ h m w L e a2 w2 := by
  obtain ⟨x, s', h1, h2, h3, m2, h4, h5⟩ := x
  exact ⟨x, s', hL _ h1, h2, h3, m2, h4, ev.trans h5⟩

theorem mem_thenL {L : List Leaf} {f : St → List Leaf} {y : Leaf} : y ∈ thenL L f ↔ (∃ s, (Ex.norm, s) ∈ L ∧ y ∈ f s) ∨ (y ∈ L ∧ ∀ s, y ≠ (.norm, s)) := by
  unfold thenL
  rw [flatR_eq, List.mem_flatMap]
  constructor
  · rintro ⟨⟨x, s⟩, hx, hy⟩
    cases x with
    | norm => exact .inl ⟨s, hx, hy⟩
    | _ => simp at hy; subst hy; exact .inr ⟨hx, by simp⟩
  · rintro (⟨s, hs, hy⟩ | ⟨hy, hn⟩)
    · exact ⟨_, hs, hy⟩
    · refine ⟨y, hy, ?_⟩
      obtain ⟨x, s⟩ := y
      cases x with
      | norm => exact absurd rfl (hn s)
      | _ => simp

theorem Holds.cons {A : List SB} {b : SB} (h : Holds σ A) (hb : b.den σ = true) : Holds σ (b :: A) := by
  intro c hc
  rcases List.mem_cons.1 hc with rfl | h'
  · exact hb
  · exact h c h'

theorem Inv.assume {m : M} {s : St} {a : Act} {w : World} (I : Inv σ m s a w) (b : SB) : Inv σ m (s.assume b) a w := ⟨I.rep, I.tm, I.nt, I.df⟩

theorem Inv.heap {m m' : M} {s : St} {a : Act} {w w' : World} {h' : Heap} (I : Inv σ m s a w) (hle : m.le m') (hr : Rep σ m' h' w') (A : List SB) : Inv σ m' { s with h := h', asm := A } a w' :=
  ⟨hr, fun t c h => dv_mono σ hle _ (I.tm t c h), I.nt, I.df.mono hle⟩

theorem wanted_ok (hB : B.ok σ) {m : M} {s : St} {a : Act} {w : World} (hA : Holds σ s.asm) (I : Inv σ m s a w) {all : Array Oper} {o : Oper} {t : Bool} (e : wantedCV B all s o = .ok t) :
    Region.wanted o (yielded all a.tmps) = t := by
  unfold wantedCV at e
  simp only [getR_eq, Array.getElem?_toList] at e
  unfold Region.wanted
  split at e
  · rename_i hg; simp at e; subst e; rw [hg]
  · rename_i j want hg
    rw [hg]
    simp only [yielded]
    split at e
    · rename_i hd; simp at e; subst e; rw [hd]; rfl
    · rename_i d hd
      rw [hd]
      simp only [Option.bind_some]
      have ht := I.tm d
      split at e
      · rename_i b hb
        replace e := R.bind_ok e; obtain ⟨v, hv, e⟩ := e
        simp at e; subst e
        have hden := R.dec_ok hB hA hv
        replace ht := ht _ hb
        simp only [dv, Option.some.injEq] at ht
        have hlt : d < a.tmps.size := by
          apply Nat.lt_of_not_le
          intro hle
          simp [Array.getD, Nat.not_lt.2 hle, undef] at ht
        have : a.tmps[d]? = some (.bool v) := by
          rw [Array.getD_eq_getD_getElem?] at ht
          rw [Array.getElem?_eq_getElem hlt] at ht ⊢
          simp at ht; rw [← ht, hden]
        rw [this]
        cases v <;> cases want <;> rfl
      · rename_i hb
        simp at e; subst e
        replace ht := ht _ hb
        simp only [dv, dvs, Option.map_some, Option.some.injEq] at ht
        cases hq : a.tmps[d]? with
        | none => rfl
        | some u =>
          have : a.tmps.getD d undef = u := by rw [Array.getD_eq_getD_getElem?, hq]; rfl
          rw [this] at ht; subst ht; rfl
      · simp at e

theorem undef_ok {m : M} : dv σ m undefCV = some undef := by simp [undefCV, dv, dvs, undef]
end
end
end Go.Sx
