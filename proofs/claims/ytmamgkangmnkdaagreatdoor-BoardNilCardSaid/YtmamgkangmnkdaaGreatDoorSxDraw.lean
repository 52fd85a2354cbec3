/- SX, part 14: regions whose order is open: the definitions. -/
import Derived.Test.YtmamgkangmnkdaaGreatDoorSxSound
namespace Go.Sx
open Go
noncomputable section

def buildOn {α : Type} (t : Tr α) (g : Nat → Option α) : List Nat → Option (Tr α)
  | [] => some t
  | i :: l => (buildOn t g l).bind fun t => Tr.set 40 t i (g i)
theorem buildOn_get {α : Type} {t : Tr α} {g : Nat → Option α} : ∀ {l : List Nat} {t' : Tr α}, buildOn t g l = some t' → ∀ j, t'.get j = if j ∈ l then g j else t.get j
  | [], t', h, j => by simp [buildOn] at h; subst h; simp
  | i :: l, t', h, j => by
    simp only [buildOn, Option.bind_eq_some_iff] at h
    obtain ⟨t1, h1, h2⟩ := h
    rw [Tr.get_set 40 t1 i (g i) h2 j, buildOn_get h1 j]
    by_cases hj : j = i
    · subst hj; simp
    · rw [if_neg hj]; simp [hj]

def sameEs : List (CV × CV × Nat) → List (CV × CV × Nat) → Bool
  | [], [] => true
  | (a, b, n) :: as, (c, d, q) :: bs => CV.same a c && CV.same b d && n == q && sameEs as bs
  | _, _ => false
theorem sameEs_ok : ∀ (a b : List (CV × CV × Nat)), sameEs a b = true → a = b
  | [], [], _ => rfl
  | (a, b, n) :: as, (c, d, q) :: bs, h => by
    simp only [sameEs, Bool.and_eq_true, beq_iff_eq] at h
    rw [CV.same_ok a c h.1.1.1, CV.same_ok b d h.1.1.2, h.1.2, sameEs_ok as bs h.2]

def sameO : Option HObj → Option HObj → Bool
  | none, none => true
  | some (.cells a t o), some (.cells b u p) => CV.sames a b && t == u && o == p
  | some (.map a n), some (.map b q) => sameEs a b && n == q
  | some (.glob g a), some (.glob k b) => g == k && CV.sames a b
  | _, _ => false
theorem sameO_ok : ∀ {a b : Option HObj}, sameO a b = true → a = b
  | none, none, _ => rfl
  | some (.cells a t o), some (.cells b u p), h => by
    simp only [sameO, Bool.and_eq_true, beq_iff_eq] at h
    rw [CV.sames_ok a b h.1.1, h.1.2, h.2]
  | some (.map a n), some (.map b q), h => by
    simp only [sameO, Bool.and_eq_true, beq_iff_eq] at h
    rw [sameEs_ok a b h.1, h.2]
  | some (.glob g a), some (.glob k b), h => by
    simp only [sameO, Bool.and_eq_true, beq_iff_eq] at h
    rw [h.1, CV.sames_ok a b h.2]

mutual
def CV.ids : CV → List Nat
  | .gptr g _ => [g]
  | .ptr id _ => [id]
  | .slice id _ _ _ => [id]
  | .oslice id _ _ _ _ => [id]
  | .map id => [id]
  | .func _ a b => CV.idsL a ++ CV.idsL b
  | .iface _ v => v.ids
  | .agg cs => CV.idsL cs
  | .tuple cs => CV.idsL cs
  | _ => []
def CV.idsL : List CV → List Nat
  | [] => []
  | c :: cs => c.ids ++ CV.idsL cs
end
def HObj.ids : HObj → List Nat
  | .cells cs _ _ => CV.idsL cs
  | .map es _ => es.flatMap fun (k, v, _) => k.ids ++ v.ids
  | .glob _ _ => []

/-- All that can be reached. -/
def reach (h : Heap) : Nat → List Nat → List Nat → List Nat
  | 0, _, seen => seen
  | _ + 1, [], seen => seen
  | f + 1, id :: todo, seen =>
    if seen.contains id then reach h f todo seen else
    match h.obj id with
    | none => reach h f todo seen
    | some o => reach h f (o.ids ++ todo) (id :: seen)

inductive DR (α : Type) where
  | ok (a : α)
  | split (b : SB)
  | bad (n : Nat)

/-- One operation, upon what it needs alone. -/
structure One where
  c : CV
  h : Heap
  F : List Nat

def opIds (s : St) (o : Oper) : List Nat :=
  o.op.operands.toList.flatMap fun x => match s.ev x with
    | .ok c => c.ids
    | _ => []

def isCall : Op → Bool
  | .call c => match c.callee with
    | .builtin _ => false
    | _ => true
  | _ => false

/-- Does an operation need no memory? -/
def bare (P : Program) (B : Bnds) (s : St) (o : Oper) : Bool :=
  match stepOp P B { s with h := ⟨.nil, s.h.n⟩ } o.op with
  | .bad _ => false
  | _ => true

def codeEx : Ex → Nat
  | .bad n => n
  | .val _ => 302
  | _ => 303

def drawOne (rn : Cmd → St → List Leaf) (P : Program) (B : Bnds) (all : Array Oper) (s : St) (o : Oper) : DR One :=
  match buildOn .nil s.tm.get (o.looksAt all) with
  | none => .bad 300
  | some tm =>
    match wantedCV B all { s with tm } o with
    | .bad n => .bad n
    | .split b => .split b
    | .ok false => .ok ⟨undefCV, s.h, []⟩
    | .ok true =>
      let F := if isCall o.op then reach s.h 2000 (0 :: opIds s o) [] else if bare P B { s with tm } o then [] else (opIds s o).eraseDups
      match buildOn .nil s.h.obj F with
      | none => .bad 301
      | some t =>
        match stepOp P B { s with tm, h := ⟨t, s.h.n⟩ } o.op with
        | .bad n => .bad n
        | .split b => .split b
        | .ok (.val c, h) => .ok ⟨c, h, F⟩
        | .ok (.skip, h) => .ok ⟨undefCV, h, F⟩
        | .ok (.defer _ _, _) => .bad 308
        | .ok (.enter f args, h) => match rn (.call f args) { s with tm, h } with
          | [(.val c, s')] => .ok ⟨c, s'.h, F⟩
          | (x, s') :: _ => match s'.asm[s'.asm.length - s.asm.length - 1]? with
            | some b => if s.asm.length < s'.asm.length then .split b else .bad (codeEx x)
            | none => .bad (codeEx x)
          | [] => .bad 304

structure Ent where
  dst : Option Tmp
  looks : List Nat
  F : List Nat
  W : List Nat
  lo : Nat
  hi : Nat
  deriving Inhabited

def newIds (a b : Nat) : List Nat := (List.range (b - a)).map (a + ·)
theorem mem_newIds {a b i : Nat} : i ∈ newIds a b ↔ a ≤ i ∧ i < b := by
  simp only [newIds, List.mem_map, List.mem_range]
  constructor
  · rintro ⟨x, hx, rfl⟩; omega
  · rintro ⟨h1, h2⟩; exact ⟨i - a, by omega, by omega⟩

def mergeSt (s : St) (dst : Option Tmp) (c : CV) (h' : Heap) (W : List Nat) : Option St :=
  (buildOn s.h.t h'.obj (W ++ newIds s.h.n h'.n)).bind fun t => St.put { s with h := ⟨t, h'.n⟩ } dst c

def entOf (all : Array Oper) (s : St) (o : Oper) (r : One) : Ent :=
  { dst := o.dst, looks := o.looksAt all, F := r.F, W := r.F.filter fun id => !(sameO (s.h.obj id) (r.h.obj id)), lo := s.h.n, hi := r.h.n }

def drawAll (rn : Cmd → St → List Leaf) (P : Program) (B : Bnds) (all : Array Oper) : List Oper → St → DR (St × List Ent)
  | [], s => .ok (s, [])
  | o :: rest, s => match drawOne rn P B all s o with
    | .bad n => .bad n
    | .split b => .split b
    | .ok r =>
      let e := entOf all s o r
      match mergeSt s o.dst r.c r.h e.W with
      | none => .bad 305
      | some s1 => match drawAll rn P B all rest s1 with
        | .ok (s', es) => .ok (s', e :: es)
        | .split b => .split b
        | .bad n => .bad n

def edgesOf (o : Oper) : List Nat := (o.after.toList.filter (Region.binds .any)).map (·.on)

def ancTab : List Oper → List (List Nat) → List (List Nat)
  | [], acc => acc
  | o :: rest, acc => ancTab rest (acc ++ [((edgesOf o).flatMap fun e => e :: acc.getD e []).eraseDups])

/-- The table of what comes ahead of what is right. -/
def ancOk (ops : List Oper) (tab : List (List Nat)) : Bool :=
  (List.range ops.length).all fun j => match ops[j]? with
    | none => false
    | some o => (edgesOf o).all (fun e => decide (e < j)) && (tab.getD j []).all fun i => (edgesOf o).any fun e => i == e || (tab.getD e []).contains i

def indepE (a b : Ent) : Bool :=
  (match a.dst with | none => true | some d => !b.looks.contains d && b.dst != some d) &&
  (match b.dst with | none => true | some d => !a.looks.contains d) &&
  a.W.all (fun i => !b.F.contains i) && b.W.all (fun i => !a.F.contains i) && b.F.all (fun i => !(decide (a.lo ≤ i) && decide (i < a.hi)))

def pairsOk (tab : List (List Nat)) (es : List Ent) : Bool :=
  (List.range es.length).all fun j => match es[j]? with
    | none => false
    | some b => b.F.all (fun i => decide (i < b.lo)) && (List.range j).all fun i => match es[i]? with
      | none => false
      | some a => (tab.getD j []).contains i || indepE a b

def drawTry (rn : Cmd → St → List Leaf) (P : Program) (B : Bnds) (all : Array Oper) : Nat → St → List Leaf
  | 0, s => [(.bad 306, s)]
  | n + 1, s => match drawAll rn P B all all.toList s with
    | .bad k => [(.bad k, s)]
    | .split b => drawTry rn P B all n (s.assume b) ++ drawTry rn P B all n (s.assume b.neg)
    | .ok (s', es) =>
      let tab := ancTab all.toList []
      if ancOk all.toList tab && pairsOk tab es then [(.norm, s')] else [(.bad 307, s)]

def drawHook (P : Program) (B : Bnds) (rn : Cmd → St → List Leaf) (ops : Array Oper) (s : St) : List Leaf := drawTry rn P B ops 40 s
end
end Go.Sx
