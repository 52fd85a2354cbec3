/- SX, part 1: symbolic values, their meaning, symbolic heaps, what it means that a world shows one. -/
import Derived.Calls
import Derived.LoopN
import Derived.Orders
import Derived.Scope
import Derived.Tactics
import Derived.Laws.Cells
namespace Go.Sx
open Go
noncomputable section

/-- Look-ups in the program's tables, that the kernel goes through fast. -/
def getR {α : Type} (l : List α) : Nat → Option α :=
  List.rec (motive := fun _ => Nat → Option α) (fun _ => none) (fun a _ g i => Bool.rec (g (Nat.sub i 1)) (some a) (Nat.beq i 0)) l
theorem getR_eq {α : Type} : ∀ (l : List α) (i : Nat), getR l i = l[i]?
  | [], i => by simp [getR]
  | a :: l, i => by
    show (Bool.rec (getR l (i - 1)) (some a) (Nat.beq i 0) : Option α) = _
    cases i with
    | zero => rfl
    | succ i =>
      show getR l (i + 1 - 1) = _
      rw [Nat.add_sub_cancel, getR_eq l i]; simp
/- Rows, by the recursor. -/
def lenR {α : Type} (l : List α) : Nat := List.rec (motive := fun _ => Nat) 0 (fun _ _ n => Nat.add n 1) l
theorem lenR_eq {α : Type} : ∀ (l : List α), lenR l = l.length
  | [] => rfl
  | a :: l => by show lenR l + 1 = _; rw [lenR_eq l]; rfl
def allR {α : Type} (p : α → Bool) (l : List α) : Bool := List.rec (motive := fun _ => Bool) true (fun a _ r => Bool.rec false r (p a)) l
theorem allR_eq {α : Type} (p : α → Bool) : ∀ (l : List α), allR p l = l.all p
  | [] => rfl
  | a :: l => by
    show (Bool.rec false (allR p l) (p a) : Bool) = _
    rw [allR_eq p l, List.all_cons]
    cases p a <;> rfl
def dropR {α : Type} (l : List α) : Nat → List α := List.rec (motive := fun _ => Nat → List α) (fun _ => []) (fun a l g i => Bool.rec (g (Nat.sub i 1)) (a :: l) (Nat.beq i 0)) l
theorem dropR_eq {α : Type} : ∀ (l : List α) (i : Nat), dropR l i = l.drop i
  | [], i => by simp [dropR]
  | a :: l, 0 => rfl
  | a :: l, i + 1 => by
    show dropR l (i + 1 - 1) = _
    rw [Nat.add_sub_cancel, dropR_eq l i]; rfl
def takeR {α : Type} (l : List α) : Nat → List α := List.rec (motive := fun _ => Nat → List α) (fun _ => []) (fun a _ g i => Bool.rec (a :: g (Nat.sub i 1)) [] (Nat.beq i 0)) l
theorem takeR_eq {α : Type} : ∀ (l : List α) (i : Nat), takeR l i = l.take i
  | [], i => by simp [takeR]
  | a :: l, 0 => by rfl
  | a :: l, i + 1 => by
    show a :: takeR l (i + 1 - 1) = _
    rw [Nat.add_sub_cancel, takeR_eq l i]; rfl
def appR {α : Type} (l m : List α) : List α := List.rec (motive := fun _ => List α) m (fun a _ r => a :: r) l
theorem appR_eq {α : Type} (m : List α) : ∀ (l : List α), appR l m = l ++ m
  | [] => rfl
  | a :: l => by show a :: appR l m = _; rw [appR_eq m l]; rfl
def flatR {α β : Type} (l : List α) (f : α → List β) : List β := List.rec (motive := fun _ => List β) [] (fun a _ r => appR (f a) r) l
theorem flatR_eq {α β : Type} (f : α → List β) : ∀ (l : List α), flatR l f = l.flatMap f
  | [] => rfl
  | a :: l => by show appR (f a) (flatR l f) = _; rw [appR_eq, flatR_eq f l, List.flatMap_cons]
def mapR {α β : Type} (l : List α) (f : α → β) : List β := List.rec (motive := fun _ => List β) [] (fun a _ r => f a :: r) l
theorem mapR_eq {α β : Type} (f : α → β) : ∀ (l : List α), mapR l f = l.map f
  | [] => rfl
  | a :: l => by show f a :: mapR l f = _; rw [mapR_eq f l]; rfl

def fnQ (P : Program) (f : FuncId) : Option Func := getR P.funcs.toList f
theorem fnQ_eq (P : Program) (f : FuncId) : fnQ P f = P.funcs[f]? := by simp [fnQ, getR_eq]
def infoQ (P : Program) (t : TypeId) : Option TypeInfo := match getR P.types.toList t with
  | some i => some i
  | none => P.info? t
theorem infoQ_eq (P : Program) (t : TypeId) : infoQ P t = P.info? t := by
  unfold infoQ
  split
  · rename_i i h
    rw [getR_eq] at h
    have hlt : t < P.types.size := by
      have := (List.getElem?_eq_some_iff.1 h).1
      simpa using this
    simp only [Tables.info?, if_pos hlt]
    rw [← h]; simp
  · rfl
def undQ (P : Program) (t : TypeId) : Option TypeDesc := match infoQ P t with
  | some i => match i.desc with
    | .named _ u => (infoQ P u).map (·.desc)
    | d => some d
  | none => none
theorem undQ_eq (P : Program) (t : TypeId) : undQ P t = P.underlying t := by
  unfold undQ Program.underlying
  simp only [infoQ_eq]
  cases P.info? t with
  | none => rfl
  | some i =>
    cases i with
    | mk desc str size bytes hasPointers align fieldAlign zero comparable methods => cases desc <;> rfl

/-- Symbolic integers. -/
inductive SI where
  | lit (n : Int)
  | var (x : Nat)
  | add (a b : SI)
  | sub (a b : SI)
  | mul (a b : SI)
  | wrap (k : IntKind) (a : SI)
  | bits (op : BinOp) (k : IntKind) (a b : SI)
  | quo (a b : SI)
  | rem (a b : SI)
  | shl (a : SI) (n : Nat)
  | shr (a : SI) (n : Nat)
  deriving DecidableEq, Inhabited

/-- Symbolic Bools. -/
inductive SB where
  | lit (b : Bool)
  | var (x : Nat)
  | lt (a b : SI)
  | eq (a b : SI)
  | not (a : SB)
  deriving DecidableEq, Inhabited

/-- What the variables mean. -/
structure Vl where
  i : Nat → Int
  b : Nat → Bool
  v : Nat → Value
  one : ∀ x, (v x).oneCell' = true
  N : Nat
  gob : Nat → Obj := fun _ => .cells #[] 0 (0, 0)

def bitsDen (op : BinOp) (k : IntKind) (x y : Int) : Int :=
  let a := BitVec.ofInt k.bits x
  let b := BitVec.ofInt k.bits y
  match op with
  | .and => k.wrap (a &&& b).toNat
  | .or => k.wrap (a ||| b).toNat
  | .xor => k.wrap (a ^^^ b).toNat
  | .andNot => k.wrap (a &&& ~~~b).toNat
  | _ => 0

def SI.den (σ : Vl) : SI → Int
  | .lit n => n
  | .var x => σ.i x
  | .add a b => a.den σ + b.den σ
  | .sub a b => a.den σ - b.den σ
  | .mul a b => a.den σ * b.den σ
  | .wrap k a => k.wrap (a.den σ)
  | .bits op k a b => bitsDen op k (a.den σ) (b.den σ)
  | .quo a b => (a.den σ).tdiv (b.den σ)
  | .rem a b => (a.den σ).tmod (b.den σ)
  | .shl a n => a.den σ * 2 ^ n
  | .shr a n => (a.den σ).fdiv (2 ^ n)

def SB.den (σ : Vl) : SB → Bool
  | .lit b => b
  | .var x => σ.b x
  | .lt a b => decide (a.den σ < b.den σ)
  | .eq a b => a.den σ == b.den σ
  | .not a => !(a.den σ)

/-- Bounds of the integer variables. -/
abbrev Bnds := List (Int × Int)
def Bnds.ok (B : Bnds) (σ : Vl) : Prop := ∀ x l h, B[x]? = some (l, h) → l ≤ σ.i x ∧ σ.i x ≤ h

theorem wrap_lo (k : IntKind) (n : Int) : k.min ≤ k.wrap n ∧ k.wrap n ≤ k.max := by
  cases k <;> simp [IntKind.min, IntKind.max, IntKind.wrap, IntKind.signed, IntKind.bits] <;> omega
theorem wrap_in (k : IntKind) (n : Int) (h1 : k.min ≤ n) (h2 : n ≤ k.max) : k.wrap n = n := by
  cases k <;> simp [IntKind.min, IntKind.max, IntKind.signed, IntKind.bits] at h1 h2 <;> simp [IntKind.wrap, IntKind.signed, IntKind.bits] <;> omega
theorem bits_range (op : BinOp) (k : IntKind) (x y : Int) : k.min ≤ bitsDen op k x y ∧ bitsDen op k x y ≤ k.max := by
  unfold bitsDen
  simp only
  split
  all_goals first
    | exact wrap_lo k _
    | (cases k <;> simp [IntKind.min, IntKind.max, IntKind.signed, IntKind.bits])
theorem and_range (k : IntKind) (x c : Int) (h0 : 0 ≤ c) (h1 : c ≤ k.max) : 0 ≤ bitsDen .and k x c ∧ bitsDen .and k x c ≤ c := by
  have hb : (BitVec.ofInt k.bits x &&& BitVec.ofInt k.bits c).toNat ≤ c.toNat := by
    rw [BitVec.toNat_and]
    refine Nat.le_trans Nat.and_le_right ?_
    rw [BitVec.toNat_ofInt]
    obtain ⟨n, rfl⟩ := Int.eq_ofNat_of_zero_le h0
    rw [← Int.natCast_emod, Int.toNat_natCast, Int.toNat_natCast]
    exact Nat.mod_le _ _
  have hk : k.min ≤ 0 := by cases k <;> simp [IntKind.min, IntKind.signed, IntKind.bits]
  unfold bitsDen
  simp only
  rw [wrap_in k _ (by omega) (by omega)]
  omega

def SI.range (B : Bnds) : SI → Option (Int × Int)
  | .lit n => some (n, n)
  | .var x => B[x]?
  | .add a b => match a.range B, b.range B with
    | some (l, h), some (l', h') => some (l + l', h + h')
    | _, _ => none
  | .sub a b => match a.range B, b.range B with
    | some (l, h), some (l', h') => some (l - h', h - l')
    | _, _ => none
  | .wrap k a => match a.range B with
    | some (l, h) => if k.min ≤ l && h ≤ k.max then some (l, h) else some (k.min, k.max)
    | none => some (k.min, k.max)
  | .bits op k _ b => match op, b with
    | .and, .lit c => if 0 ≤ c && c ≤ k.max then some (0, c) else some (k.min, k.max)
    | _, _ => some (k.min, k.max)
  | .rem a b => match b with
    | .lit c => if 0 < c then match a.range B with
        | some (l, _) => if 0 ≤ l then some (0, c - 1) else some (1 - c, c - 1)
        | none => some (1 - c, c - 1)
      else none
    | _ => none
  | .quo a b => match b with
    | .lit c => if 0 < c then match a.range B with
        | some (l, h) => if 0 ≤ l then some (0, h) else none
        | none => none
      else none
    | _ => none
  | .shl a n => match a.range B with
    | some (l, h) => some (l * 2 ^ n, h * 2 ^ n)
    | none => none
  | .shr a n => match a.range B with
    | some (l, h) => some (l.fdiv (2 ^ n), h.fdiv (2 ^ n))
    | none => none
  | _ => none

theorem SI.range_ok {B : Bnds} {σ : Vl} (hB : B.ok σ) : ∀ (a : SI) {l h : Int}, a.range B = some (l, h) → l ≤ a.den σ ∧ a.den σ ≤ h := by
  intro a
  induction a with
  | lit n => intro l h e; simp [SI.range] at e; simp [SI.den]; omega
  | var x => intro l h e; exact hB x l h (by simpa [SI.range] using e)
  | add a b iha ihb =>
    intro l h e
    simp only [SI.range] at e
    split at e
    · rename_i l1 h1 l2 h2 e1 e2
      have := iha e1; have := ihb e2
      simp at e; simp only [SI.den]; omega
    · simp at e
  | sub a b iha ihb =>
    intro l h e
    simp only [SI.range] at e
    split at e
    · rename_i l1 h1 l2 h2 e1 e2
      have := iha e1; have := ihb e2
      simp at e; simp only [SI.den]; omega
    · simp at e
  | wrap k a iha =>
    intro l h e
    simp only [SI.range] at e
    have hw := wrap_lo k (a.den σ)
    split at e
    · rename_i l1 h1 e1
      have := iha e1
      split at e
      · rename_i hc
        simp at e hc; obtain ⟨rfl, rfl⟩ := e
        simp only [SI.den]
        rw [wrap_in k _ (by omega) (by omega)]; exact this
      · simp at e; obtain ⟨rfl, rfl⟩ := e; exact hw
    · simp at e; obtain ⟨rfl, rfl⟩ := e; exact hw
  | bits op k a b iha ihb =>
    intro l h e
    simp only [SI.range] at e
    have hw := bits_range op k (a.den σ) (b.den σ)
    split at e
    · rename_i c
      split at e
      · rename_i hc
        simp at e hc; obtain ⟨rfl, rfl⟩ := e
        exact and_range k _ _ hc.1 hc.2
      · simp at e; obtain ⟨rfl, rfl⟩ := e; exact hw
    · simp at e; obtain ⟨rfl, rfl⟩ := e; exact hw
  | rem a b iha ihb =>
    intro l h e
    simp only [SI.range] at e
    split at e
    · rename_i c
      split at e
      · rename_i hc
        have h1 := Int.tmod_lt_of_pos (a.den σ) hc
        have h2 : -c < (a.den σ).tmod c := Int.lt_tmod_of_pos _ hc
        split at e
        · rename_i l1 h1' e1
          have h3 := iha e1
          split at e
          · rename_i h0
            simp at e; obtain ⟨rfl, rfl⟩ := e
            have := Int.tmod_nonneg c (show 0 ≤ a.den σ by omega)
            simp only [SI.den]; omega
          · simp at e; obtain ⟨rfl, rfl⟩ := e
            simp only [SI.den]; omega
        · simp at e; obtain ⟨rfl, rfl⟩ := e
          simp only [SI.den]; omega
      · simp at e
    · simp at e
  | quo a b iha ihb =>
    intro l h e
    simp only [SI.range] at e
    split at e
    · rename_i c
      split at e
      · rename_i hc
        split at e
        · rename_i l1 h1' e1
          have h3 := iha e1
          split at e
          · rename_i h0
            simp at e; obtain ⟨rfl, rfl⟩ := e
            simp only [SI.den]
            rw [Int.tdiv_eq_ediv_of_nonneg (by omega)]
            exact ⟨Int.ediv_nonneg (by omega) (by omega), Int.le_trans (Int.ediv_le_self _ (by omega)) h3.2⟩
          · simp at e
        · simp at e
      · simp at e
    · simp at e
  | shl a n iha =>
    intro l h e
    simp only [SI.range] at e
    split at e
    · rename_i l1 h1 e1
      have := iha e1
      simp at e; obtain ⟨rfl, rfl⟩ := e
      simp only [SI.den]
      have hp : (0 : Int) ≤ 2 ^ n := Int.pow_nonneg (by omega)
      exact ⟨Int.mul_le_mul_of_nonneg_right this.1 hp, Int.mul_le_mul_of_nonneg_right this.2 hp⟩
    · simp at e
  | shr a n iha =>
    intro l h e
    simp only [SI.range] at e
    split at e
    · rename_i l1 h1 e1
      have := iha e1
      simp at e; obtain ⟨rfl, rfl⟩ := e
      simp only [SI.den]
      have hp : (0 : Int) < 2 ^ n := Int.pow_pos (by omega)
      rw [Int.fdiv_eq_ediv_of_nonneg _ (by omega), Int.fdiv_eq_ediv_of_nonneg _ (by omega), Int.fdiv_eq_ediv_of_nonneg _ (by omega)]
      exact ⟨Int.ediv_le_ediv hp this.1, Int.ediv_le_ediv hp this.2⟩
    · simp at e
  | _ => intro l h e; simp [SI.range] at e

def SI.add' : SI → SI → SI
  | .lit a, .lit b => .lit (a + b)
  | a, .lit 0 => a
  | a, b => .add a b
def SI.sub' : SI → SI → SI
  | .lit a, .lit b => .lit (a - b)
  | a, .lit 0 => a
  | a, b => .sub a b
def SI.mul' : SI → SI → SI
  | .lit a, .lit b => .lit (a * b)
  | a, b => .mul a b
def SI.wrap' (B : Bnds) (k : IntKind) (a : SI) : SI :=
  match a with
  | .lit n => .lit (k.wrap n)
  | a => match a.range B with
    | some (l, h) => if k.min ≤ l && h ≤ k.max then a else .wrap k a
    | none => .wrap k a

theorem SI.den_add' (σ : Vl) (a b : SI) : (SI.add' a b).den σ = a.den σ + b.den σ := by
  unfold SI.add'; split <;> simp [SI.den]
theorem SI.den_sub' (σ : Vl) (a b : SI) : (SI.sub' a b).den σ = a.den σ - b.den σ := by
  unfold SI.sub'; split <;> simp [SI.den]
theorem SI.den_mul' (σ : Vl) (a b : SI) : (SI.mul' a b).den σ = a.den σ * b.den σ := by
  unfold SI.mul'; split <;> simp [SI.den]
theorem SI.den_wrap' {B : Bnds} {σ : Vl} (hB : B.ok σ) (k : IntKind) (a : SI) : (SI.wrap' B k a).den σ = k.wrap (a.den σ) := by
  unfold SI.wrap'
  split
  · simp [SI.den]
  · split
    · rename_i l h e
      have := SI.range_ok hB _ e
      split
      · rename_i hc
        simp at hc
        exact (wrap_in k _ (by omega) (by omega)).symm
      · simp [SI.den]
    · simp [SI.den]

def SB.lookup (A : List SB) (b : SB) : Option Bool :=
  if A.any (fun x => decide (x = b)) then some true
  else if A.any (fun x => decide (x = .not b)) then some false else none

def Holds (σ : Vl) (A : List SB) : Prop := ∀ b ∈ A, b.den σ = true

/-- Two terms of one shape; what is unlike at the head is parted at once. -/
def SI.is (a b : SI) : Bool := decide (a = b)

/-- What an assumption tells of a term's bounds. -/
def SI.cut1 (e : SI) (b : SB) (r : Int × Int) : Int × Int :=
  match b with
  | .eq e' (.lit c) => if e'.is e then (c, c) else r
  | .lt e' (.lit c) => if e'.is e then (r.1, min r.2 (c - 1)) else r
  | .lt (.lit c) e' => if e'.is e then (max r.1 (c + 1), r.2) else r
  | .not (.lt e' (.lit c)) => if e'.is e then (max r.1 c, r.2) else r
  | .not (.lt (.lit c) e') => if e'.is e then (r.1, min r.2 c) else r
  | .not (.eq e' (.lit c)) => if e'.is e then (if r.1 = c then (r.1 + 1, r.2) else if r.2 = c then (r.1, r.2 - 1) else r) else r
  | _ => r
theorem SI.cut1_ok {σ : Vl} {e : SI} {b : SB} {r : Int × Int} (hb : b.den σ = true) (h : r.1 ≤ e.den σ ∧ e.den σ ≤ r.2) : (SI.cut1 e b r).1 ≤ e.den σ ∧ e.den σ ≤ (SI.cut1 e b r).2 := by
  have is_ok : ∀ {e' : SI}, e'.is e = true → e' = e := fun h => by simpa [SI.is] using h
  unfold SI.cut1
  split
  all_goals try exact h
  all_goals
    split
    · rename_i he
      have he := is_ok he
      subst he
      simp only [SB.den, SI.den, Bool.not_eq_true', beq_iff_eq, beq_eq_false_iff_ne] at hb
      first
      | replace hb := of_decide_eq_true hb
      | replace hb := of_decide_eq_false hb
      | skip
      first
      | (simp only; omega)
      | (split
         · simp only; omega
         · split
           · simp only; omega
           · exact h)
    · exact h
def SI.cutAll (e : SI) : List SB → Int × Int → Int × Int
  | [], r => r
  | b :: A, r => SI.cut1 e b (SI.cutAll e A r)
theorem SI.cutAll_ok {σ : Vl} {e : SI} : ∀ {A : List SB} {r : Int × Int}, Holds σ A → r.1 ≤ e.den σ ∧ e.den σ ≤ r.2 → (SI.cutAll e A r).1 ≤ e.den σ ∧ e.den σ ≤ (SI.cutAll e A r).2
  | [], _, _, h => h
  | b :: _, _, hA, h => SI.cut1_ok (hA b (by simp)) (SI.cutAll_ok (fun x hx => hA x (by simp [hx])) h)

/-- The bounds of a term, under assumptions. -/
def SI.rng (B : Bnds) (A : List SB) (e : SI) : Option (Int × Int) :=
  match e with
  | .lit n => some (n, n)
  | e => match e.range B with
    | some r => some (SI.cutAll e A r)
    | none => none
theorem SI.rng_ok {B : Bnds} {σ : Vl} {A : List SB} (hB : B.ok σ) (hA : Holds σ A) (e : SI) {l h : Int} (hr : e.rng B A = some (l, h)) : l ≤ e.den σ ∧ e.den σ ≤ h := by
  unfold SI.rng at hr
  split at hr
  · simp at hr; simp [SI.den]; omega
  · split at hr
    · rename_i r hr'
      simp at hr
      have := SI.cutAll_ok (e := e) hA (r := r) (SI.range_ok hB e hr')
      rw [hr] at this
      exact this
    · simp at hr

def SB.dec0 (B : Bnds) (A : List SB) : SB → Option Bool
  | .lit b => some b
  | .not a => (a.dec0 B A).map (!·)
  | .lt a b => match a.rng B A, b.rng B A with
    | some (l, h), some (l', h') => if h < l' then some true else if h' ≤ l then some false else SB.lookup A (.lt a b)
    | _, _ => SB.lookup A (.lt a b)
  | .eq a b => match a.rng B A, b.rng B A with
    | some (l, h), some (l', h') => if h < l' || h' < l then some false else if l = h && l' = h' && l = l' then some true else SB.lookup A (.eq a b)
    | _, _ => SB.lookup A (.eq a b)
  | .var x => SB.lookup A (.var x)

theorem SB.lookup_ok {σ : Vl} {A : List SB} (hA : Holds σ A) {b : SB} {v : Bool} (h : SB.lookup A b = some v) : b.den σ = v := by
  unfold SB.lookup at h
  split at h
  · rename_i hc
    simp at hc h
    subst h
    exact hA _ hc
  · split at h
    · rename_i hc
      simp at hc h
      subst h
      have := hA _ hc
      simpa [SB.den] using this
    · simp at h

theorem SB.dec0_ok {B : Bnds} {σ : Vl} {A : List SB} (hB : B.ok σ) (hA : Holds σ A) : ∀ (b : SB) {v : Bool}, b.dec0 B A = some v → b.den σ = v := by
  intro b
  induction b with
  | lit b => intro v h; simp [SB.dec0] at h; simpa [SB.den] using h
  | var x => intro v h; exact SB.lookup_ok hA h
  | not a ih =>
    intro v h
    simp only [SB.dec0, Option.map_eq_some_iff] at h
    obtain ⟨u, hu, rfl⟩ := h
    simp [SB.den, ih hu]
  | lt a b =>
    intro v h
    simp only [SB.dec0] at h
    split at h
    · rename_i l h1 l' h' e1 e2
      have := SI.rng_ok hB hA _ e1; have := SI.rng_ok hB hA _ e2
      split at h
      · simp at h; subst h; simp [SB.den]; omega
      · split at h
        · simp at h; subst h; simp [SB.den]; omega
        · exact SB.lookup_ok hA h
    · exact SB.lookup_ok hA h
  | eq a b =>
    intro v h
    simp only [SB.dec0] at h
    split at h
    · rename_i l h1 l' h' e1 e2
      have := SI.rng_ok hB hA _ e1; have := SI.rng_ok hB hA _ e2
      split at h
      · rename_i hc; simp at h hc; subst h; simp [SB.den]; omega
      · split at h
        · rename_i hc; simp at h hc; subst h; simp [SB.den]; omega
        · exact SB.lookup_ok hA h
    · exact SB.lookup_ok hA h

/-- What an assumption tells of the bounds. -/
def Bnds.cut (B : Bnds) : SB → Bnds
  | .eq (.var x) (.lit c) => B.set x (c, c)
  | .lt (.var x) (.lit c) => match B[x]? with
    | some (l, h) => if c ≤ h then B.set x (l, c - 1) else B
    | none => B
  | .not (.lt (.var x) (.lit c)) => match B[x]? with
    | some (l, h) => if l < c then B.set x (c, h) else B
    | none => B
  | .lt (.lit c) (.var x) => match B[x]? with
    | some (l, h) => if l ≤ c then B.set x (c + 1, h) else B
    | none => B
  | .not (.lt (.lit c) (.var x)) => match B[x]? with
    | some (l, h) => if c < h then B.set x (l, c) else B
    | none => B
  | .not (.eq (.var x) (.lit c)) => match B[x]? with
    | some (l, h) => if l = c then B.set x (l + 1, h) else if h = c then B.set x (l, h - 1) else B
    | none => B
  | _ => B
theorem Bnds.ok_set {B : Bnds} {σ : Vl} (hB : B.ok σ) {x : Nat} {l h : Int} (h1 : l ≤ σ.i x) (h2 : σ.i x ≤ h) : Bnds.ok (B.set x (l, h)) σ := by
  intro y l' h' hy
  rw [List.getElem?_set] at hy
  split at hy
  · rename_i e; subst e
    split at hy
    · simp at hy; obtain ⟨rfl, rfl⟩ := hy; exact ⟨h1, h2⟩
    · simp at hy
  · exact hB y l' h' hy
theorem Bnds.cut_ok {B : Bnds} {σ : Vl} (hB : B.ok σ) {b : SB} (hb : b.den σ = true) : (B.cut b).ok σ := by
  unfold Bnds.cut
  split
  · simp only [SB.den, SI.den, beq_iff_eq] at hb
    exact Bnds.ok_set hB (by omega) (by omega)
  all_goals try exact hB
  all_goals
    simp only [SB.den, SI.den, Bool.not_eq_true', beq_eq_false_iff_ne] at hb
    first
    | replace hb := of_decide_eq_true hb
    | replace hb := of_decide_eq_false hb
    | skip
    split
    · rename_i l h he
      have := hB _ _ _ he
      split
      · exact Bnds.ok_set hB (by omega) (by omega)
      · first
        | exact hB
        | (split
           · exact Bnds.ok_set hB (by omega) (by omega)
           · exact hB)
    · exact hB
def Bnds.cuts (B : Bnds) : List SB → Bnds
  | [] => B
  | b :: A => (Bnds.cuts B A).cut b
theorem Bnds.cuts_ok {B : Bnds} {σ : Vl} (hB : B.ok σ) : ∀ {A : List SB}, Holds σ A → (B.cuts A).ok σ
  | [], _ => hB
  | b :: _, hA => Bnds.cut_ok (Bnds.cuts_ok hB fun x hx => hA x (by simp [hx])) (hA b (by simp))

def SB.dec (B : Bnds) (A : List SB) (b : SB) : Option Bool :=
  match b with
  | .lit v => some v
  | b => b.dec0 (B.cuts A) A
theorem SB.dec_ok {B : Bnds} {σ : Vl} {A : List SB} (hB : B.ok σ) (hA : Holds σ A) (b : SB) {v : Bool} (h : b.dec B A = some v) : b.den σ = v := by
  unfold SB.dec at h
  split at h
  · simp at h; subst h; rfl
  · exact SB.dec0_ok (Bnds.cuts_ok hB hA) hA _ h

/-- Negation, and what is known, taken out. -/
def SB.neg : SB → SB
  | .lit b => .lit !b
  | .not a => a
  | a => .not a
theorem SB.den_neg (σ : Vl) (a : SB) : a.neg.den σ = !(a.den σ) := by unfold SB.neg; split <;> simp [SB.den]
def SB.nrm (B : Bnds) (A : List SB) (b : SB) : SB := match b.dec B A with | some v => .lit v | none => b
theorem SB.den_nrm {B : Bnds} {σ : Vl} {A : List SB} (hB : B.ok σ) (hA : Holds σ A) (b : SB) : (b.nrm B A).den σ = b.den σ := by
  unfold SB.nrm; split
  · rename_i v h; simp [SB.den, SB.dec_ok hB hA b h]
  · rfl

/-- Symbolic values. A pointer leads to an id; which block an id is, the map tells. -/
inductive CV where
  | bool (b : SB)
  | int (k : IntKind) (n : SI)
  | str (s : List UInt8)
  | ptr (id off : Nat)
  | gptr (g off : Nat)
  | nilptr
  | slice (id off len cap : Nat)
  | oslice (id sz off base len : Nat)
  | nilslice
  | map (id : Nat)
  | nilmap
  | func (fn : Fn) (first captured : List CV)
  | nilFunc
  | iface (t : TypeId) (v : CV)
  | nilIface
  | agg (cs : List CV)
  | tuple (cs : List CV)
  | sym (x : Nat)
  deriving Inhabited

/-- Which block an id is, and how many cells that has. -/
abbrev M := Nat → Option (Nat × Nat)

mutual
def dv (σ : Vl) (m : M) : CV → Option Value
  | .bool b => some (.bool (b.den σ))
  | .int k n => some (.int k (n.den σ))
  | .str s => some (.string ⟨s.toArray⟩)
  | .ptr id off => (m id).map fun (b, _) => .pointer (some ⟨b, off, none⟩)
  | .gptr g off => some (.pointer (some ⟨g, off, none⟩))
  | .nilptr => some (.pointer none)
  | .slice id off len cap => (m id).map fun (b, _) => .slice (some ⟨b, off, none⟩) len cap
  | .oslice id sz off base len => (m id).map fun (b, n) => .slice (some ⟨b, if n / sz = off then base else off * sz, none⟩) len (n / sz - off)
  | .nilslice => some (.slice none 0 0)
  | .map id => (m id).map fun (b, _) => .map (some b)
  | .nilmap => some (.map none)
  | .func fn first captured => (dvs σ m first).bind fun xs => (dvs σ m captured).map fun ys => .func fn xs.toArray ys.toArray
  | .nilFunc => some .nilFunc
  | .iface t v => (dv σ m v).map (.iface t)
  | .nilIface => some .nilIface
  | .agg cs => (dvs σ m cs).map fun xs => .agg xs.toArray
  | .tuple cs => (dvs σ m cs).map fun xs => .tuple xs.toArray
  | .sym x => some (σ.v x)
def dvs (σ : Vl) (m : M) : List CV → Option (List Value)
  | [] => some []
  | c :: cs => (dv σ m c).bind fun v => (dvs σ m cs).map fun vs => v :: vs
end

def M.le (m m' : M) : Prop := ∀ id x, m id = some x → m' id = some x
theorem M.le_refl (m : M) : m.le m := fun _ _ h => h
theorem M.le_trans {a b c : M} (h : a.le b) (h' : b.le c) : a.le c := fun i x hx => h' i x (h i x hx)

mutual
theorem dv_mono (σ : Vl) {m m' : M} (h : m.le m') : ∀ (c : CV) {v : Value}, dv σ m c = some v → dv σ m' c = some v
  | .bool b, v, e => by simpa [dv] using e
  | .int k n, v, e => by simpa [dv] using e
  | .str s, v, e => by simpa [dv] using e
  | .ptr id off, v, e => by
    simp only [dv, Option.map_eq_some_iff] at e ⊢; obtain ⟨x, hx, rfl⟩ := e; exact ⟨x, h _ _ hx, rfl⟩
  | .gptr g off, v, e => by simpa [dv] using e
  | .nilptr, v, e => by simpa [dv] using e
  | .slice id off len cap, v, e => by
    simp only [dv, Option.map_eq_some_iff] at e ⊢; obtain ⟨x, hx, rfl⟩ := e; exact ⟨x, h _ _ hx, rfl⟩
  | .oslice id sz off base len, v, e => by
    simp only [dv, Option.map_eq_some_iff] at e ⊢; obtain ⟨x, hx, rfl⟩ := e; exact ⟨x, h _ _ hx, rfl⟩
  | .nilslice, v, e => by simpa [dv] using e
  | .map id, v, e => by
    simp only [dv, Option.map_eq_some_iff] at e ⊢; obtain ⟨x, hx, rfl⟩ := e; exact ⟨x, h _ _ hx, rfl⟩
  | .nilmap, v, e => by simpa [dv] using e
  | .func fn first captured, v, e => by
    simp only [dv, Option.bind_eq_some_iff, Option.map_eq_some_iff] at e ⊢
    obtain ⟨xs, hx, ys, hy, rfl⟩ := e
    exact ⟨xs, dvs_mono σ h first hx, ys, dvs_mono σ h captured hy, rfl⟩
  | .nilFunc, v, e => by simpa [dv] using e
  | .iface t c, v, e => by
    simp only [dv, Option.map_eq_some_iff] at e ⊢; obtain ⟨x, hx, rfl⟩ := e; exact ⟨x, dv_mono σ h c hx, rfl⟩
  | .nilIface, v, e => by simpa [dv] using e
  | .agg cs, v, e => by
    simp only [dv, Option.map_eq_some_iff] at e ⊢; obtain ⟨x, hx, rfl⟩ := e; exact ⟨x, dvs_mono σ h cs hx, rfl⟩
  | .tuple cs, v, e => by
    simp only [dv, Option.map_eq_some_iff] at e ⊢; obtain ⟨x, hx, rfl⟩ := e; exact ⟨x, dvs_mono σ h cs hx, rfl⟩
  | .sym x, v, e => by simpa [dv] using e
theorem dvs_mono (σ : Vl) {m m' : M} (h : m.le m') : ∀ (cs : List CV) {vs : List Value}, dvs σ m cs = some vs → dvs σ m' cs = some vs
  | [], vs, e => by simpa [dvs] using e
  | c :: cs, vs, e => by
    simp only [dvs, Option.bind_eq_some_iff, Option.map_eq_some_iff] at e ⊢
    obtain ⟨v, hv, ws, hw, rfl⟩ := e
    exact ⟨v, dv_mono σ h c hv, ws, dvs_mono σ h cs hw, rfl⟩
end

section
variable {σ : Vl} {m : M}
theorem dvs_cons {c : CV} {cs : List CV} {vs : List Value} : dvs σ m (c :: cs) = some vs ↔ ∃ v ws, dv σ m c = some v ∧ dvs σ m cs = some ws ∧ vs = v :: ws := by
  simp only [dvs, Option.bind_eq_some_iff, Option.map_eq_some_iff]
  constructor
  · rintro ⟨v, hv, ws, hw, rfl⟩; exact ⟨v, ws, hv, hw, rfl⟩
  · rintro ⟨v, ws, hv, hw, rfl⟩; exact ⟨v, hv, ws, hw, rfl⟩

theorem dvs_length : ∀ {cs : List CV} {vs : List Value}, dvs σ m cs = some vs → vs.length = cs.length
  | [], vs, h => by simp [dvs] at h; subst h; rfl
  | c :: cs, vs, h => by
    obtain ⟨v, ws, _, hw, rfl⟩ := dvs_cons.1 h
    simp [dvs_length hw]

theorem dvs_get : ∀ {cs : List CV} {vs : List Value}, dvs σ m cs = some vs → ∀ (i : Nat), ((cs[i]? = none ∧ vs[i]? = none) ∨ ∃ c v, cs[i]? = some c ∧ vs[i]? = some v ∧ dv σ m c = some v)
  | [], vs, h, i => by simp [dvs] at h; subst h; simp
  | c :: cs, vs, h, i => by
    obtain ⟨v, ws, hv, hw, rfl⟩ := dvs_cons.1 h
    cases i with
    | zero => right; exact ⟨c, v, by simp, by simp, hv⟩
    | succ i => simpa using dvs_get hw i

theorem dvs_get_some {cs : List CV} {vs : List Value} (h : dvs σ m cs = some vs) {i : Nat} {c : CV} (hc : cs[i]? = some c) : ∃ v, vs[i]? = some v ∧ dv σ m c = some v := by
  rcases dvs_get h i with ⟨h1, _⟩ | ⟨c', v, h1, h2, h3⟩
  · rw [hc] at h1; simp at h1
  · rw [hc] at h1; simp at h1; subst h1; exact ⟨v, h2, h3⟩

theorem dvs_set : ∀ {cs : List CV} {vs : List Value}, dvs σ m cs = some vs → ∀ (i : Nat) {c : CV} {v : Value}, dv σ m c = some v → dvs σ m (cs.set i c) = some (vs.set i v)
  | [], vs, h, i, c, v, hc => by simp [dvs] at h; subst h; simp [dvs]
  | x :: cs, vs, h, i, c, v, hc => by
    obtain ⟨y, ws, hy, hw, rfl⟩ := dvs_cons.1 h
    cases i with
    | zero => simp [dvs_cons, hc, hw]
    | succ i => simp [dvs_cons, hy, dvs_set hw i hc]

theorem dvs_append : ∀ {cs ds : List CV} {vs us : List Value}, dvs σ m cs = some vs → dvs σ m ds = some us → dvs σ m (cs ++ ds) = some (vs ++ us)
  | [], ds, vs, us, h, h' => by simp [dvs] at h; subst h; simpa using h'
  | c :: cs, ds, vs, us, h, h' => by
    obtain ⟨v, ws, hv, hw, rfl⟩ := dvs_cons.1 h
    simp [dvs_cons, hv, dvs_append hw h']

theorem dvs_drop : ∀ {cs : List CV} {vs : List Value}, dvs σ m cs = some vs → ∀ i, dvs σ m (cs.drop i) = some (vs.drop i)
  | [], vs, h, i => by simp [dvs] at h; subst h; simp [dvs]
  | c :: cs, vs, h, i => by
    obtain ⟨v, ws, hv, hw, rfl⟩ := dvs_cons.1 h
    cases i with
    | zero => simp [dvs_cons, hv, hw]
    | succ i => simpa using dvs_drop hw i

theorem dvs_take : ∀ {cs : List CV} {vs : List Value}, dvs σ m cs = some vs → ∀ i, dvs σ m (cs.take i) = some (vs.take i)
  | [], vs, h, i => by simp [dvs] at h; subst h; simp [dvs]
  | c :: cs, vs, h, i => by
    obtain ⟨v, ws, hv, hw, rfl⟩ := dvs_cons.1 h
    cases i with
    | zero => simp [dvs]
    | succ i => simp [dvs_cons, hv, dvs_take hw i]
end

/-- Values without parts. -/
def CV.one : CV → Bool
  | .agg _ | .tuple _ => false
  | _ => true
theorem dv_one {σ : Vl} {m : M} {c : CV} {v : Value} (h : dv σ m c = some v) (hc : c.one = true) : v.oneCell' = true := by
  cases c <;> simp [CV.one] at hc <;> simp only [dv, Option.map_eq_some_iff, Option.bind_eq_some_iff, Option.some.injEq] at h
  case sym x => subst h; exact σ.one x
  all_goals first
    | (subst h; rfl)
    | (obtain ⟨_, _, rfl⟩ := h; rfl)
    | (obtain ⟨_, _, _, _, rfl⟩ := h; rfl)

def CV.cells : CV → List CV
  | .agg cs => cs
  | v => [v]
theorem cells_one {v : Value} (h : v.oneCell' = true) : v.cells.toList = [v] := by
  cases v <;> simp [Value.oneCell'] at h <;> rfl
theorem dv_cells {σ : Vl} {m : M} {c : CV} {v : Value} (h : dv σ m c = some v) : dvs σ m c.cells = some v.cells.toList := by
  by_cases hc : c.one = true
  · rw [cells_one (dv_one h hc)]
    cases c <;> simp [CV.one] at hc <;> simp [CV.cells, dvs, h]
  · cases c <;> simp [CV.one] at hc
    case agg cs =>
      simp only [dv, Option.map_eq_some_iff] at h
      obtain ⟨xs, hx, rfl⟩ := h
      simpa [Value.cells, CV.cells] using hx
    case tuple cs =>
      simp only [dv, Option.map_eq_some_iff] at h
      obtain ⟨xs, hx, rfl⟩ := h
      simp [Value.cells, CV.cells, dvs, dv, hx]

/-- A constant of the program's text. -/
def ofVal : Value → Option CV
  | .bool b => some (.bool (.lit b))
  | .int k n => some (.int k (.lit n))
  | .string s => some (.str s.data.toList)
  | .pointer none => some .nilptr
  | .slice none 0 0 => some .nilslice
  | .map none => some .nilmap
  | .func fn first captured => if first.size = 0 ∧ captured.size = 0 then some (.func fn [] []) else none
  | .nilFunc => some .nilFunc
  | .nilIface => some .nilIface
  | .tuple vs => if vs.size = 0 then some (.tuple []) else none
  | .iface t (.int k n) => some (.iface t (.int k (.lit n)))
  | _ => none
theorem ofVal_ok (σ : Vl) (m : M) {v : Value} {c : CV} (h : ofVal v = some c) : dv σ m c = some v := by
  unfold ofVal at h
  split at h <;> try simp only [Option.some.injEq, reduceCtorEq] at h
  case h_7 fn first captured =>
    split at h
    · rename_i hc
      simp at h; subst h
      have h1 : first = #[] := by apply Array.eq_empty_of_size_eq_zero hc.1
      have h2 : captured = #[] := by apply Array.eq_empty_of_size_eq_zero hc.2
      subst h1; subst h2
      simp [dv, dvs]
    · simp at h
  case h_10 vs =>
    split at h
    · rename_i hc
      simp at h; subst h
      have h1 : vs = #[] := by apply Array.eq_empty_of_size_eq_zero hc
      subst h1
      simp [dv, dvs]
    · simp at h
  all_goals (subst h; simp [dv, SB.den, SI.den])

def ofVals : List Value → Option (List CV)
  | [] => some []
  | v :: vs => (ofVal v).bind fun c => (ofVals vs).map (c :: ·)
theorem ofVals_ok (σ : Vl) (m : M) : ∀ {vs : List Value} {cs : List CV}, ofVals vs = some cs → dvs σ m cs = some vs
  | [], cs, h => by simp [ofVals] at h; subst h; simp [dvs]
  | v :: vs, cs, h => by
    simp only [ofVals, Option.bind_eq_some_iff, Option.map_eq_some_iff] at h
    obtain ⟨c, hc, ds, hd, rfl⟩ := h
    simp [dvs_cons, ofVal_ok σ m hc, ofVals_ok σ m hd]

/-- Objects of the symbolic heap. 'opn': behind the cells lie more, of which nothing is said. -/
inductive HObj where
  | cells (cs : List CV) (elem : TypeId) (opn : Bool)
  | map (es : List (CV × CV × Nat)) (clock : Nat)
  | glob (g : Nat) (cs : List CV)
  deriving Inhabited

/-- A tree that holds things at numbers. -/
inductive Tr (α : Type) where
  | nil
  | node (v : Option α) (l r : Tr α)
  deriving Inhabited

/- Both by the recursor: the kernel goes through them fast. -/
noncomputable def Tr.get {α : Type} (t : Tr α) : Nat → Option α :=
  Tr.rec (motive := fun _ => Nat → Option α) (fun _ => none)
    (fun v _ _ gl gr i => Bool.rec (Bool.rec (gr (Nat.sub (Nat.div i 2) 1)) (gl (Nat.div i 2)) (Nat.beq (Nat.land i 1) 1)) v (Nat.beq i 0)) t

/-- A way of its own to a place that lies nowhere yet. -/
noncomputable def Tr.one {α β : Type} (x : Option α) (f : Nat) : Nat → (Tr α → Option β) → Option β :=
  Nat.rec (motive := fun _ => Nat → (Tr α → Option β) → Option β) (fun _ _ => none)
    (fun _ g i k => Bool.rec (Bool.rec (g (Nat.sub (Nat.div i 2) 1) fun r => k (.node none .nil r)) (g (Nat.div i 2) fun l => k (.node none l .nil)) (Nat.beq (Nat.land i 1) 1)) (k (.node x .nil .nil)) (Nat.beq i 0)) f

noncomputable def Tr.put {α β : Type} (f : Nat) (x : Option α) (t : Tr α) : Nat → (Tr α → Option β) → Option β :=
  Tr.rec (motive := fun _ => Nat → (Tr α → Option β) → Option β) (fun i k => Tr.one x f i k)
    (fun v l r gl gr i k => Bool.rec (Bool.rec (gr (Nat.sub (Nat.div i 2) 1) fun r => k (.node v l r)) (gl (Nat.div i 2) fun l => k (.node v l r)) (Nat.beq (Nat.land i 1) 1)) (k (.node x l r)) (Nat.beq i 0)) t

noncomputable def Tr.set {α : Type} (f : Nat) (t : Tr α) (i : Nat) (x : Option α) : Option (Tr α) := Tr.put f x t i some

theorem Tr.get_nil {α : Type} (i : Nat) : (Tr.nil : Tr α).get i = none := rfl
theorem Tr.get_node {α : Type} (v : Option α) (l r : Tr α) (i : Nat) : (Tr.node v l r).get i = if i = 0 then v else if i % 2 = 1 then l.get (i / 2) else r.get (i / 2 - 1) := by
  show (Bool.rec (Bool.rec (r.get (i / 2 - 1)) (l.get (i / 2)) (Nat.beq (i &&& 1) 1)) v (Nat.beq i 0) : Option α) = _
  have h1 : (i &&& 1) = i % 2 := Nat.and_one_is_mod i
  rw [h1]
  by_cases h : i = 0
  · subst h; simp
  · rw [if_neg h]
    have : Nat.beq i 0 = false := by
      cases hb : Nat.beq i 0
      · rfl
      · exact absurd (Nat.eq_of_beq_eq_true hb) h
    rw [this]
    by_cases h2 : i % 2 = 1
    · rw [if_pos h2, h2]; rfl
    · rw [if_neg h2]
      have : Nat.beq (i % 2) 1 = false := by
        cases hb : Nat.beq (i % 2) 1
        · rfl
        · exact absurd (Nat.eq_of_beq_eq_true hb) h2
      rw [this]

theorem Tr.one_get {α β : Type} (x : Option α) : ∀ (f i : Nat) (k : Tr α → Option β) {b : β}, Tr.one x f i k = some b → ∃ t, k t = some b ∧ ∀ j, t.get j = if j = i then x else none
  | 0, _, _, _, h => by simp [Tr.one] at h
  | f + 1, i, k, b, h => by
    replace h : (Bool.rec (Bool.rec (Tr.one x f (i / 2 - 1) fun r => k (.node none .nil r)) (Tr.one x f (i / 2) fun l => k (.node none l .nil)) (Nat.beq (i &&& 1) 1)) (k (.node x .nil .nil)) (Nat.beq i 0) : Option β) = some b := h
    rw [Nat.and_one_is_mod] at h
    cases h0 : Nat.beq i 0 with
    | true =>
      rw [h0] at h
      have := Nat.eq_of_beq_eq_true h0
      subst this
      refine ⟨_, h, fun j => ?_⟩
      rw [Tr.get_node]
      split
      · rfl
      · simp [Tr.get_nil]
    | false =>
      rw [h0] at h
      have hi : i ≠ 0 := fun e => by subst e; simp at h0
      cases h1 : Nat.beq (i % 2) 1 with
      | true =>
        rw [h1] at h
        have hp := Nat.eq_of_beq_eq_true h1
        obtain ⟨t, ht, hg⟩ := Tr.one_get x f (i / 2) _ h
        refine ⟨_, ht, fun j => ?_⟩
        rw [Tr.get_node, hg, Tr.get_nil]
        by_cases hj : j = 0
        · rw [if_pos hj, if_neg (by omega)]
        · rw [if_neg hj]
          by_cases hp' : j % 2 = 1
          · rw [if_pos hp']
            by_cases e : j = i
            · rw [if_pos e, if_pos (by omega)]
            · rw [if_neg e, if_neg (by omega)]
          · rw [if_neg hp', if_neg (by omega)]
      | false =>
        rw [h1] at h
        have hp : i % 2 ≠ 1 := fun e => by rw [e] at h1; simp at h1
        obtain ⟨t, ht, hg⟩ := Tr.one_get x f (i / 2 - 1) _ h
        refine ⟨_, ht, fun j => ?_⟩
        rw [Tr.get_node, hg, Tr.get_nil]
        by_cases hj : j = 0
        · rw [if_pos hj, if_neg (by omega)]
        · rw [if_neg hj]
          by_cases hp' : j % 2 = 1
          · rw [if_pos hp', if_neg (by omega)]
          · rw [if_neg hp']
            by_cases e : j = i
            · rw [if_pos e, if_pos (by omega)]
            · rw [if_neg e, if_neg (by omega)]

theorem Tr.put_get {α β : Type} (f : Nat) (x : Option α) : ∀ (t : Tr α) (i : Nat) (k : Tr α → Option β) {b : β}, Tr.put f x t i k = some b → ∃ t', k t' = some b ∧ ∀ j, t'.get j = if j = i then x else t.get j
  | .nil, i, k, b, h => by
    obtain ⟨t, h1, h2⟩ := Tr.one_get x f i k h
    exact ⟨t, h1, fun j => by rw [h2, Tr.get_nil]⟩
  | .node v l r, i, k, b, h => by
    replace h : (Bool.rec (Bool.rec (Tr.put f x r (i / 2 - 1) fun r => k (.node v l r)) (Tr.put f x l (i / 2) fun l => k (.node v l r)) (Nat.beq (i &&& 1) 1)) (k (.node x l r)) (Nat.beq i 0) : Option β) = some b := h
    rw [Nat.and_one_is_mod] at h
    cases h0 : Nat.beq i 0 with
    | true =>
      rw [h0] at h
      have := Nat.eq_of_beq_eq_true h0
      subst this
      refine ⟨_, h, fun j => ?_⟩
      rw [Tr.get_node, Tr.get_node]
      split <;> rfl
    | false =>
      rw [h0] at h
      have hi : i ≠ 0 := fun e => by subst e; simp at h0
      cases h1 : Nat.beq (i % 2) 1 with
      | true =>
        rw [h1] at h
        have hp := Nat.eq_of_beq_eq_true h1
        obtain ⟨t, ht, hg⟩ := Tr.put_get f x l (i / 2) _ h
        refine ⟨_, ht, fun j => ?_⟩
        rw [Tr.get_node, Tr.get_node, hg]
        by_cases hj : j = 0
        · rw [if_pos hj, if_neg (by omega), if_pos hj]
        · rw [if_neg hj, if_neg hj]
          by_cases hp' : j % 2 = 1
          · rw [if_pos hp', if_pos hp']
            by_cases e : j = i
            · rw [if_pos e, if_pos (by omega)]
            · rw [if_neg e, if_neg (by omega)]
          · rw [if_neg hp', if_neg hp', if_neg (by omega)]
      | false =>
        rw [h1] at h
        have hp : i % 2 ≠ 1 := fun e => by rw [e] at h1; simp at h1
        obtain ⟨t, ht, hg⟩ := Tr.put_get f x r (i / 2 - 1) _ h
        refine ⟨_, ht, fun j => ?_⟩
        rw [Tr.get_node, Tr.get_node, hg]
        by_cases hj : j = 0
        · rw [if_pos hj, if_neg (by omega), if_pos hj]
        · rw [if_neg hj, if_neg hj]
          by_cases hp' : j % 2 = 1
          · rw [if_pos hp', if_pos hp', if_neg (by omega)]
          · rw [if_neg hp', if_neg hp']
            by_cases e : j = i
            · rw [if_pos e, if_pos (by omega)]
            · rw [if_neg e, if_neg (by omega)]

theorem Tr.get_set {α : Type} (f : Nat) (t : Tr α) (i : Nat) (x : Option α) {t' : Tr α} (h : Tr.set f t i x = some t') (j : Nat) : t'.get j = if j = i then x else t.get j := by
  obtain ⟨u, h1, h2⟩ := Tr.put_get f x t i some h
  obtain rfl := Option.some.inj h1
  exact h2 j

/-- The symbolic heap: what lies at ids; ids from 'n' on are new. -/
structure Heap where
  t : Tr HObj
  n : Nat
  deriving Inhabited
def Heap.obj (h : Heap) (id : Nat) : Option HObj := h.t.get id
def Heap.set (h : Heap) (id : Nat) (o : Option HObj) : Option Heap := (Tr.set 40 h.t id o).map fun t => ⟨t, h.n⟩
def Heap.new (h : Heap) (o : HObj) : Option Heap := (Tr.set 40 h.t h.n (some o)).map fun t => ⟨t, h.n + 1⟩

theorem Heap.obj_set {h h' : Heap} {id : Nat} {o : Option HObj} (e : h.set id o = some h') (j : Nat) : h'.obj j = if j = id then o else h.obj j := by
  simp only [Heap.set, Option.map_eq_some_iff] at e
  obtain ⟨t, ht, rfl⟩ := e
  exact Tr.get_set 40 h.t id o ht j
theorem Heap.n_set {h h' : Heap} {id : Nat} {o : Option HObj} (e : h.set id o = some h') : h'.n = h.n := by
  simp only [Heap.set, Option.map_eq_some_iff] at e
  obtain ⟨t, ht, rfl⟩ := e; rfl
theorem Heap.obj_new {h h' : Heap} {o : HObj} (e : h.new o = some h') (j : Nat) : h'.obj j = if j = h.n then some o else h.obj j := by
  simp only [Heap.new, Option.map_eq_some_iff] at e
  obtain ⟨t, ht, rfl⟩ := e
  exact Tr.get_set 40 h.t h.n (some o) ht j
theorem Heap.n_new {h h' : Heap} {o : HObj} (e : h.new o = some h') : h'.n = h.n + 1 := by
  simp only [Heap.new, Option.map_eq_some_iff] at e
  obtain ⟨t, ht, rfl⟩ := e; rfl

def ents (σ : Vl) (m : M) : List (CV × CV × Nat) → List MapEntry → Prop
  | [], [] => True
  | (k, v, b) :: es, e :: es' => dv σ m k = some e.key ∧ dv σ m v = some e.val ∧ e.born = b ∧ ents σ m es es'
  | _, _ => False

def ORep (σ : Vl) (m : M) : HObj → Nat → Obj → Prop
  | .cells cs e opn, n, o => ∃ arr : Array Value, o = .cells arr e (0, 0) ∧ arr.size = n ∧ ∃ vs zs, dvs σ m cs = some vs ∧ arr.toList = vs ++ zs ∧ (opn = false → zs = [])
  | .map es clock, _, o => ∃ arr : Array MapEntry, o = .map arr clock ∧ ents σ m es arr.toList
  | .glob g cs, n, o => m g = some (g, n) ∧ o = σ.gob g ∧ ∃ arr el fr us zs, o = .cells arr el fr ∧ dvs σ m cs = some us ∧ arr.toList = us ++ zs

theorem ents_mono (σ : Vl) {m m' : M} (h : m.le m') : ∀ {es : List (CV × CV × Nat)} {ws : List MapEntry}, ents σ m es ws → ents σ m' es ws
  | [], [], _ => trivial
  | [], _ :: _, e => e.elim
  | _ :: _, [], e => e.elim
  | (k, v, _) :: _, _ :: _, ⟨h1, h2, h3, h4⟩ => ⟨dv_mono σ h k h1, dv_mono σ h v h2, h3, ents_mono σ h h4⟩

theorem ORep.mono {σ : Vl} {m m' : M} (h : m.le m') {o : HObj} {n : Nat} {wo : Obj} (r : ORep σ m o n wo) : ORep σ m' o n wo := by
  cases o with
  | cells cs e opn =>
    obtain ⟨arr, h1, h2, vs, zs, h3, h4, h5⟩ := r
    exact ⟨arr, h1, h2, vs, zs, dvs_mono σ h cs h3, h4, h5⟩
  | map es clock =>
    obtain ⟨arr, h1, h2⟩ := r
    exact ⟨arr, h1, ents_mono σ h h2⟩
  | glob g cs =>
    obtain ⟨h1, h2, arr, el, fr, us, zs, h3, h4, h5⟩ := r
    exact ⟨h _ _ h1, h2, arr, el, fr, us, zs, h3, dvs_mono σ h cs h4, h5⟩

/-- The world shows what the heap says. -/
structure Rep (σ : Vl) (m : M) (h : Heap) (w : World) : Prop where
  top : ∀ id, h.n ≤ id → id < σ.N → m id = none
  obj : ∀ id o, h.obj id = some o → ∃ b n wo, m id = some (b, n) ∧ w.heap[b]? = some wo ∧ ORep σ m o n wo
  inj : ∀ id id' o o' b n n', h.obj id = some o → h.obj id' = some o' → m id = some (b, n) → m id' = some (b, n') → id = id'

theorem Rep.ne {σ : Vl} {m : M} {h : Heap} {w : World} (r : Rep σ m h w) (hN : h.n < σ.N) {id : Nat} {o : HObj} (ho : h.obj id = some o) : id ≠ h.n := by
  obtain ⟨b, n, _, hm, _⟩ := r.obj id o ho
  intro e
  subst e
  rw [r.top _ (Nat.le_refl _) hN] at hm
  simp at hm

theorem Rep.congr {σ : Vl} {m : M} {h : Heap} {w w' : World} (r : Rep σ m h w) (e : w'.heap = w.heap) : Rep σ m h w' :=
  ⟨r.top, fun id o ho => by rw [e]; exact r.obj id o ho, r.inj⟩

/-- All but the heap and the draws is as it was. -/
structure SysEq (w w' : World) : Prop where
  os : w'.os = w.os
  tape : w'.tape = w.tape
  output : w'.output = w.output
theorem SysEq.refl (w : World) : SysEq w w := ⟨rfl, rfl, rfl⟩
theorem SysEq.trans {w1 w2 w3 : World} (a : SysEq w1 w2) (b : SysEq w2 w3) : SysEq w1 w3 := ⟨b.os.trans a.os, b.tape.trans a.tape, b.output.trans a.output⟩

/-- What became of a world: what the heap did not have is as it was; what it has now it had, or is new. -/
structure Evo (h : Heap) (m : M) (w : World) (h' : Heap) (m' : M) (w' : World) : Prop where
  size : w.heap.size ≤ w'.heap.size
  len : h.n ≤ h'.n
  le : m.le m'
  keep : ∀ id, (id < h.n ∨ h'.n ≤ id) → m' id = m id
  same : ∀ b, b < w.heap.size → (∀ id o n, h.obj id = some o → m id ≠ some (b, n)) → w'.heap[b]? = w.heap[b]?
  own : ∀ id o b n, h'.obj id = some o → m' id = some (b, n) → w.heap.size ≤ b ∨ ∃ id0 o0 n0, h.obj id0 = some o0 ∧ m id0 = some (b, n0)
  sys : SysEq w w'

theorem Evo.refl (h : Heap) (m : M) (w : World) : Evo h m w h m w :=
  ⟨Nat.le_refl _, Nat.le_refl _, M.le_refl m, fun _ _ => rfl, fun _ _ _ => rfl, fun id o _ n h1 h2 => .inr ⟨id, o, n, h1, h2⟩, .refl w⟩

theorem Evo.trans {h1 h2 h3 : Heap} {m1 m2 m3 : M} {w1 w2 w3 : World} (a : Evo h1 m1 w1 h2 m2 w2) (b : Evo h2 m2 w2 h3 m3 w3) : Evo h1 m1 w1 h3 m3 w3 where
  size := Nat.le_trans a.size b.size
  len := Nat.le_trans a.len b.len
  le := M.le_trans a.le b.le
  keep := fun id hid => by
    have := a.len; have := b.len
    rw [b.keep id (by omega), a.keep id (by omega)]
  same := fun x hx hn => by
    rw [b.same x (Nat.lt_of_lt_of_le hx a.size) ?_, a.same x hx hn]
    intro id o n ho hm
    rcases a.own id o x n ho hm with h | ⟨id0, o0, n0, h0, hm0⟩
    · omega
    · exact hn id0 o0 n0 h0 hm0
  own := fun id o x n ho hm => by
    rcases b.own id o x n ho hm with h | ⟨id0, o0, n0, h0, hm0⟩
    · exact .inl (Nat.le_trans a.size h)
    · exact a.own id0 o0 x n0 h0 hm0
  sys := a.sys.trans b.sys

theorem Evo.congr {h h' : Heap} {m m' : M} {w w' w'' : World} (a : Evo h m w h' m' w') (e : w''.heap = w'.heap) (s : SysEq w' w'') : Evo h m w h' m' w'' :=
  ⟨by rw [e]; exact a.size, a.len, a.le, a.keep, fun b hb hn => by rw [e]; exact a.same b hb hn, a.own, a.sys.trans s⟩

/-- A cell is read. -/
theorem Rep.cell {σ : Vl} {m : M} {h : Heap} {w : World} (r : Rep σ m h w) {id : Nat} {cs : List CV} {e : TypeId} {opn : Bool} (ho : h.obj id = some (.cells cs e opn)) :
    ∃ b n vs, m id = some (b, n) ∧ b < w.heap.size ∧ dvs σ m cs = some vs ∧ (∀ i v, vs[i]? = some v → w.cell? ⟨b, i, none⟩ = some v) ∧ (∀ i, w.frozen? ⟨b, i, none⟩ = false) := by
  obtain ⟨b, n, wo, hm, hb, arr, rfl, hn, vs, zs, hv, ha, _⟩ := r.obj id _ ho
  refine ⟨b, n, vs, hm, (Array.getElem?_eq_some_iff.1 hb).1, hv, ?_, ?_⟩
  · intro i v hi
    simp only [World.cell?, hb, Option.isSome_none, Bool.false_eq_true, if_false]
    have : arr[i]? = arr.toList[i]? := by simp
    rw [this, ha, List.getElem?_append_left ((List.getElem?_eq_some_iff.1 hi).1)]
    exact hi
  · intro i
    simp only [World.frozen?, hb]
    simp

/-- Something else lies at an id. -/
theorem Rep.upd {σ : Vl} {m : M} {h h' : Heap} {w w' : World} (r : Rep σ m h w) {id : Nat} {o o' : HObj} {b n : Nat} {wo' : Obj}
    (ho : h.obj id = some o) (hm : m id = some (b, n)) (hs : h.set id (some o') = some h') (hb : w'.heap[b]? = some wo') (hr : ORep σ m o' n wo')
    (hsz : w'.heap.size = w.heap.size) (hoth : ∀ x, x ≠ b → w'.heap[x]? = w.heap[x]?) (hsy : SysEq w w') : Rep σ m h' w' ∧ Evo h m w h' m w' := by
  refine ⟨⟨?_, ?_, ?_⟩, ⟨by omega, by rw [Heap.n_set hs]; exact Nat.le_refl _, M.le_refl m, fun _ _ => rfl, ?_, ?_, hsy⟩⟩
  · intro i hi hN; rw [Heap.n_set hs] at hi; exact r.top i hi hN
  · intro i oi hi
    rw [Heap.obj_set hs] at hi
    split at hi
    · rename_i e; subst e; simp at hi; subst hi; exact ⟨b, n, wo', hm, hb, hr⟩
    · rename_i e
      obtain ⟨bi, ni, woi, hmi, hbi, hri⟩ := r.obj i oi hi
      refine ⟨bi, ni, woi, hmi, ?_, hri⟩
      rw [hoth bi ?_]; exact hbi
      intro hbb; subst hbb
      exact e (r.inj i id oi o bi ni n hi ho hmi hm)
  · intro i j oi oj bi ni nj hi hj hmi hmj
    rw [Heap.obj_set hs] at hi hj
    have gi : ∃ o, h.obj i = some o := by
      split at hi
      · rename_i e; subst e; exact ⟨o, ho⟩
      · exact ⟨oi, hi⟩
    have gj : ∃ o, h.obj j = some o := by
      split at hj
      · rename_i e; subst e; exact ⟨o, ho⟩
      · exact ⟨oj, hj⟩
    obtain ⟨o1, g1⟩ := gi
    obtain ⟨o2, g2⟩ := gj
    exact r.inj i j o1 o2 bi ni nj g1 g2 hmi hmj
  · intro x _ hx
    exact hoth x (fun e => hx id o n ho (e ▸ hm))
  · intro i oi bi ni hi hmi
    right
    rw [Heap.obj_set hs] at hi
    split at hi
    · rename_i e; subst e; exact ⟨_, o, ni, ho, hmi⟩
    · exact ⟨i, oi, ni, hi, hmi⟩

/-- Something new is laid. -/
def M.put (m : M) (id : Nat) (x : Nat × Nat) : M := fun i => if i = id then some x else m i
theorem M.le_put {m : M} {id : Nat} {x : Nat × Nat} (h : m id = none) : m.le (m.put id x) := fun i y hi => by
  unfold M.put; split
  · rename_i e; subst e; rw [h] at hi; simp at hi
  · exact hi

theorem Rep.new {σ : Vl} {m : M} {h h' : Heap} {w w' : World} (r : Rep σ m h w) {o : HObj} {n : Nat} {wo : Obj}
    (hs : h.new o = some h') (hN : h'.n ≤ σ.N) (hw : w'.heap = w.heap.push wo) (hsy : SysEq w w') (hr : ORep σ m o n wo) :
    Rep σ (m.put h.n (w.heap.size, n)) h' w' ∧ Evo h m w h' (m.put h.n (w.heap.size, n)) w' := by
  have hN' : h.n < σ.N := by rw [Heap.n_new hs] at hN; omega
  have hle : m.le (m.put h.n (w.heap.size, n)) := M.le_put (r.top h.n (Nat.le_refl _) hN')
  have hold : ∀ i, i ≠ h.n → m.put h.n (w.heap.size, n) i = m i := fun i hi => by simp [M.put, hi]
  have hnew : m.put h.n (w.heap.size, n) h.n = some (w.heap.size, n) := by simp [M.put]
  have hlt : ∀ i oi bi ni, h.obj i = some oi → m i = some (bi, ni) → bi < w.heap.size := by
    intro i oi bi ni hi hm
    obtain ⟨b', n', wo', hm', hb', _⟩ := r.obj i oi hi
    rw [hm] at hm'; simp at hm'
    rw [← hm'.1] at hb'
    exact (Array.getElem?_eq_some_iff.1 hb').1
  have hlook : ∀ x, x < w.heap.size → w'.heap[x]? = w.heap[x]? := fun x hx => by
    rw [hw, Array.getElem?_push]; simp; intro e; omega
  refine ⟨⟨?_, ?_, ?_⟩, ⟨by rw [hw]; simp, by rw [Heap.n_new hs]; omega, hle, fun i hi => hold i (by rw [Heap.n_new hs] at hi; omega), fun x hx _ => hlook x hx, ?_, hsy⟩⟩
  · intro i hi hiN; rw [Heap.n_new hs] at hi; rw [hold i (by omega)]; exact r.top i (by omega) hiN
  · intro i oi hi
    rw [Heap.obj_new hs] at hi
    split at hi
    · rename_i e; subst e; simp at hi; subst hi
      exact ⟨w.heap.size, n, wo, hnew, by rw [hw]; simp, hr.mono hle⟩
    · rename_i e
      obtain ⟨bi, ni, woi, hmi, hbi, hri⟩ := r.obj i oi hi
      exact ⟨bi, ni, woi, by rw [hold i e]; exact hmi, by rw [hlook bi (hlt i oi bi ni hi hmi)]; exact hbi, hri.mono hle⟩
  · intro i j oi oj bi ni nj hi hj hmi hmj
    rw [Heap.obj_new hs] at hi hj
    split at hi
    · rename_i e
      split at hj
      · rename_i e'; omega
      · rename_i e'
        subst e
        rw [hnew] at hmi; simp at hmi
        rw [hold j e'] at hmj
        have := hlt j oj bi nj hj hmj
        omega
    · rename_i e
      rw [hold i e] at hmi
      split at hj
      · rename_i e'
        subst e'
        rw [hnew] at hmj; simp at hmj
        have := hlt i oi bi ni hi hmi
        omega
      · rename_i e'
        rw [hold j e'] at hmj
        exact r.inj i j oi oj bi ni nj hi hj hmi hmj
  · intro i oi bi ni hi hmi
    rw [Heap.obj_new hs] at hi
    split at hi
    · rename_i e; subst e; rw [hnew] at hmi; simp at hmi; left; omega
    · rename_i e; rw [hold i e] at hmi; exact .inr ⟨i, oi, ni, hi, hmi⟩

/-- The same meaning, another bound. -/
def Vl.wN (σ : Vl) (N : Nat) : Vl := { σ with N }

theorem SI.den_wN (σ : Vl) (N : Nat) : ∀ a : SI, a.den (σ.wN N) = a.den σ := by
  intro a
  induction a <;> simp_all [SI.den, Vl.wN]
theorem SB.den_wN (σ : Vl) (N : Nat) : ∀ a : SB, a.den (σ.wN N) = a.den σ := by
  intro a
  induction a with
  | lit b => rfl
  | var x => rfl
  | lt a b => simp [SB.den, SI.den_wN]
  | eq a b => simp [SB.den, SI.den_wN]
  | not a ih => simp [SB.den, ih]
mutual
theorem dv_wN1 (σ : Vl) (N : Nat) (m : M) : ∀ c : CV, dv (σ.wN N) m c = dv σ m c
  | .bool b => by simp [dv, SB.den_wN]
  | .int k n => by simp [dv, SI.den_wN]
  | .str s => rfl
  | .ptr _ _ => rfl
  | .gptr _ _ => rfl
  | .nilptr => rfl
  | .slice _ _ _ _ => rfl
  | .oslice _ _ _ _ _ => rfl
  | .nilslice => rfl
  | .map _ => rfl
  | .nilmap => rfl
  | .func fn a b => by simp [dv, dvs_wN1 σ N m a, dvs_wN1 σ N m b]
  | .nilFunc => rfl
  | .iface t v => by simp [dv, dv_wN1 σ N m v]
  | .nilIface => rfl
  | .agg cs => by simp [dv, dvs_wN1 σ N m cs]
  | .tuple cs => by simp [dv, dvs_wN1 σ N m cs]
  | .sym _ => rfl
theorem dvs_wN1 (σ : Vl) (N : Nat) (m : M) : ∀ cs : List CV, dvs (σ.wN N) m cs = dvs σ m cs
  | [] => rfl
  | c :: cs => by simp [dvs, dv_wN1 σ N m c, dvs_wN1 σ N m cs]
end
theorem dv_wN (σ : Vl) (N : Nat) : dv (σ.wN N) = dv σ := by funext m c; exact dv_wN1 σ N m c
theorem dvs_wN (σ : Vl) (N : Nat) : dvs (σ.wN N) = dvs σ := by funext m c; exact dvs_wN1 σ N m c
theorem Holds_wN (σ : Vl) (N : Nat) (A : List SB) : Holds (σ.wN N) A ↔ Holds σ A := by simp [Holds, SB.den_wN]
theorem ents_wN (σ : Vl) (N : Nat) (m : M) : ∀ (es : List (CV × CV × Nat)) (ws : List MapEntry), ents (σ.wN N) m es ws ↔ ents σ m es ws
  | [], [] => Iff.rfl
  | [], _ :: _ => Iff.rfl
  | _ :: _, [] => Iff.rfl
  | (k, v, b) :: es, e :: ws => by simp [ents, dv_wN, ents_wN σ N m es ws]
theorem ORep_wN (σ : Vl) (N : Nat) (m : M) (o : HObj) (n : Nat) (wo : Obj) : ORep (σ.wN N) m o n wo ↔ ORep σ m o n wo := by
  have hg : (σ.wN N).gob = σ.gob := rfl
  cases o <;> simp [ORep, dvs_wN, ents_wN, hg]
theorem Bnds.ok_wN {B : Bnds} {σ : Vl} (h : B.ok σ) (N : Nat) : B.ok (σ.wN N) := h
end
end Go.Sx
