/- SX, part 3: operations on values: numbers, comparisons, structs, arrays, slices. -/
import Derived.Test.YtmamgkangmnkdaaGreatDoorSxPev
import Derived.Laws.Append
namespace Go.Sx
open Go
noncomputable section

/-- Some bits of what is known of more bits. -/
def SI.mask (e : SI) (b : SB) : Option Int :=
  match e with
  | .bits .and k a (.lit c) => match b with
    | .eq (.bits .and k' a' (.lit d)) (.lit n) => if k = k' ∧ a = a' ∧ (BitVec.ofInt k.bits d &&& BitVec.ofInt k.bits c) = BitVec.ofInt k.bits c then some (bitsDen .and k n c) else none
    | _ => none
  | _ => none
theorem ofInt_wrap (k : IntKind) (n : Int) : BitVec.ofInt k.bits (k.wrap n) = BitVec.ofInt k.bits n := by
  apply BitVec.eq_of_toNat_eq
  simp only [BitVec.toNat_ofInt]
  congr 1
  cases k <;> simp [IntKind.wrap, IntKind.signed, IntKind.bits] <;> omega
theorem ofInt_and (k : IntKind) (x d : Int) : BitVec.ofInt k.bits (bitsDen .and k x d) = BitVec.ofInt k.bits x &&& BitVec.ofInt k.bits d := by
  simp only [bitsDen, ofInt_wrap]
  apply BitVec.eq_of_toNat_eq
  rw [BitVec.toNat_ofInt]
  have := (BitVec.ofInt k.bits x &&& BitVec.ofInt k.bits d).isLt
  rw [Int.emod_eq_of_lt (by omega) (by exact_mod_cast this)]
  simp
theorem SI.mask_ok {σ : Vl} {e : SI} {b : SB} {n : Int} (h : SI.mask e b = some n) (hb : b.den σ = true) : e.den σ = n := by
  unfold SI.mask at h
  split at h
  · rename_i k a c
    split at h
    · rename_i k' a' d n'
      split at h
      · rename_i hc
        obtain ⟨rfl, rfl, hm⟩ := hc
        simp at h; subst h
        simp only [SB.den, SI.den, beq_iff_eq] at hb
        simp only [SI.den]
        rw [← hb]
        have h1 := ofInt_and k (a.den σ) d
        show bitsDen .and k (a.den σ) c = bitsDen .and k (bitsDen .and k (a.den σ) d) c
        simp only [bitsDen] at h1 ⊢
        rw [h1, BitVec.and_assoc, hm]
      · simp at h
    · simp at h
  · simp at h

/-- What is known to be a number. -/
def SI.known (e : SI) (b : SB) : Option Int := match b with
  | .eq e' (.lit n) => if e' = e then some n else SI.mask e b
  | _ => none
theorem SI.known_ok {σ : Vl} {e : SI} {b : SB} {n : Int} (h : SI.known e b = some n) (hb : b.den σ = true) : e.den σ = n := by
  unfold SI.known at h
  split at h
  · split at h
    · rename_i he
      simp at h; subst h; subst he
      simpa [SB.den, SI.den] using hb
    · exact SI.mask_ok h hb
  · simp at h
def SI.pin0 (A : List SB) (e : SI) : SI :=
  match e with
  | .lit n => .lit n
  | e => match A.findSome? (SI.known e) with
    | some n => .lit n
    | none => e
theorem SI.den_pin0 {σ : Vl} {A : List SB} (hA : Holds σ A) (e : SI) : (e.pin0 A).den σ = e.den σ := by
  unfold SI.pin0
  split
  · rfl
  · split
    · rename_i n h
      obtain ⟨b, hb, h⟩ := List.exists_of_findSome?_eq_some h
      simp only [SI.den]
      exact (SI.known_ok h (hA _ hb)).symm
    · rfl

/-- What is known to be a number, by an equation or by its bounds. -/
def SI.pin (B : Bnds) (A : List SB) (e : SI) : SI :=
  match e with
  | .lit n => .lit n
  | e => match A with
    | [] => e
    | A => match e.pin0 A with
      | .lit n => .lit n
      | e => match e.rng B A with
        | some (l, h) => if l = h then .lit l else e
        | none => e
theorem SI.den_pin {B : Bnds} {σ : Vl} {A : List SB} (hB : B.ok σ) (hA : Holds σ A) (e : SI) : (e.pin B A).den σ = e.den σ := by
  unfold SI.pin
  split
  · rfl
  · split
    · rfl
    · have h0 := SI.den_pin0 hA e
      split
      · rename_i n hn
        rw [hn] at h0; exact h0
      · rename_i e' _
        split
        · rename_i l h hr
          have h1 := SI.rng_ok hB hA _ hr
          split
          · rename_i hlh
            subst hlh
            rw [h0] at h1
            simp only [SI.den]
            omega
          · exact h0
        · exact h0

def SI.bits' (op : BinOp) (k : IntKind) : SI → SI → SI
  | .lit a, .lit b => .lit (bitsDen op k a b)
  | a, b => .bits op k a b
theorem SI.den_bits' (σ : Vl) (op : BinOp) (k : IntKind) (a b : SI) : (SI.bits' op k a b).den σ = bitsDen op k (a.den σ) (b.den σ) := by
  unfold SI.bits'; split <;> simp [SI.den]
def SI.quo' : SI → SI → SI
  | .lit a, .lit b => .lit (a.tdiv b)
  | a, b => .quo a b
theorem SI.den_quo' (σ : Vl) (a b : SI) : (SI.quo' a b).den σ = (a.den σ).tdiv (b.den σ) := by
  unfold SI.quo'; split <;> simp [SI.den]
def SI.rem' : SI → SI → SI
  | .lit a, .lit b => .lit (a.tmod b)
  | a, b => .rem a b
theorem SI.den_rem' (σ : Vl) (a b : SI) : (SI.rem' a b).den σ = (a.den σ).tmod (b.den σ) := by
  unfold SI.rem'; split <;> simp [SI.den]
def SI.shl' : SI → Nat → SI
  | .lit a, n => .lit (a * 2 ^ n)
  | a, n => .shl a n
theorem SI.den_shl' (σ : Vl) (a : SI) (n : Nat) : (SI.shl' a n).den σ = a.den σ * 2 ^ n := by
  unfold SI.shl'; split <;> simp [SI.den]
def SI.shr' : SI → Nat → SI
  | .lit a, n => .lit (a.fdiv (2 ^ n))
  | a, n => .shr a n
theorem SI.den_shr' (σ : Vl) (a : SI) (n : Nat) : (SI.shr' a n).den σ = (a.den σ).fdiv (2 ^ n) := by
  unfold SI.shr'; split <;> simp [SI.den]

section
variable (B : Bnds) (A : List SB)

def binI (op : BinOp) (k : IntKind) (a b : SI) : R CV :=
  match op with
  | .add => .ok (.int k ((SI.wrap' (B.cuts A) k (SI.add' a b)).pin (B.cuts A) A))
  | .sub => .ok (.int k ((SI.wrap' (B.cuts A) k (SI.sub' a b)).pin (B.cuts A) A))
  | .mul => .ok (.int k ((SI.wrap' (B.cuts A) k (SI.mul' a b)).pin (B.cuts A) A))
  | .quo => (R.dec B A (.eq b (.lit 0))).bind fun z => if z then .bad 40 else .ok (.int k ((SI.wrap' (B.cuts A) k (SI.quo' a b)).pin (B.cuts A) A))
  | .rem => (R.dec B A (.eq b (.lit 0))).bind fun z => if z then .bad 41 else .ok (.int k ((SI.rem' a b).pin (B.cuts A) A))
  | .and => .ok (.int k ((SI.bits' .and k a b).pin (B.cuts A) A))
  | .or => .ok (.int k ((SI.bits' .or k a b).pin (B.cuts A) A))
  | .xor => .ok (.int k ((SI.bits' .xor k a b).pin (B.cuts A) A))
  | .andNot => .ok (.int k ((SI.bits' .andNot k a b).pin (B.cuts A) A))
  | .eql => .ok (.bool (SB.nrm B A (.eq a b)))
  | .neq => .ok (.bool (SB.nrm B A (.eq a b)).neg)
  | .lss => .ok (.bool (SB.nrm B A (.lt a b)))
  | .leq => .ok (.bool (SB.nrm B A (.lt b a)).neg)
  | .gtr => .ok (.bool (SB.nrm B A (.lt b a)))
  | .geq => .ok (.bool (SB.nrm B A (.lt a b)).neg)
  | _ => .bad 42

def shI (op : BinOp) (k : IntKind) (a b : SI) : R CV :=
  match b with
  | .lit n =>
    if n < 0 then .bad 43 else
    match op with
    | .shl => .ok (.int k ((SI.wrap' (B.cuts A) k (SI.shl' a (min n.toNat k.bits))).pin (B.cuts A) A))
    | .shr => .ok (.int k ((SI.shr' a (min n.toNat k.bits)).pin (B.cuts A) A))
    | _ => .bad 44
  | _ => .bad 45
end

section
variable {P : Program} {B : Bnds} {A : List SB} {σ : Vl}

theorem binI_ok (hB : B.ok σ) (hA : Holds σ A) {m : M} {op : BinOp} {k : IntKind} {a b : SI} {c : CV} (e : binI B A op k a b = .ok c) (t : TypeId) (w : World) :
    ∃ v, (binOp op t (.int k (a.den σ)) (.int k (b.den σ))).run P w = .ok v w ∧ dv σ m c = some v := by
  unfold binI at e
  split at e <;> try (simp at e; done)
  case h_4 =>
    obtain ⟨z, hz, e⟩ := R.bind_ok e
    have hz' := R.dec_ok hB hA hz
    split at e
    · simp at e
    · rename_i hz0
      simp at e; subst e
      simp only [Bool.not_eq_true] at hz0
      subst hz0
      simp [SB.den, SI.den] at hz'
      refine ⟨_, ?_, rfl⟩
      simp [binOp, Op.intDiv, hz', SI.den_pin (Bnds.cuts_ok hB hA) hA, SI.den_wrap' (Bnds.cuts_ok hB hA), SI.den_quo']
  case h_5 =>
    obtain ⟨z, hz, e⟩ := R.bind_ok e
    have hz' := R.dec_ok hB hA hz
    split at e
    · simp at e
    · rename_i hz0
      simp at e; subst e
      simp only [Bool.not_eq_true] at hz0
      subst hz0
      simp [SB.den, SI.den] at hz'
      refine ⟨_, ?_, rfl⟩
      simp [binOp, Op.intDiv, hz', SI.den_pin (Bnds.cuts_ok hB hA) hA, SI.den_rem']
  all_goals
    simp at e; subst e
    refine ⟨_, ?_, rfl⟩
    simp [binOp, Op.intArith, Op.intBits, Op.intCmp, bitsDen, SI.den_pin (Bnds.cuts_ok hB hA) hA, SI.den_wrap' (Bnds.cuts_ok hB hA), SI.den_add', SI.den_sub', SI.den_mul', SI.den_bits', SB.den_nrm hB hA, SB.den_neg, SB.den]
  all_goals try (first | rfl | (simp only [Bool.not_eq_eq_eq_not]; done) | (rw [Bool.eq_iff_iff]; simp; done))

theorem shI_ok (hB : B.ok σ) (hA : Holds σ A) {m : M} {op : BinOp} {k k' : IntKind} {a b : SI} {c : CV} (e : shI B A op k a b = .ok c) (hop : op = .shl ∨ op = .shr) (t : TypeId) (w : World) :
    ∃ v, (binOp op t (.int k (a.den σ)) (.int k' (b.den σ))).run P w = .ok v w ∧ dv σ m c = some v := by
  unfold shI at e
  split at e
  · rename_i n
    split at e
    · simp at e
    · rename_i hn
      rcases hop with rfl | rfl
      · simp at e; subst e
        refine ⟨_, ?_, rfl⟩
        simp [binOp, Op.shift, SI.den, hn, SI.den_pin (Bnds.cuts_ok hB hA) hA, SI.den_wrap' (Bnds.cuts_ok hB hA), SI.den_shl']
      · simp at e; subst e
        refine ⟨_, ?_, rfl⟩
        simp [binOp, Op.shift, SI.den, hn, SI.den_pin (Bnds.cuts_ok hB hA) hA, SI.den_shr']
  · simp at e

/-- Two pointers, neither of them nil. -/
def eqPtr (h : Heap) (id o id' o' : Nat) : R SB :=
  if id = id' then .ok (.lit (decide (o = o')))
  else match h.obj id, h.obj id' with
    | some (.cells ..), some (.cells ..) => .ok (.lit false)
    | _, _ => .bad 50

theorem eqPtr_ok {m : M} {h : Heap} {w : World} (r : Rep σ m h w) {id o id' o' b n b' n' : Nat} {s : SB} (hm : m id = some (b, n)) (hm' : m id' = some (b', n')) (e : eqPtr h id o id' o' = .ok s) :
    (sameAddr ⟨b, o, none⟩ ⟨b', o', none⟩).run P w = .ok (s.den σ) w := by
  unfold eqPtr at e
  split at e
  · rename_i hid; subst hid
    rw [hm] at hm'; simp at hm'
    obtain ⟨rfl, rfl⟩ := hm'
    simp at e; subst e
    simp [sameAddr, SB.den]
    by_cases ho : o = o' <;> simp [ho]
  · rename_i hid
    split at e
    · rename_i cs el opn cs' el' opn' ho ho'
      simp at e; subst e
      have hbb : b ≠ b' := fun hb => hid (r.inj id id' _ _ b n n' ho ho' hm (hb ▸ hm'))
      obtain ⟨b1, n1, vs, hm1, hlt, hv, hc, hf⟩ := r.cell ho
      rw [hm] at hm1; simp at hm1; obtain ⟨rfl, rfl⟩ := hm1
      obtain ⟨b2, n2, vs', hm2, hlt', hv', hc', hf'⟩ := r.cell ho'
      rw [hm'] at hm2; simp at hm2; obtain ⟨rfl, rfl⟩ := hm2
      have sh : ∀ {i : Nat} {cs : List CV} {el : TypeId} {opn : Bool} {bb nn : Nat}, h.obj i = some (.cells cs el opn) → m i = some (bb, nn) → ∃ k, w.shape? bb = some (el, k) := by
        intro i cs el opn bb nn ho hmi
        obtain ⟨b3, n3, wo, hm3, hb3, arr, rfl, _⟩ := r.obj i _ ho
        rw [hmi] at hm3; simp at hm3; obtain ⟨rfl, rfl⟩ := hm3
        exact ⟨arr.size, by simp [World.shape?, hb3]⟩
      obtain ⟨k, hk⟩ := sh ho hm
      obtain ⟨k', hk'⟩ := sh ho' hm'
      simp [sameAddr, hbb, hf, hf', noView, viewAt, hk, hk', mayBeOne, stringish, SB.den]
    · simp at e

def eqCV (P : Program) (B : Bnds) (A : List SB) (h : Heap) (lit : Bool) (t : TypeId) (a b : CV) : R SB :=
  match undQ P t, a, b with
  | some .bool, .bool (.lit x), .bool y => .ok (if x then y else y.neg)
  | some .bool, .bool y, .bool (.lit x) => .ok (if x then y else y.neg)
  | some (.pointer _), .nilptr, .nilptr => .ok (.lit true)
  | some (.pointer _), .nilptr, .ptr _ _ => .ok (.lit false)
  | some (.pointer _), .ptr _ _, .nilptr => .ok (.lit false)
  | some (.pointer el), .ptr id o, .ptr id' o' => match infoQ P el with
    | some i => if i.size = 0 then .bad 51 else eqPtr h id o id' o'
    | none => .bad 52
  | some (.interface _), .nilIface, .nilIface => if lit then .ok (.lit true) else .bad 53
  | some (.interface _), .nilIface, .iface _ _ => .ok (.lit false)
  | some (.interface _), .iface _ _, .nilIface => .ok (.lit false)
  | some (.interface _), .iface t1 (.int k x), .iface t2 (.int k' y) =>
    if t1 = t2 then match infoQ P t1, undQ P t1 with
      | some i, some (.int _) => if i.comparable then (if k = k' then .ok (SB.nrm B A (.eq x y)) else .bad 54) else .bad 55
      | _, _ => .bad 56
    else .ok (.lit false)
  | some (.interface _), .iface t1 _, .iface t2 _ => if t1 = t2 then .bad 57 else .ok (.lit false)
  | some (.slice _), .nilslice, .nilslice => .ok (.lit true)
  | some (.slice _), .slice .., .nilslice => .ok (.lit false)
  | some (.slice _), .oslice .., .nilslice => .ok (.lit false)
  | some (.map _ _), .nilmap, .nilmap => .ok (.lit true)
  | some (.map _ _), .map _, .nilmap => .ok (.lit false)
  | some (.func _ _ _), .nilFunc, .nilFunc => .ok (.lit true)
  | some (.func _ _ _), .nilFunc, .func _ _ _ => .ok (.lit false)
  | some (.func _ _ _), .func _ _ _, .nilFunc => .ok (.lit false)
  | some _, .agg xs, .agg ys => match CV.tvs xs, CV.tvs ys with
    | some us, some vs => match pev P (Op.equal t (.agg us.toArray) (.agg vs.toArray)), P.eqGuardType P.depth t with
      | some b, false => .ok (.lit b)
      | _, _ => .bad 59
    | _, _ => .bad 60
  | _, _, _ => .bad 58

set_option maxHeartbeats 2000000 in
theorem eqCV_in (hB : B.ok σ) (hA : Holds σ A) {m : M} {h : Heap} {w : World} (r : Rep σ m h w) {lit : Bool} {t : TypeId} {a b : CV} {va vb : Value} {s : SB}
    (ha : dv σ m a = some va) (hb : dv σ m b = some vb) (e : eqCV P B A h lit t a b = .ok s) :
    (Op.equalIn (9998 + 2) t va vb).run P w = .ok (s.den σ) w ∧ (va = .nilIface → vb = .nilIface → lit = true) ∧ (∀ xs ys, va = .agg xs → vb = .agg ys → P.eqGuardType P.depth t = false) := by
  generalize hd : 9998 = d
  unfold eqCV at e
  simp only [undQ_eq, infoQ_eq] at e
  split at e
  case h_20 ht =>
    rename_i xs ys
    split at e
    · rename_i us vs hus hvs
      split at e
      · rename_i b hp hg
        simp at e; subst e
        simp only [dv, tvs_ok σ m _ hus, tvs_ok σ m _ hvs, Option.map_some, Option.some.injEq] at ha hb
        subst ha; subst hb
        refine ⟨?_, by simp, fun _ _ _ _ => hg⟩
        subst hd
        exact pev_ok hp w
      · simp at e
    · simp at e
  case h_1 ht =>
    simp [dv] at ha hb; subst ha; subst hb; simp at e; subst e
    refine ⟨?_, by simp, by simp⟩
    simp only [Op.equalIn, Sem.run_bind, run_underlying ht, Result.andThen_ok]
    rename_i x y
    cases x <;> simp [SB.den, SB.den_neg]
  case h_2 ht =>
    simp [dv] at ha hb; subst ha; subst hb; simp at e; subst e
    refine ⟨?_, by simp, by simp⟩
    simp only [Op.equalIn, Sem.run_bind, run_underlying ht, Result.andThen_ok]
    rename_i y x _
    cases x <;> simp [SB.den, SB.den_neg]
  case h_6 ht =>
    rename_i el id o id' o'
    simp only [dv, Option.map_eq_some_iff] at ha hb
    obtain ⟨⟨b1, n1⟩, hm1, rfl⟩ := ha
    obtain ⟨⟨b2, n2⟩, hm2, rfl⟩ := hb
    split at e
    · rename_i i hi
      split at e
      · simp at e
      · rename_i hsz
        refine ⟨?_, by simp, by simp⟩
        rw [Op.equalIn]
        simp only [Sem.run_bind, run_underlying ht, Result.andThen_ok, run_sizeOf hi]
        simp [hsz, eqPtr_ok r hm1 hm2 e]
    · simp at e
  case h_7 ht =>
    simp [dv] at ha hb; subst ha; subst hb
    split at e
    · rename_i hl; simp at e; subst e
      refine ⟨?_, fun _ _ => hl, by simp⟩
      simp only [Op.equalIn, Sem.run_bind, run_underlying ht, Result.andThen_ok]
      simp [SB.den]
    · simp at e
  case h_10 ht =>
    simp [dv] at ha hb; subst ha; subst hb
    refine ⟨?_, by simp, by simp⟩
    split at e
    · rename_i heq; subst heq
      split at e
      · rename_i i kk hi hu
        split at e
        · rename_i hcmp
          split at e
          · rename_i hk; subst hk
            simp at e; subst e
            simp only [Op.equalIn, Sem.run_bind, run_underlying ht, Result.andThen_ok]
            simp [run_typeInfo hi, hcmp, SB.den_nrm hB hA, SB.den, run_underlying hu]
          · simp at e
        · simp at e
      · simp at e
    · rename_i hne
      simp at e; subst e
      rw [Op.equalIn]
      simp only [Sem.run_bind, run_underlying ht, Result.andThen_ok]
      simp [hne, SB.den]
  case h_11 ht =>
    rename_i t1 v1 t2 v2 _
    simp only [dv, Option.map_eq_some_iff] at ha hb
    obtain ⟨x, _, rfl⟩ := ha
    obtain ⟨y, _, rfl⟩ := hb
    refine ⟨?_, by simp, by simp⟩
    split at e
    · simp at e
    · rename_i hne
      simp at e; subst e
      rw [Op.equalIn]
      simp only [Sem.run_bind, run_underlying ht, Result.andThen_ok]
      simp [hne, SB.den]
  all_goals first
    | (simp at e; done)
    | (rename_i ht
       simp only [dv, Option.map_eq_some_iff, Option.bind_eq_some_iff, Option.some.injEq] at ha hb
       simp at e; subst e
       first
         | subst ha
         | (obtain ⟨_, _, rfl⟩ := ha)
         | (obtain ⟨_, _, _, _, rfl⟩ := ha)
       first
         | subst hb
         | (obtain ⟨_, _, rfl⟩ := hb)
         | (obtain ⟨_, _, _, _, rfl⟩ := hb)
       refine ⟨?_, by simp, by simp⟩
       rw [Op.equalIn]
       simp only [Sem.run_bind, run_underlying ht, Result.andThen_ok]
       simp [SB.den])

theorem eqCV_ok (hB : B.ok σ) (hA : Holds σ A) {m : M} {h : Heap} {w : World} (r : Rep σ m h w) {lit : Bool} {t : TypeId} {a b : CV} {va vb : Value} {s : SB}
    (ha : dv σ m a = some va) (hb : dv σ m b = some vb) (e : eqCV P B A h lit t a b = .ok s) :
    (Op.equal t va vb).run P w = .ok (s.den σ) w ∧ (va = .nilIface → vb = .nilIface → lit = true) ∧ (∀ xs ys, va = .agg xs → vb = .agg ys → P.eqGuardType P.depth t = false) :=
  eqCV_in hB hA r ha hb e
end
end
end Go.Sx
