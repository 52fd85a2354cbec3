/- SX, part 2b: what asks the program alone; values without memory. -/
import Derived.Test.YtmamgkangmnkdaaGreatDoorSxMem
namespace Go.Sx
open Go
noncomputable section

/-- The answer of what asks the program alone. -/
def pev {α : Type} (P : Program) : Sem α → Option α
  | .pure a => some a
  | .program k => pev P (k P)
  | .mark _ k => pev P k
  | _ => none
theorem pev_ok {α : Type} {P : Program} {a : α} : ∀ {x : Sem α}, pev P x = some a → ∀ w : World, x.run P w = .ok a w
  | .pure b, h, w => by simp [pev] at h; subst h; rfl
  | .program k, h, w => by simp only [pev] at h; simp only [Sem.run]; exact pev_ok h w
  | .mark _ k, h, w => by simp only [pev] at h; simp only [Sem.run]; exact pev_ok h w
  | .load .., h, _ => by simp [pev] at h
  | .store .., h, _ => by simp [pev] at h
  | .new .., h, _ => by simp [pev] at h
  | .shape .., h, _ => by simp [pev] at h
  | .freeze .., h, _ => by simp [pev] at h
  | .frozen .., h, _ => by simp [pev] at h
  | .getObj .., h, _ => by simp [pev] at h
  | .setObj .., h, _ => by simp [pev] at h
  | .choose .., h, _ => by simp [pev] at h
  | .sys .., h, _ => by simp [pev] at h
  | .halt .., h, _ => by simp [pev] at h

-- What no memory is in.
mutual
def CV.tv : CV → Option Value
  | .bool (.lit b) => some (.bool b)
  | .int k (.lit n) => some (.int k n)
  | .gptr g off => some (.pointer (some ⟨g, off, none⟩))
  | .nilptr => some (.pointer none)
  | .nilIface => some .nilIface
  | .iface t c => (c.tv).map (.iface t)
  | .agg cs => (CV.tvs cs).map fun vs => .agg vs.toArray
  | _ => none
def CV.tvs : List CV → Option (List Value)
  | [] => some []
  | c :: cs => (c.tv).bind fun v => (CV.tvs cs).map fun vs => v :: vs
end
mutual
theorem tv_ok (σ : Vl) (m : M) : ∀ (c : CV) {v : Value}, c.tv = some v → dv σ m c = some v
  | .bool b, v, h => by
    cases b <;> simp [CV.tv] at h
    subst h; simp [dv, SB.den]
  | .int k n, v, h => by
    cases n <;> simp [CV.tv] at h
    subst h; simp [dv, SI.den]
  | .gptr g off, v, h => by simp [CV.tv] at h; subst h; simp [dv]
  | .nilptr, v, h => by simp [CV.tv] at h; subst h; simp [dv]
  | .nilIface, v, h => by simp [CV.tv] at h; subst h; simp [dv]
  | .iface t c, v, h => by
    simp only [CV.tv, Option.map_eq_some_iff] at h
    obtain ⟨u, hu, rfl⟩ := h
    simp [dv, tv_ok σ m c hu]
  | .agg cs, v, h => by
    simp only [CV.tv, Option.map_eq_some_iff] at h
    obtain ⟨u, hu, rfl⟩ := h
    simp [dv, tvs_ok σ m cs hu]
  | .str _, v, h => by simp [CV.tv] at h
  | .ptr _ _, v, h => by simp [CV.tv] at h
  | .slice _ _ _ _, v, h => by simp [CV.tv] at h
  | .oslice _ _ _ _ _, v, h => by simp [CV.tv] at h
  | .nilslice, v, h => by simp [CV.tv] at h
  | .map _, v, h => by simp [CV.tv] at h
  | .nilmap, v, h => by simp [CV.tv] at h
  | .func _ _ _, v, h => by simp [CV.tv] at h
  | .nilFunc, v, h => by simp [CV.tv] at h
  | .tuple _, v, h => by simp [CV.tv] at h
  | .sym _, v, h => by simp [CV.tv] at h
theorem tvs_ok (σ : Vl) (m : M) : ∀ (cs : List CV) {vs : List Value}, CV.tvs cs = some vs → dvs σ m cs = some vs
  | [], vs, h => by simp [CV.tvs] at h; subst h; simp [dvs]
  | c :: cs, vs, h => by
    simp only [CV.tvs, Option.bind_eq_some_iff, Option.map_eq_some_iff] at h
    obtain ⟨v, hv, us, hus, rfl⟩ := h
    simp [dvs_cons, tv_ok σ m c hv, tvs_ok σ m cs hus]
end
mutual
def CV.same : CV → CV → Bool
  | .bool a, .bool b => decide (a = b)
  | .int k a, .int q b => decide (k = q) && decide (a = b)
  | .str a, .str b => decide (a = b)
  | .ptr a b, .ptr c d => a == c && b == d
  | .gptr a b, .gptr c d => a == c && b == d
  | .nilptr, .nilptr => true
  | .slice a b c d, .slice e f g h => a == e && b == f && c == g && d == h
  | .oslice a b c d e, .oslice a' b' c' d' e' => a == a' && b == b' && c == c' && d == d' && e == e'
  | .nilslice, .nilslice => true
  | .map a, .map b => a == b
  | .nilmap, .nilmap => true
  | .func f a b, .func g c d => decide (f = g) && CV.sames a c && CV.sames b d
  | .nilFunc, .nilFunc => true
  | .iface t a, .iface u b => t == u && CV.same a b
  | .nilIface, .nilIface => true
  | .agg a, .agg b => CV.sames a b
  | .tuple a, .tuple b => CV.sames a b
  | .sym a, .sym b => a == b
  | _, _ => false
def CV.sames : List CV → List CV → Bool
  | [], [] => true
  | a :: as, b :: bs => CV.same a b && CV.sames as bs
  | _, _ => false
end

mutual
theorem CV.same_ok : ∀ (a b : CV), CV.same a b = true → a = b
  | .bool a, .bool b, h => by simp [CV.same] at h; rw [h]
  | .int k a, .int q b, h => by simp [CV.same] at h; rw [h.1, h.2]
  | .str a, .str b, h => by simp [CV.same] at h; rw [h]
  | .ptr a b, .ptr c d, h => by simp [CV.same] at h; rw [h.1, h.2]
  | .gptr a b, .gptr c d, h => by simp [CV.same] at h; rw [h.1, h.2]
  | .nilptr, .nilptr, _ => rfl
  | .slice a b c d, .slice e f g i, h => by simp [CV.same] at h; obtain ⟨⟨⟨rfl, rfl⟩, rfl⟩, rfl⟩ := h; rfl
  | .oslice a b c d e, .oslice a' b' c' d' e', h => by simp [CV.same] at h; obtain ⟨⟨⟨⟨rfl, rfl⟩, rfl⟩, rfl⟩, rfl⟩ := h; rfl
  | .nilslice, .nilslice, _ => rfl
  | .map a, .map b, h => by simp [CV.same] at h; rw [h]
  | .nilmap, .nilmap, _ => rfl
  | .func f a b, .func g c d, h => by
    simp only [CV.same, Bool.and_eq_true, decide_eq_true_eq] at h
    rw [h.1.1, CV.sames_ok a c h.1.2, CV.sames_ok b d h.2]
  | .nilFunc, .nilFunc, _ => rfl
  | .iface t a, .iface u b, h => by
    simp only [CV.same, Bool.and_eq_true, beq_iff_eq] at h
    rw [h.1, CV.same_ok a b h.2]
  | .nilIface, .nilIface, _ => rfl
  | .agg a, .agg b, h => by simp only [CV.same] at h; rw [CV.sames_ok a b h]
  | .tuple a, .tuple b, h => by simp only [CV.same] at h; rw [CV.sames_ok a b h]
  | .sym a, .sym b, h => by simp [CV.same] at h; rw [h]
theorem CV.sames_ok : ∀ (a b : List CV), CV.sames a b = true → a = b
  | [], [], _ => rfl
  | a :: as, b :: bs, h => by
    simp only [CV.sames, Bool.and_eq_true] at h
    rw [CV.same_ok a b h.1, CV.sames_ok as bs h.2]
end

end
end Go.Sx
