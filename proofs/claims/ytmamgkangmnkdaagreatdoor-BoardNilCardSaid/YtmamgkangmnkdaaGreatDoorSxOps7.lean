/- SX, part 9: type assertions, tuples, the least and the greatest, copy, delete, clear; whom a call means. -/
import Derived.Test.YtmamgkangmnkdaaGreatDoorSxOps6
import Derived.Stop.Asserts
namespace Go.Sx
open Go
noncomputable section
section
variable {P : Program} {B : Bnds} {A : List SB} {σ : Vl}

def assertCV (P : Program) (x : CV) (asserted : TypeId) (ok : Bool) : R CV :=
  let fails : R CV := if ok then (zeroCV P asserted).bind fun z => .ok (.tuple [z, .bool (.lit false)]) else .bad 180
  let holds (v : CV) : R CV := .ok (if ok then .tuple [v, .bool (.lit true)] else v)
  match undQ P asserted, x with
  | some (.interface _), .nilIface => fails
  | some (.interface want), .iface t v => match infoQ P t with
    | some i => match lacking want i.methods with
      | [] => holds (.iface t v)
      | _ :: _ => fails
    | none => .bad 181
  | some _, .nilIface => fails
  | some _, .iface t v => if t = asserted then holds v else fails
  | _, _ => .bad 182

theorem assertCV_ok {m : M} {x c : CV} {v : Value} {xt asserted : TypeId} {ok : Bool} (hx : dv σ m x = some v) (e : assertCV P x asserted ok = .ok c) (w : World) :
    ∃ u, (Instr.typeAssert v xt asserted ok).run P w = .ok u w ∧ dv σ m c = some u := by
  have hfails : ∀ {c : CV}, (if ok then (zeroCV P asserted).bind fun z => .ok (.tuple [z, .bool (.lit false)]) else .bad 180 : R CV) = .ok c →
      ok = true ∧ ∃ z, (zeroValue asserted).run P w = .ok z w ∧ dv σ m c = some (.tuple #[z, .bool false]) := by
    intro c e
    split at e
    · rename_i hok
      replace e := R.bind_ok e; obtain ⟨z, hz, e⟩ := e
      obtain ⟨zv, h1, h2⟩ := zeroCV_ok (σ := σ) (m := m) hz w
      simp at e; subst e
      exact ⟨hok, zv, h1, by simp [dv, dvs, h2, SB.den]⟩
    · simp at e
  unfold assertCV at e
  simp only [undQ_eq, infoQ_eq] at e
  try simp only at e
  split at e
  · rename_i ms hu
    simp [dv] at hx; subst hx
    obtain ⟨rfl, z, h1, h2⟩ := hfails e
    exact ⟨_, by simp [Instr.typeAssert, run_underlying hu, h1], h2⟩
  · rename_i want t x' hu
    simp only [dv, Option.map_eq_some_iff] at hx
    obtain ⟨xv, hxv, rfl⟩ := hx
    split at e
    · rename_i i hi
      split at e
      · rename_i hmm
        replace hmm := missingMethod_none hmm
        simp at e; subst e
        refine ⟨if ok then .tuple #[.iface t xv, .bool true] else .iface t xv, ?_, ?_⟩
        · simp [Instr.typeAssert, run_underlying hu, run_typeInfo hi, hmm]
        · cases ok <;> simp [dv, dvs, hxv, SB.den]
      · rename_i m1 m2 hmm
        obtain ⟨mm, hmm⟩ := missingMethod_some (by rw [hmm]; simp)
        obtain ⟨rfl, z, h1, h2⟩ := hfails e
        exact ⟨_, by simp [Instr.typeAssert, run_underlying hu, run_typeInfo hi, hmm, h1], h2⟩
    · simp at e
  · rename_i d hni hu
    simp [dv] at hx; subst hx
    obtain ⟨rfl, z, h1, h2⟩ := hfails e
    refine ⟨_, ?_, h2⟩
    simp only [Instr.typeAssert, Sem.run_bind, run_underlying hu, Result.andThen_ok]
    cases d <;> first | (exact absurd rfl (hni _ rfl)) | simp [h1] 
  · rename_i d t x' hni hu
    simp only [dv, Option.map_eq_some_iff] at hx
    obtain ⟨xv, hxv, rfl⟩ := hx
    split at e
    · rename_i ht; subst ht
      simp at e; subst e
      refine ⟨if ok then .tuple #[xv, .bool true] else xv, ?_, ?_⟩
      · simp only [Instr.typeAssert, Sem.run_bind, run_underlying hu, Result.andThen_ok]
        cases d <;> first | (exact absurd rfl (hni _ rfl)) | simp
      · cases ok <;> simp [dv, dvs, hxv, SB.den]
    · rename_i ht
      obtain ⟨rfl, z, h1, h2⟩ := hfails e
      refine ⟨_, ?_, h2⟩
      simp only [Instr.typeAssert, Sem.run_bind, run_underlying hu, Result.andThen_ok]
      cases d <;> first | (exact absurd rfl (hni _ rfl)) | simp [h1, ht]
  · simp at e

def extractCV (x : CV) (i : Nat) : R CV :=
  match x with
  | .tuple cs => R.ofOpt 183 cs[i]?
  | _ => .bad 184
theorem extractCV_ok {m : M} {x c : CV} {v : Value} {i : Nat} (hx : dv σ m x = some v) (e : extractCV x i = .ok c) (w : World) :
    ∃ u, (Instr.extract v i).run P w = .ok u w ∧ dv σ m c = some u := by
  unfold extractCV at e
  split at e
  · rename_i cs
    simp only [dv, Option.map_eq_some_iff] at hx
    obtain ⟨vs, hvs, rfl⟩ := hx
    obtain ⟨u, hu, hd⟩ := dvs_get_some hvs (R.ofOpt_ok e)
    refine ⟨u, ?_, hd⟩
    have : vs.toArray[i]? = some u := by simpa using hu
    simp only [Instr.extract, this, Sem.run_pure]
  · simp at e

/-- min and max of integers. -/
def foldCV (B : Bnds) (A : List SB) (mx : Bool) : CV → List CV → R CV
  | c, [] => .ok c
  | .int k a, .int _ b :: rest => (R.dec B A (if mx then .lt a b else .lt b a)).bind fun t => foldCV B A mx (.int k (if t then b else a)) rest
  | _, _ => .bad 185
theorem foldCV_max (hB : B.ok σ) (hA : Holds σ A) {m : M} : ∀ {cs : List CV} {c r : CV} {v : Value} {vs : List Value}, dv σ m c = some v → dvs σ m cs = some vs → foldCV B A true c cs = .ok r → ∀ w, ∃ u, (vs.foldlM Builtin.max2 v).run P w = .ok u w ∧ dv σ m r = some u
  | [], c, r, v, vs, hc, hs, e, w => by
    simp [dvs] at hs; subst hs
    simp [foldCV] at e; subst e
    exact ⟨v, by simp, hc⟩
  | d :: cs, c, r, v, vs, hc, hs, e, w => by
    obtain ⟨x, xs, hx, hxs, rfl⟩ := dvs_cons.1 hs
    unfold foldCV at e
    split at e
    · rename_i heq; simp at heq
    · rename_i k a k' b rest heq
      simp at heq; obtain ⟨rfl, rfl⟩ := heq
      replace e := R.bind_ok e; obtain ⟨t, ht, e⟩ := e
      have hd := R.dec_ok hB hA ht
      simp [dv] at hc hx; subst hc; subst hx
      simp [SB.den] at hd
      obtain ⟨u, h1, h2⟩ := foldCV_max hB hA (c := .int k (if t then b else a)) (v := .int k (if b.den σ > a.den σ then b.den σ else a.den σ)) (by subst hd; by_cases h : a.den σ < b.den σ <;> simp [dv, h]) hxs e w
      refine ⟨u, ?_, h2⟩
      simp only [List.foldlM_cons, Sem.run_bind, Builtin.max2, Sem.run_pure, Result.andThen_ok]
      exact h1
    · simp at e
theorem foldCV_min (hB : B.ok σ) (hA : Holds σ A) {m : M} : ∀ {cs : List CV} {c r : CV} {v : Value} {vs : List Value}, dv σ m c = some v → dvs σ m cs = some vs → foldCV B A false c cs = .ok r → ∀ w, ∃ u, (vs.foldlM Builtin.min2 v).run P w = .ok u w ∧ dv σ m r = some u
  | [], c, r, v, vs, hc, hs, e, w => by
    simp [dvs] at hs; subst hs
    simp [foldCV] at e; subst e
    exact ⟨v, by simp, hc⟩
  | d :: cs, c, r, v, vs, hc, hs, e, w => by
    obtain ⟨x, xs, hx, hxs, rfl⟩ := dvs_cons.1 hs
    unfold foldCV at e
    split at e
    · rename_i heq; simp at heq
    · rename_i k a k' b rest heq
      simp at heq; obtain ⟨rfl, rfl⟩ := heq
      replace e := R.bind_ok e; obtain ⟨t, ht, e⟩ := e
      have hd := R.dec_ok hB hA ht
      simp [dv] at hc hx; subst hc; subst hx
      simp [SB.den] at hd
      obtain ⟨u, h1, h2⟩ := foldCV_min hB hA (c := .int k (if t then b else a)) (v := .int k (if b.den σ < a.den σ then b.den σ else a.den σ)) (by subst hd; by_cases h : b.den σ < a.den σ <;> simp [dv, h]) hxs e w
      refine ⟨u, ?_, h2⟩
      simp only [List.foldlM_cons, Sem.run_bind, Builtin.min2, Sem.run_pure, Result.andThen_ok]
      exact h1
    · simp at e
end
end
end Go.Sx
