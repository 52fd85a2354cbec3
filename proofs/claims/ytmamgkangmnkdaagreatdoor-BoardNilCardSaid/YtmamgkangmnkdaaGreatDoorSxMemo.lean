/- SX, part 21: calls at known arguments with a known answer are not run again. -/
import Derived.Test.YtmamgkangmnkdaaGreatDoorSxEnd
namespace Go.Sx
open Go
noncomputable section

/-- Every end that may be is this answer. -/
def allVal (B : Bnds) (N : Nat) (c : CV) (L : List Leaf) : Bool := L.all fun x => decide (x.2.h.n ≤ N) && (contra B x.2.asm || isGlob x.2.h && match x.1 with
  | .val c' => CV.same c' c
  | _ => false)

theorem call_val {P : Program} [GoFree P] (hm : P.follows .mixedOrders = true) {B : Bnds} {σ : Vl} (hB : B.ok σ) {call : FuncId → List CV → St → Option (List Leaf)} (hC : ∀ N, CallHook P (σ.wN N) call)
    {f : FuncId} {cs : List CV} {vs : Array Value} (hv : dvs σ m0 cs = some vs.toList) {G : List CV} {A : List SB} (hA : Holds σ A) {n N : Nat} {c : CV} {v : Value} (hc : c.tv = some v)
    (h : allVal B N c (run P B (hooks P B call) n (.call f cs) (st0 G A)) = true) {w : World} (hG : laid G w (σ.gob 0)) :
    Calls P f vs w (fun e w' => e = .returned v ∧ RowKit.Below w.heap.size w w') := by
  have hA' : Holds (σ.wN N) A := (Holds_wN σ N A).2 hA
  have hB' : B.ok (σ.wN N) := Bnds.ok_wN hB N
  have hall : ∀ l ∈ run P B (hooks P B call) n (.call f cs) (st0 G A), l.2.h.n ≤ N ∧ (Holds (σ.wN N) l.2.asm → isGlob l.2.h = true ∧ l.1 = .val c) := by
    intro l hl
    have := List.all_eq_true.1 h l hl
    simp only [Bool.and_eq_true, decide_eq_true_eq, Bool.or_eq_true] at this
    refine ⟨this.1, fun hh => ?_⟩
    rcases this.2 with hc | ⟨hg, hc⟩
    · exact absurd hh (contra_ok hB' hc)
    · refine ⟨hg, ?_⟩
      obtain ⟨x, s⟩ := l
      cases x with
      | val c' => simp only at hc; rw [CV.same_ok _ _ hc]
      | _ => simp at hc
  refine Calls.mono ((runs P hm hB hC n N).call (f := f) (cs := cs) (vs := vs) (s := st0 G A) (m := m0) (w := w) hA' (rep0 (σ := σ.wN N) hG) (by rw [dvs_wN]; exact hv) ⟨?_, fun l hl => (hall l hl).1⟩) ?_
  · intro k s' hb hh
    have := ((hall _ hb).2 hh).2
    simp at this
  · rintro e w' ⟨c', s', v', m', hl, rfl, hh, hdv, hr, ev⟩
    obtain ⟨hg, hx⟩ := (hall _ hl).2 hh
    simp only [Ex.val.injEq] at hx
    subst hx
    rw [tv_ok _ _ _ hc] at hdv
    obtain rfl := Option.some.inj hdv
    exact ⟨rfl, below_of_evo (σ := σ.wN N) hG hr hg ev⟩

/-- What is known: a function, its arguments, its answer. -/
structure Ment where
  f : FuncId
  args : List CV
  res : CV

def MentOk (P : Program) (G : List CV) (e : Ment) : Prop :=
  ∃ vs v, CV.tvs e.args = some vs ∧ e.res.tv = some v ∧ ∀ (w : World) (o : Obj), laid G w o → Calls P e.f vs.toArray w (fun x w' => x = .returned v ∧ RowKit.Below w.heap.size w w')

def memoFind (f : FuncId) (cs : List CV) : List Ment → Option CV
  | [] => none
  | e :: T => match Nat.beq e.f f with
    | true => match CV.sames cs e.args with
      | true => some e.res
      | false => memoFind f cs T
    | false => memoFind f cs T

theorem memoFind_ok {f : FuncId} {cs : List CV} {c : CV} : ∀ {T : List Ment}, memoFind f cs T = some c → ∃ e ∈ T, e.f = f ∧ e.args = cs ∧ e.res = c
  | [], h => by simp [memoFind] at h
  | e :: T, h => by
    simp only [memoFind] at h
    split at h
    · rename_i hf
      split at h
      · rename_i hs
        exact ⟨e, by simp, Nat.eq_of_beq_eq_true hf, (CV.sames_ok _ _ hs).symm, Option.some.inj h⟩
      · obtain ⟨e', h1, h2⟩ := memoFind_ok h
        exact ⟨e', by simp [h1], h2⟩
    · obtain ⟨e', h1, h2⟩ := memoFind_ok h
      exact ⟨e', by simp [h1], h2⟩

def memo (G : List CV) (T : List Ment) (base : FuncId → List CV → St → Option (List Leaf)) (f : FuncId) (cs : List CV) (s : St) : Option (List Leaf) :=
  match memoFind f cs T with
  | some c => match isLaid G s.h with
    | true => some [(.val c, s)]
    | false => base f cs s
  | none => base f cs s

theorem memo_ok {P : Program} {σ : Vl} {G : List CV} (hG : (CV.tvs G).isSome = true) {T : List Ment} {base : FuncId → List CV → St → Option (List Leaf)} (hb : CallHook P σ base)
    (hT : ∀ e ∈ T, MentOk P G e) : CallHook P σ (memo G T base) := by
  constructor
  · intro f cs vs s m w L h hA hr hv hg
    unfold memo at h
    split at h
    · rename_i c hc
      split at h
      · rename_i hl
        simp only [Option.some.injEq] at h
        subst h
        obtain ⟨e, he, rfl, rfl, rfl⟩ := memoFind_ok hc
        obtain ⟨us, v, h1, h2, h3⟩ := hT e he
        rw [tvs_ok σ m _ h1] at hv
        obtain rfl : us.toArray = vs := by rw [Option.some.inj hv]
        refine Calls.mono (h3 w _ (isLaid_ok hG hr hl)) ?_
        rintro x w' ⟨rfl, hbel⟩
        obtain ⟨h4, h5⟩ := hr.below hbel
        exact ⟨e.res, s, v, m, by simp, rfl, hA, tv_ok σ m _ h2, h4, h5⟩
      · exact hb.ok h hA hr hv hg
    · exact hb.ok h hA hr hv hg
  · intro f cs s L h
    unfold memo at h
    split at h
    · split at h
      · simp only [Option.some.injEq] at h
        subst h
        simp
      · exact hb.mono h
    · exact hb.mono h

/-- A valuation that says nothing. -/
def nil0 (o : Obj) : Vl := { i := fun _ => 0, b := fun _ => false, v := fun _ => .bool false, one := fun _ => rfl, N := 0, gob := fun _ => o }

/-- An entry, by a run. -/
theorem ment_run {P : Program} [GoFree P] (hm : P.follows .mixedOrders = true) {G : List CV} {call : FuncId → List CV → St → Option (List Leaf)} (hC : ∀ σ, CallHook P σ call) {e : Ment} (n N : Nat) (h1 : (CV.tvs e.args).isSome = true) (h2 : e.res.tv.isSome = true)
    (h : allVal [] N e.res (run P [] (hooks P [] call) n (.call e.f e.args) (st0 G [])) = true) : MentOk P G e := by
  obtain ⟨vs, hvs⟩ := Option.isSome_iff_exists.1 h1
  obtain ⟨v, hv⟩ := Option.isSome_iff_exists.1 h2
  refine ⟨vs, v, hvs, hv, fun w o hG => ?_⟩
  exact call_val (σ := nil0 o) hm (B := []) (by intro _ _ _ h; simp at h) (fun N => hC _) (cs := e.args) (by simpa using tvs_ok (nil0 o) m0 _ hvs) (A := []) (by intro _ h; simp at h) hv h hG

theorem ments_cons {P : Program} {G : List CV} {e : Ment} {T : List Ment} (h : MentOk P G e) (hT : ∀ x ∈ T, MentOk P G x) : ∀ x ∈ e :: T, MentOk P G x := by
  intro x hx
  rcases List.mem_cons.1 hx with rfl | h'
  · exact h
  · exact hT x h'
end
end Go.Sx
