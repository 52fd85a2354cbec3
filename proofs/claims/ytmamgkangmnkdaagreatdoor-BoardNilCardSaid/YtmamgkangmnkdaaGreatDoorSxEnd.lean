/- SX, part 20: from a run that the kernel has checked to a call that answers true. -/
import Derived.Test.YtmamgkangmnkdaaGreatDoorSxDrawEnd
import Derived.Below
namespace Go.Sx
open Go
noncomputable section

/-- No values meet these assumptions. -/
def contra (B : Bnds) : List SB → Bool
  | [] => false
  | b :: A => decide (b.dec B A = some false) || contra B A

theorem contra_ok {B : Bnds} {σ : Vl} (hB : B.ok σ) : ∀ {A : List SB}, contra B A = true → ¬ Holds σ A
  | [], h, _ => by simp [contra] at h
  | b :: A, h, hA => by
    have hA' : Holds σ A := fun x hx => hA x (by simp [hx])
    simp only [contra, Bool.or_eq_true, decide_eq_true_eq] at h
    rcases h with h | h
    · have := SB.dec_ok hB hA' b h
      rw [hA b (by simp)] at this
      simp at this
    · exact contra_ok hB h hA'

def isGlob (h : Heap) : Bool := match h.obj 0 with
  | some (.glob g _) => g == 0
  | _ => false

/-- Every end that may be is the answer 'true', and no id is at or above N. -/
def allTrue (B : Bnds) (N : Nat) (L : List Leaf) : Bool := L.all fun x => decide (x.2.h.n ≤ N) && (contra B x.2.asm || isGlob x.2.h && match x.1 with
  | .val (.bool b) => decide (b.dec B x.2.asm = some true)
  | _ => false)

/-- A heap of nothing but the package's variable, whose cells are these. -/
def heap0 (cs : List CV) : Heap := match Heap.set ⟨.nil, 2⟩ 0 (some (.glob 0 cs)) with
  | some h => h
  | none => ⟨.nil, 2⟩
theorem heap0_obj (cs : List CV) (j : Nat) : (heap0 cs).obj j = if j = 0 then some (.glob 0 cs) else none := by
  have h : Heap.set ⟨.nil, 2⟩ 0 (some (.glob 0 cs)) = some (heap0 cs) := rfl
  rw [Heap.obj_set h]
  by_cases e : j = 0
  · simp [e]
  · simp [e, Heap.obj, Tr.get]

def st0 (G : List CV) (A : List SB) : St := { tm := .nil, nt := 0, h := heap0 G, asm := A }
def m0 : M := fun id => if id = 0 then some (0, 0) else none

/-- What the package's variable holds. -/
def laid (G : List CV) (w : World) (o : Obj) : Prop := w.heap[0]? = some o ∧ ∃ arr el fr vs zs, o = .cells arr el fr ∧ CV.tvs G = some vs ∧ arr.toList = vs ++ zs

theorem rep0 {σ : Vl} {G : List CV} {w : World} (h : laid G w (σ.gob 0)) : Rep σ m0 (heap0 G) w := by
  obtain ⟨h1, arr, el, fr, vs, zs, h2, h3, h4⟩ := h
  refine ⟨fun id h _ => ?_, fun id o ho => ?_, fun id id' o o' b n n' ho ho' _ _ => ?_⟩
  · have : (heap0 G).n = 2 := rfl
    rw [this] at h
    simp [m0]; omega
  · rw [heap0_obj] at ho
    split at ho
    · rename_i e; subst e
      simp at ho; subst ho
      exact ⟨0, 0, _, rfl, h1, rfl, rfl, arr, el, fr, vs, zs, h2, tvs_ok σ m0 G h3, h4⟩
    · simp at ho
  · rw [heap0_obj] at ho ho'
    split at ho
    · split at ho'
      · rename_i e e'; rw [e, e']
      · simp at ho'
    · simp at ho

theorem below_of_evo {σ : Vl} {G : List CV} {m' : M} {h' : Heap} {w w' : World} (hl : laid G w (σ.gob 0)) (r : Rep σ m' h' w') (hg : isGlob h' = true) (e : Evo (heap0 G) m0 w h' m' w') : RowKit.Below w.heap.size w w' := by
  refine ⟨e.sys.os, e.sys.tape, e.sys.output, e.size, fun k hk => ?_⟩
  by_cases h0 : k = 0
  · subst h0
    unfold isGlob at hg
    split at hg
    · rename_i g cs ho
      obtain ⟨b, n, wo, h1, h2, h3, h4, _⟩ := r.obj 0 _ ho
      have h5 : m' 0 = some (0, 0) := e.le 0 _ rfl
      rw [h5] at h1
      injection h1 with h1
      injection h1 with h1 h6
      have h7 : g = 0 := by simpa using hg
      subst h7
      rw [← h1] at h2
      rw [h2, h4, hl.1]
    · simp at hg
  · refine e.same k hk fun id o n ho hm => ?_
    rw [heap0_obj] at ho
    split at ho
    · rename_i h; subst h
      simp [m0] at hm
      omega
    · simp at ho

theorem call_true {P : Program} [GoFree P] (hm : P.follows .mixedOrders = true) {B : Bnds} {σ : Vl} (hB : B.ok σ) {call : FuncId → List CV → St → Option (List Leaf)} (hC : ∀ N, CallHook P (σ.wN N) call)
    {f : FuncId} {cs : List CV} {vs : Array Value} (hv : dvs σ m0 cs = some vs.toList) {G : List CV} {A : List SB} (hA : Holds σ A) {n N : Nat}
    (h : allTrue B N (run P B (hooks P B call) n (.call f cs) (st0 G A)) = true) {w : World} (hG : laid G w (σ.gob 0)) :
    Calls P f vs w (fun e w' => e = .returned (.bool true) ∧ RowKit.Below w.heap.size w w') := by
  have hA' : Holds (σ.wN N) A := (Holds_wN σ N A).2 hA
  have hB' : B.ok (σ.wN N) := Bnds.ok_wN hB N
  have hall : ∀ l ∈ run P B (hooks P B call) n (.call f cs) (st0 G A), l.2.h.n ≤ N ∧ (Holds (σ.wN N) l.2.asm → isGlob l.2.h = true ∧ ∃ b, l.1 = .val (.bool b) ∧ b.den (σ.wN N) = true) := by
    intro l hl
    have := List.all_eq_true.1 h l hl
    simp only [Bool.and_eq_true, decide_eq_true_eq, Bool.or_eq_true] at this
    refine ⟨this.1, fun hh => ?_⟩
    rcases this.2 with hc | ⟨hg, hc⟩
    · exact absurd hh (contra_ok hB' hc)
    · refine ⟨hg, ?_⟩
      obtain ⟨x, s⟩ := l
      cases x with
      | val c =>
        cases c with
        | bool b =>
          simp only [decide_eq_true_eq] at hc
          exact ⟨b, rfl, SB.dec_ok hB' hh b hc⟩
        | _ => simp at hc
      | _ => simp at hc
  refine Calls.mono ((runs P hm hB hC n N).call (f := f) (cs := cs) (vs := vs) (s := st0 G A) (m := m0) (w := w) hA' (rep0 (σ := σ.wN N) hG) (by rw [dvs_wN]; exact hv) ⟨?_, fun l hl => (hall l hl).1⟩) ?_
  · intro k s' hb hh
    obtain ⟨_, b, hx, _⟩ := (hall _ hb).2 hh
    simp at hx
  · rintro e w' ⟨c, s', v, m', hl, rfl, hh, hdv, hr, ev⟩
    obtain ⟨hg, b, hx, hb⟩ := (hall _ hl).2 hh
    simp only [Ex.val.injEq] at hx
    subst hx
    simp only [dv, Option.some.injEq] at hdv
    subst hdv
    exact ⟨by rw [hb], below_of_evo (σ := σ.wN N) hG hr hg ev⟩

theorem Rep.below {σ : Vl} {m : M} {h : Heap} {w w' : World} (r : Rep σ m h w) (b : RowKit.Below w.heap.size w w') : Rep σ m h w' ∧ Evo h m w h m w' := by
  refine ⟨⟨r.top, fun id o ho => ?_, r.inj⟩, ⟨b.size, Nat.le_refl _, M.le_refl m, fun _ _ => rfl, fun k hk _ => b.block k hk, fun id o _ n h1 h2 => .inr ⟨id, o, n, h1, h2⟩, ⟨b.os, b.tape, b.output⟩⟩⟩
  obtain ⟨k, n, wo, h1, h2, h3⟩ := r.obj id o ho
  exact ⟨k, n, wo, h1, by rw [b.block k (Array.getElem?_eq_some_iff.1 h2).1]; exact h2, h3⟩

/-- Does the heap hold the package's variable as it was laid? -/
def isLaid (G : List CV) (h : Heap) : Bool := match h.obj 0 with
  | some (.glob g cs) => g == 0 && CV.sames cs G
  | _ => false

theorem isLaid_ok {σ : Vl} {m : M} {h : Heap} {w : World} {G : List CV} (hG : (CV.tvs G).isSome = true) (r : Rep σ m h w) (e : isLaid G h = true) : laid G w (σ.gob 0) := by
  unfold isLaid at e
  split at e
  · rename_i g cs ho
    simp only [Bool.and_eq_true, beq_iff_eq] at e
    obtain ⟨rfl, hs⟩ := e
    have := CV.sames_ok _ _ hs
    subst this
    obtain ⟨b, n, wo, h1, h2, h3, h4, arr, el, fr, us, zs, h5, h6, h8⟩ := r.obj 0 _ ho
    rw [h3] at h1
    injection h1 with h1
    injection h1 with h1 h7
    obtain ⟨vs, hvs⟩ := Option.isSome_iff_exists.1 hG
    rw [← h1, h4] at h2
    refine ⟨h2, arr, el, fr, vs, zs, by rw [← h4]; exact h5, hvs, ?_⟩
    rw [tvs_ok σ m _ hvs] at h6
    rw [Option.some.inj h6]
    exact h8
  · simp at e

/-- A call of these answers true, and leaves nothing. -/
def knownTrue (G : List CV) (fs : List FuncId) (base : FuncId → List CV → St → Option (List Leaf)) (f : FuncId) (cs : List CV) (s : St) : Option (List Leaf) :=
  match cs with
  | [] => if fs.contains f && isLaid G s.h then some [(.val (.bool (.lit true)), s)] else base f cs s
  | _ => base f cs s

theorem knownTrue_ok {P : Program} {σ : Vl} {G : List CV} (hG : (CV.tvs G).isSome = true) {fs : List FuncId} {base : FuncId → List CV → St → Option (List Leaf)} (hb : CallHook P σ base)
    (hf : ∀ f ∈ fs, ∀ (w : World) (o : Obj), laid G w o → Calls P f #[] w (fun e w' => e = .returned (.bool true) ∧ RowKit.Below w.heap.size w w')) : CallHook P σ (knownTrue G fs base) := by
  constructor
  · intro f cs vs s m w L h hA hr hv hg
    unfold knownTrue at h
    split at h
    · split at h
      · rename_i hc
        simp only [Bool.and_eq_true] at hc
        simp only [Option.some.injEq] at h
        subst h
        simp [dvs] at hv
        obtain rfl : vs = #[] := by rw [← hv]
        refine Calls.mono (hf f (by simpa using hc.1) w _ (isLaid_ok hG hr hc.2)) ?_
        rintro e w' ⟨rfl, hbel⟩
        obtain ⟨h1, h2⟩ := hr.below hbel
        exact ⟨.bool (.lit true), s, .bool true, m, by simp, rfl, hA, by simp [dv, SB.den], h1, h2⟩
      · exact hb.ok h hA hr hv hg
    · exact hb.ok h hA hr hv hg
  · intro f cs s L h
    unfold knownTrue at h
    split at h
    · split at h
      · simp only [Option.some.injEq] at h
        subst h
        simp
      · exact hb.mono h
    · exact hb.mono h
end
end Go.Sx
