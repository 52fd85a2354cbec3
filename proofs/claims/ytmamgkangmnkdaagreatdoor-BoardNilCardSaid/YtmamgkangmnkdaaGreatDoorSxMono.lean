/- SX, part 12a: ids grow. -/
import Derived.Test.YtmamgkangmnkdaaGreatDoorSxRun
namespace Go.Sx
open Go
noncomputable section
section
variable {P : Program} {B : Bnds}

theorem boxCV_mono {h h' : Heap} {el : TypeId} {c p : CV} (e : boxCV h el c = .ok (p, h')) : h.n ≤ h'.n := by
  unfold boxCV at e
  simp only at e
  split at e
  · replace e := R.bind_ok e; obtain ⟨h2, hn, e⟩ := e
    simp at e; obtain ⟨_, rfl⟩ := e
    rw [Heap.n_new (R.ofOpt_ok hn)]; omega
  · simp at e

theorem buildSliceCV_mono {h h' : Heap} {t : TypeId} {n : Nat} {ps : List (Nat × CV)} {c : CV} (e : buildSliceCV P h t n ps = .ok (c, h')) : h.n ≤ h'.n := by
  unfold buildSliceCV at e
  split at e
  · split at e
    · split at e
      · simp at e
      · replace e := R.bind_ok e; obtain ⟨z, hz, e⟩ := e
        split at e
        · replace e := R.bind_ok e; obtain ⟨cs, hcs, e⟩ := e
          replace e := R.bind_ok e; obtain ⟨h2, hn, e⟩ := e
          simp at e; obtain ⟨_, rfl⟩ := e
          rw [Heap.n_new (R.ofOpt_ok hn)]; omega
        · simp at e
    · simp at e
  · simp at e

theorem stVar_mono {h h' : Heap} {t : TypeId} {p v : CV} (e : stVar P h t p v = .ok h') : h.n ≤ h'.n := by
  unfold stVar at e
  split at e
  · split at e
    · split at e
      · simp only at e
        split at e
        · replace e := R.bind_ok e; obtain ⟨_, _, e⟩ := e
          rw [Heap.n_set (R.ofOpt_ok e)]; omega
        · simp at e
      · simp at e
    · simp at e
  · simp at e

theorem growCV_mono {h h' : Heap} {el : TypeId} {i : TypeInfo} {os ds : List CV} {n : Nat} {c : CV} (e : growCV h el i os ds n = .ok (c, h')) : h.n ≤ h'.n := by
  unfold growCV at e
  split at e
  · split at e
    · replace e := R.bind_ok e; obtain ⟨h2, hn, e⟩ := e
      simp at e; obtain ⟨_, rfl⟩ := e
      rw [Heap.n_new (R.ofOpt_ok hn)]; omega
    · simp at e
  · simp at e

theorem appendCV_mono {h h' : Heap} {t tx : TypeId} {s x c : CV} (e : appendCV P h t tx s x = .ok (c, h')) : h.n ≤ h'.n := by
  unfold appendCV at e
  split at e
  · split at e
    · split at e
      · simp at e
      · replace e := R.bind_ok e; obtain ⟨⟨n, ds⟩, _, e⟩ := e
        simp only at e
        split at e
        · split at e
          · simp at e; obtain ⟨_, rfl⟩ := e; omega
          · exact growCV_mono e
        · split at e
          · split at e
            · simp at e; obtain ⟨_, rfl⟩ := e; omega
            · split at e
              · split at e
                · replace e := R.bind_ok e; obtain ⟨h2, hn, e⟩ := e
                  simp at e; obtain ⟨_, rfl⟩ := e
                  rw [Heap.n_set (R.ofOpt_ok hn)]; omega
                · simp at e
              · simp at e
          · replace e := R.bind_ok e; obtain ⟨⟨_, _⟩, _, e⟩ := e
            exact growCV_mono e
        · split at e
          · split at e
            · split at e
              · simp at e; obtain ⟨_, rfl⟩ := e; omega
              · simp at e
            · split at e
              · replace e := R.bind_ok e; obtain ⟨h1, hk, e⟩ := e
                replace e := R.bind_ok e; obtain ⟨h2, hn, e⟩ := e
                simp at e; obtain ⟨_, rfl⟩ := e
                rw [Heap.n_new (R.ofOpt_ok hn), Heap.n_set (R.ofOpt_ok hk)]; omega
              · simp at e
          · simp at e
        · simp at e
    · simp at e
  · simp at e

theorem mapUpdCV_mono {A : List SB} {h h' : Heap} {t : TypeId} {x k v : CV} (e : mapUpdCV P B A h t x k v = .ok h') : h.n ≤ h'.n := by
  unfold mapUpdCV at e
  split at e
  · split at e
    · split at e
      · split at e
        · replace e := R.bind_ok e; obtain ⟨res, _, e⟩ := e
          split at e
          · rw [Heap.n_set (R.ofOpt_ok e)]; omega
          · rw [Heap.n_set (R.ofOpt_ok e)]; omega
        · simp at e
      · simp at e
    · simp at e
  · simp at e

theorem makeCV_mono {A : List SB} {h h' : Heap} {t : TypeId} {x y c : CV} (e : makeCV P B A h t x y = .ok (c, h')) : h.n ≤ h'.n := by
  unfold makeCV at e
  split at e
  · split at e
    · split at e
      · replace e := R.bind_ok e; obtain ⟨_, _, e⟩ := e
        replace e := R.bind_ok e; obtain ⟨_, _, e⟩ := e
        split at e
        · replace e := R.bind_ok e; obtain ⟨_, _, e⟩ := e
          replace e := R.bind_ok e; obtain ⟨_, hn, e⟩ := e
          simp at e; obtain ⟨_, rfl⟩ := e
          rw [Heap.n_new (R.ofOpt_ok hn)]; omega
        · simp at e
      · simp at e
    · simp at e
  · simp at e

theorem clearCV_mono {h h' : Heap} {t : TypeId} {x c : CV} (e : clearCV P h t x = .ok (c, h')) : h.n ≤ h'.n := by
  unfold clearCV at e
  split at e
  · simp at e; obtain ⟨_, rfl⟩ := e; omega
  · split at e
    · simp at e; obtain ⟨_, rfl⟩ := e; omega
    · split at e
      · split at e
        · replace e := R.bind_ok e; obtain ⟨_, _, e⟩ := e
          split at e
          · replace e := R.bind_ok e; obtain ⟨_, hs, e⟩ := e
            simp at e; obtain ⟨_, rfl⟩ := e
            rw [Heap.n_set (R.ofOpt_ok hs)]; omega
          · simp at e
        · simp at e
      · simp at e
  · simp at e

theorem val1_mono {h h' : Heap} {x : R CV} {act : Act1} (e : val1 h x = .ok (act, h')) : h.n ≤ h'.n := by
  obtain ⟨_, _, _, rfl⟩ := ent_val e; omega

theorem addCV_mono {h h' : Heap} {p c : CV} {y : SI} (e : addCV h p y = .ok (c, h')) : h.n ≤ h'.n := by
  unfold addCV at e
  replace e := R.bind_ok e; obtain ⟨⟨id, off, cs, el, opn, x⟩, hc, e⟩ := e
  simp only at e
  replace e := R.bind_ok e; obtain ⟨_, _, e⟩ := e
  replace e := R.bind_ok e; obtain ⟨h2, hs, e⟩ := e
  simp at e; obtain ⟨_, rfl⟩ := e
  rw [Heap.n_set (R.ofOpt_ok hs)]; omega

theorem extCV_mono {h h' : Heap} {fn : Func} {cs : List CV} {c : CV} (e : extCV P h fn cs = .ok (c, h')) : h.n ≤ h'.n := by
  unfold extCV at e
  split at e
  · simp at e
  · split at e
    · split at e
      · simp at e; obtain ⟨_, rfl⟩ := e; omega
      · replace e := R.bind_ok e; obtain ⟨_, _, e⟩ := e
        replace e := R.bind_ok e; obtain ⟨_, _, e⟩ := e
        simp at e; obtain ⟨_, rfl⟩ := e; omega
      · simp at e
    · split at e
      · split at e
        · replace e := R.bind_ok e; obtain ⟨⟨_, h2⟩, hb, e⟩ := e
          replace e := R.bind_ok e; obtain ⟨_, _, e⟩ := e
          simp at e; obtain ⟨_, rfl⟩ := e
          exact boxCV_mono hb
        · simp at e
      · split at e
        · split at e
          · replace e := R.bind_ok e; obtain ⟨_, _, e⟩ := e
            replace e := R.bind_ok e; obtain ⟨_, _, e⟩ := e
            replace e := R.bind_ok e; obtain ⟨_, _, e⟩ := e
            simp at e; obtain ⟨_, rfl⟩ := e; omega
          · simp at e
        · split at e
          · split at e
            · replace e := R.bind_ok e; obtain ⟨_, _, e⟩ := e
              replace e := R.bind_ok e; obtain ⟨_, _, e⟩ := e
              split at e
              · replace e := R.bind_ok e; obtain ⟨_, _, e⟩ := e
                replace e := R.bind_ok e; obtain ⟨_, _, e⟩ := e
                simp at e; obtain ⟨_, rfl⟩ := e; omega
              · simp at e
            · simp at e
          · split at e
            · split at e
              · replace e := R.bind_ok e; obtain ⟨_, _, e⟩ := e
                replace e := R.bind_ok e; obtain ⟨_, _, e⟩ := e
                split at e
                · replace e := R.bind_ok e; obtain ⟨_, _, e⟩ := e
                  split at e
                  · replace e := R.bind_ok e; obtain ⟨_, _, e⟩ := e
                    replace e := R.bind_ok e; obtain ⟨_, _, e⟩ := e
                    replace e := R.bind_ok e; obtain ⟨_, _, e⟩ := e
                    simp at e; obtain ⟨_, rfl⟩ := e; omega
                  · simp at e
                · simp at e
              · simp at e
            · split at e
              · split at e
                · replace e := R.bind_ok e; obtain ⟨_, _, e⟩ := e
                  replace e := R.bind_ok e; obtain ⟨_, _, e⟩ := e
                  replace e := R.bind_ok e; obtain ⟨_, _, e⟩ := e
                  replace e := R.bind_ok e; obtain ⟨_, _, e⟩ := e
                  split at e
                  · split at e
                    · replace e := R.bind_ok e; obtain ⟨_, _, e⟩ := e
                      replace e := R.bind_ok e; obtain ⟨_, hs, e⟩ := e
                      simp at e; obtain ⟨_, rfl⟩ := e
                      exact stVar_mono hs
                    · simp at e
                  · simp at e
                · simp at e
              · split at e
                · split at e
                  · exact addCV_mono e
                  · simp at e
                · split at e
                  · split at e
                    · replace e := R.bind_ok e; obtain ⟨_, _, e⟩ := e
                      simp at e; obtain ⟨_, rfl⟩ := e; omega
                    · simp at e
                  · replace e := R.bind_ok e; obtain ⟨_, _, e⟩ := e
                    replace e := R.bind_ok e; obtain ⟨_, _, e⟩ := e
                    replace e := R.bind_ok e; obtain ⟨_, _, e⟩ := e
                    simp at e; obtain ⟨_, rfl⟩ := e; omega

theorem ent1_mono {h h' : Heap} {x : R Tgt} {act : Act1} (e : ent1 P h x = .ok (act, h')) : h.n ≤ h'.n := by
  replace e := R.bind_ok e; obtain ⟨t, _, e⟩ := e
  cases t with
  | enter f cs => simp at e; obtain ⟨_, rfl⟩ := e; omega
  | ext f cs =>
    simp only at e
    split at e
    · replace e := R.bind_ok e; obtain ⟨⟨c, h2⟩, hc, e⟩ := e
      simp at e; obtain ⟨_, rfl⟩ := e
      exact extCV_mono hc
    · simp at e

theorem callCV_mono {s : St} {c : Call} {act : Act1} {h' : Heap} (e : callCV P B s c = .ok (act, h')) : s.h.n ≤ h'.n := by
  unfold callCV at e
  replace e := R.bind_ok e; obtain ⟨args, _, e⟩ := e
  split at e
  · unfold builtinCV at e
    split at e
    · exact val1_mono e
    · replace e := R.bind_ok e; obtain ⟨⟨c, h2⟩, hc, e⟩ := e
      simp at e; obtain ⟨_, rfl⟩ := e
      exact appendCV_mono hc
    · exact val1_mono e
    · exact val1_mono e
    · exact val1_mono e
    · replace e := R.bind_ok e; obtain ⟨⟨c, h2⟩, hc, e⟩ := e
      simp at e; obtain ⟨_, rfl⟩ := e
      exact clearCV_mono hc
    · simp at e
  · replace e := R.bind_ok e; obtain ⟨fc, hf, e⟩ := e
    split at e
    · exact ent1_mono e
    · simp at e
  · replace e := R.bind_ok e; obtain ⟨rc, hr, e⟩ := e
    exact ent1_mono e

theorem stepOp_mono {s : St} {o : Op} {act : Act1} {h' : Heap} (e : stepOp P B s o = .ok (act, h')) : s.h.n ≤ h'.n := by
  cases o <;> simp only [stepOp] at e
  case move x => exact val1_mono e
  case assign x => exact val1_mono e
  case pick c x y =>
    replace e := R.bind_ok e; obtain ⟨cc, hc, e⟩ := e
    split at e
    · replace e := R.bind_ok e; obtain ⟨t, ht, e⟩ := e
      exact val1_mono e
    · simp at e
  case alloc el =>
    replace e := R.bind_ok e; obtain ⟨z, hz, e⟩ := e
    replace e := R.bind_ok e; obtain ⟨⟨c, h2⟩, hb, e⟩ := e
    simp at e; obtain ⟨_, rfl⟩ := e
    exact boxCV_mono hb
  case box el x =>
    replace e := R.bind_ok e; obtain ⟨xc, hx, e⟩ := e
    replace e := R.bind_ok e; obtain ⟨⟨c, h2⟩, hb, e⟩ := e
    simp at e; obtain ⟨_, rfl⟩ := e
    exact boxCV_mono hb
  case build t ps =>
    replace e := R.bind_ok e; obtain ⟨pc, hp, e⟩ := e
    exact val1_mono e
  case buildSlice t n ps =>
    replace e := R.bind_ok e; obtain ⟨pc, hp, e⟩ := e
    replace e := R.bind_ok e; obtain ⟨⟨c, h2⟩, hb, e⟩ := e
    simp at e; obtain ⟨_, rfl⟩ := e
    exact buildSliceCV_mono hb
  case store t x y =>
    replace e := R.bind_ok e; obtain ⟨xc, hx, e⟩ := e
    replace e := R.bind_ok e; obtain ⟨yc, hy, e⟩ := e
    replace e := R.bind_ok e; obtain ⟨h2, hs, e⟩ := e
    simp at e; obtain ⟨_, rfl⟩ := e
    exact stVar_mono hs
  case nilCheck x =>
    replace e := R.bind_ok e; obtain ⟨c, hc, e⟩ := e
    split at e
    · simp at e; obtain ⟨_, rfl⟩ := e; omega
    · simp at e
  case makeInterface t x =>
    replace e := R.bind_ok e; obtain ⟨c, hc, e⟩ := e
    split at e
    · simp at e
    · simp at e; obtain ⟨_, rfl⟩ := e; omega
    · simp at e
  case makeFunc fn first captured =>
    replace e := R.bind_ok e; obtain ⟨xs, hx, e⟩ := e
    replace e := R.bind_ok e; obtain ⟨ys, hy, e⟩ := e
    simp at e; obtain ⟨_, rfl⟩ := e; omega
  case makeMap t r =>
    cases r with
    | some _ => simp at e
    | none =>
      simp only at e
      replace e := R.bind_ok e; obtain ⟨⟨c, h2⟩, hb, e⟩ := e
      simp at e; obtain ⟨_, rfl⟩ := e
      replace hb := R.bind_ok hb; obtain ⟨h3, hn, hb⟩ := hb
      simp at hb; obtain ⟨_, rfl⟩ := hb
      rw [Heap.n_new (R.ofOpt_ok hn)]; omega
  case makeSlice t x y =>
    replace e := R.bind_ok e; obtain ⟨xc, hx, e⟩ := e
    replace e := R.bind_ok e; obtain ⟨yc, hy, e⟩ := e
    replace e := R.bind_ok e; obtain ⟨⟨c, h2⟩, hb, e⟩ := e
    simp at e; obtain ⟨_, rfl⟩ := e
    exact makeCV_mono hb
  case slice t x lo hi mx =>
    replace e := R.bind_ok e; obtain ⟨xc, hx, e⟩ := e
    replace e := R.bind_ok e; obtain ⟨lc, hl, e⟩ := e
    replace e := R.bind_ok e; obtain ⟨hc', hh, e⟩ := e
    replace e := R.bind_ok e; obtain ⟨mc, hm, e⟩ := e
    exact val1_mono e
  case mapUpdate t x i v =>
    replace e := R.bind_ok e; obtain ⟨xc, hx, e⟩ := e
    replace e := R.bind_ok e; obtain ⟨ic, hi, e⟩ := e
    replace e := R.bind_ok e; obtain ⟨vc, hv, e⟩ := e
    replace e := R.bind_ok e; obtain ⟨h2, hs, e⟩ := e
    simp at e; obtain ⟨_, rfl⟩ := e
    exact mapUpdCV_mono hs
  case insert t x i v =>
    replace e := R.bind_ok e; obtain ⟨xc, hx, e⟩ := e
    replace e := R.bind_ok e; obtain ⟨ic, hi, e⟩ := e
    replace e := R.bind_ok e; obtain ⟨vc, hv, e⟩ := e
    replace e := R.bind_ok e; obtain ⟨h2, hs, e⟩ := e
    simp at e; obtain ⟨_, rfl⟩ := e
    exact mapUpdCV_mono hs
  case call c => exact callCV_mono e
  case defer c =>
    split at e
    · replace e := R.bind_ok e; obtain ⟨fc, hf, e⟩ := e
      split at e
      · replace e := R.bind_ok e; obtain ⟨args, ha, e⟩ := e
        simp at e; obtain ⟨_, rfl⟩ := e
        exact Nat.le_refl _
      · simp at e
    · simp at e
  all_goals first
    | (simp at e; done)
    | (replace e := R.bind_ok e; obtain ⟨_, _, e⟩ := e; exact val1_mono e)
    | (replace e := R.bind_ok e; obtain ⟨_, _, e⟩ := e; replace e := R.bind_ok e; obtain ⟨_, _, e⟩ := e; exact val1_mono e)

/-- Something comes of a run, and ids grow. -/
def RnMono (rn : Cmd → St → List Leaf) : Prop := ∀ c s, rn c s ≠ [] ∧ ∀ l ∈ rn c s, s.h.n ≤ l.2.h.n

structure HooksMono (H : Hooks) : Prop where
  draw : ∀ {rn : Cmd → St → List Leaf}, RnMono rn → ∀ ops s, H.draw rn ops s ≠ [] ∧ ∀ l ∈ H.draw rn ops s, s.h.n ≤ l.2.h.n
  call : ∀ {f : FuncId} {cs : List CV} {s : St} {L : List Leaf}, H.call f cs s = some L → L ≠ [] ∧ ∀ l ∈ L, s.h.n ≤ l.2.h.n

theorem thenL_ne {L : List Leaf} {f : St → List Leaf} (hL : L ≠ []) (hf : ∀ s, f s ≠ []) : thenL L f ≠ [] := by
  cases L with
  | nil => exact absurd rfl hL
  | cons x L =>
    unfold thenL
    rw [flatR_eq, List.flatMap_cons]
    intro h
    have h1 := (List.append_eq_nil_iff.1 h).1
    obtain ⟨y, s⟩ := x
    cases y <;> simp at h1
    exact hf s h1

theorem thenL_mono {L : List Leaf} {f : St → List Leaf} {n : Nat} (h1 : ∀ l ∈ L, n ≤ l.2.h.n) (h2 : ∀ s, n ≤ s.h.n → ∀ l ∈ f s, n ≤ l.2.h.n) : ∀ l ∈ thenL L f, n ≤ l.2.h.n := by
  intro l hl
  rcases mem_thenL.1 hl with ⟨s, hs, hy⟩ | ⟨hy, _⟩
  · exact h2 s (h1 _ hs) l hy
  · exact h1 l hy

theorem put_h {s s' : St} {d : Option Tmp} {c : CV} (h : s.put d c = some s') : s'.h = s.h := by
  cases d with
  | none => simp [St.put] at h; subst h; rfl
  | some t =>
    simp only [St.put] at h
    split at h
    · simp only [Option.map_eq_some_iff] at h; obtain ⟨tm, _, rfl⟩ := h; rfl
    · simp at h

theorem putL_mono {s : St} {d : Option Tmp} {c : CV} {f : St → List Leaf} {n : Nat} (hn : n ≤ s.h.n) (h : ∀ s', s'.h = s.h → f s' ≠ [] ∧ ∀ l ∈ f s', n ≤ l.2.h.n) : putL s d c f ≠ [] ∧ ∀ l ∈ putL s d c f, n ≤ l.2.h.n := by
  unfold putL
  split
  · rename_i s' hs; exact h s' (put_h hs)
  · simpa using hn

theorem flatMap_mono {L : List Leaf} {g : Leaf → List Leaf} {n : Nat} (hne : L ≠ []) (h : ∀ y ∈ L, g y ≠ [] ∧ ∀ l ∈ g y, n ≤ l.2.h.n) : L.flatMap g ≠ [] ∧ ∀ l ∈ L.flatMap g, n ≤ l.2.h.n := by
  constructor
  · intro hnil
    rw [List.flatMap_eq_nil_iff] at hnil
    cases L with
    | nil => exact hne rfl
    | cons y ys => exact (h y (by simp)).1 (hnil y (by simp))
  · intro l hl
    obtain ⟨y, hy, hl⟩ := List.mem_flatMap.1 hl
    exact (h y hy).2 l hl

theorem run_mono {H : Hooks} (hH : HooksMono H) : ∀ n, RnMono (run P B H n) := by
  intro n
  induction n with
  | zero => intro c s; simp [run]
  | succ n ih =>
    have two : ∀ (c : Cmd) (s s1 s2 : St), s1.h = s.h → s2.h = s.h → (run P B H n c s1 ++ run P B H n c s2) ≠ [] ∧ ∀ l ∈ (run P B H n c s1 ++ run P B H n c s2), s.h.n ≤ l.2.h.n := by
      intro c s s1 s2 h1 h2
      refine ⟨fun h => (ih c s1).1 (List.append_eq_nil_iff.1 h).1, fun l hl => ?_⟩
      rcases List.mem_append.1 hl with h | h
      · rw [← h1]; exact (ih c s1).2 l h
      · rw [← h2]; exact (ih c s2).2 l h
    have thn : ∀ (c d : Cmd) (s : St), thenL (run P B H n c s) (fun s => run P B H n d s) ≠ [] ∧ ∀ l ∈ thenL (run P B H n c s) (fun s => run P B H n d s), s.h.n ≤ l.2.h.n := by
      intro c d s
      exact ⟨thenL_ne (ih c s).1 fun s => (ih d s).1, thenL_mono (ih c s).2 fun s' hs' l hl => Nat.le_trans hs' ((ih d s').2 l hl)⟩
    intro c s
    cases c with
    | code c =>
      cases c with
      | region id ops draw =>
        cases draw with
        | false => simp only [run]; exact ih _ _
        | true => simp only [run]; exact hH.draw ih ops s
      | seq a b => simp only [run]; exact thn _ _ s
      | cond c t e =>
        simp only [run, appR_eq]
        split
        · split
          · exact ih _ _
          · exact ih _ _
          · rename_i b hb _ hd
            refine ⟨fun h => (ih _ _).1 (List.append_eq_nil_iff.1 h).1, fun l hl => ?_⟩
            rcases List.mem_append.1 hl with h | h
            · exact (ih (.code t) (s.assume b)).2 l h
            · exact (ih (.code e) (s.assume b.neg)).2 l h
        · simp
      | block id c =>
        simp only [run, mapR_eq]
        refine ⟨fun h => (ih (.code c) s).1 (List.map_eq_nil_iff.1 h), fun l hl => ?_⟩
        obtain ⟨y, hy, rfl⟩ := List.mem_map.1 hl
        have := (ih (.code c) s).2 y hy
        obtain ⟨x, s'⟩ := y
        cases x <;> simp only <;> first | exact this | (split <;> exact this)
      | loop c => simp only [run]; exact ih _ _
      | scope c => simp only [run]; exact ih _ _
      | _ => simp [run]
    | loop c => simp only [run]; exact thn _ _ s
    | ops all l =>
      cases l with
      | nil => simp [run]
      | cons o rest =>
        simp only [run, flatR_eq, appR_eq]
        split
        · simp
        · exact two _ s _ _ rfl rfl
        · exact putL_mono (Nat.le_refl _) fun s' hs' => ⟨(ih _ s').1, fun l hl => by rw [← hs']; exact (ih _ s').2 l hl⟩
        · split
          · simp
          · exact two _ s _ _ rfl rfl
          · rename_i c h hst
            have hm := stepOp_mono hst
            exact putL_mono (s := { s with h }) hm fun s' hs' => ⟨(ih _ s').1, fun l hl => Nat.le_trans hm (by have := (ih _ s').2 l hl; rw [hs'] at this; exact this)⟩
          · rename_i h hst
            have hm := stepOp_mono hst
            exact putL_mono (s := { s with h }) hm fun s' hs' => ⟨(ih _ s').1, fun l hl => Nat.le_trans hm (by have := (ih _ s').2 l hl; rw [hs'] at this; exact this)⟩
          · rename_i f args h hst
            have hm := stepOp_mono hst
            exact putL_mono (s := { s with h, df := (f, args) :: s.df }) hm fun s' hs' => ⟨(ih _ s').1, fun l hl => Nat.le_trans hm (by have := (ih _ s').2 l hl; rw [hs'] at this; exact this)⟩
          · rename_i f args h hst
            have hm := stepOp_mono hst
            obtain ⟨hne, hall⟩ := ih (.call f args) { s with h }
            have each : ∀ y ∈ run P B H n (.call f args) { s with h }, ∀ g : Leaf → List Leaf, (g = fun x => match x with
                | (.val c, s') => putL { s with h := s'.h, asm := s'.asm } o.dst c fun s => run P B H n (.ops all rest) s
                | (.bad k, s') => [(.bad k, s')]
                | (_, s') => [(.bad 243, s')]) → g y ≠ [] ∧ ∀ l ∈ g y, s.h.n ≤ l.2.h.n := by
              intro y hy g hg
              subst hg
              have hy2 := Nat.le_trans hm (hall y hy)
              obtain ⟨x, s'⟩ := y
              cases x with
              | val c => exact putL_mono (s := { s with h := s'.h, asm := s'.asm }) hy2 fun s2 hs2 => ⟨(ih _ s2).1, fun l hl => Nat.le_trans hy2 (by have := (ih _ s2).2 l hl; rw [hs2] at this; exact this)⟩
              | _ => simpa using hy2
            constructor
            · intro hnil
              rw [List.flatMap_eq_nil_iff] at hnil
              cases hL : run P B H n (.call f args) { s with h } with
              | nil => exact hne hL
              | cons y ys => exact (each y (by rw [hL]; simp) _ rfl).1 (hnil y (by rw [hL]; simp))
            · intro l hl
              obtain ⟨y, hy, hl⟩ := List.mem_flatMap.1 hl
              exact (each y hy _ rfl).2 l hl
    | call f args =>
      simp only [run, flatR_eq, lenR_eq]
      split
      · rename_i L hL; exact hH.call hL
      · split
        · rename_i fn hf
          split
          · rename_i c tm hb ht
            obtain ⟨hne, hall⟩ := ih (.code c) { tm, nt := args.length + (fn.ntmps - args.length), h := s.h, asm := s.asm }
            refine flatMap_mono hne fun y hy => ?_
            have := hall y hy
            obtain ⟨x, s'⟩ := y
            cases x with
            | norm => exact ⟨(ih _ s').1, fun l hl => Nat.le_trans this ((ih _ s').2 l hl)⟩
            | ret => exact ⟨(ih _ s').1, fun l hl => Nat.le_trans this ((ih _ s').2 l hl)⟩
            | _ => simpa using this
          · simp
        · simp
    | dcall f args =>
      simp only [run, mapR_eq, lenR_eq]
      split
      · rename_i fn hf
        split
        · rename_i c tm hb ht
          obtain ⟨hne, hall⟩ := ih (.code c) { tm, nt := args.length + (fn.ntmps - args.length), h := s.h, asm := s.asm }
          refine ⟨fun h => hne (List.map_eq_nil_iff.1 h), fun l hl => ?_⟩
          obtain ⟨y, hy, rfl⟩ := List.mem_map.1 hl
          have := hall y hy
          obtain ⟨x, s'⟩ := y
          cases x <;> simp only <;> first | exact this | (split <;> exact this)
        · simp
      · simp
    | door l rs =>
      cases l with
      | nil => simp only [run]; split <;> simp
      | cons d l =>
        obtain ⟨f, cs⟩ := d
        simp only [run, flatR_eq]
        refine flatMap_mono (ih _ _).1 fun y hy => ?_
        have := (ih _ _).2 y hy
        obtain ⟨x, s'⟩ := y
        cases x with
        | val c => exact ⟨(ih _ _).1, fun l hl => Nat.le_trans this ((ih _ { s with h := s'.h, asm := s'.asm }).2 l hl)⟩
        | _ => simpa using this
end
end
end Go.Sx
