/- SX, part 15: one operation of a region whose order is open, wherever it comes. -/
import Derived.Test.YtmamgkangmnkdaaGreatDoorSxDraw
namespace Go.Sx
open Go
noncomputable section
section
variable {P : Program} {B : Bnds} {σ : Vl}

/-- What one operation leaves. -/
structure OneEnd (σ : Vl) (s : St) (r : One) (m : M) (w : World) (m' : M) (w' : World) : Prop where
  len : s.h.n ≤ r.h.n
  size : w.heap.size ≤ w'.heap.size
  le : m.le m'
  keep : ∀ id, (id < s.h.n ∨ r.h.n ≤ id) → m' id = m id
  same : ∀ b, b < w.heap.size → (∀ id ob n, id ∈ r.F → s.h.obj id = some ob → m id ≠ some (b, n)) → w'.heap[b]? = w.heap[b]?
  own : ∀ id ob b n, (id ∈ r.F ∨ s.h.n ≤ id ∧ id < r.h.n) → r.h.obj id = some ob → m' id = some (b, n) → w.heap.size ≤ b ∨ ∃ id0 ob0 n0, id0 ∈ r.F ∧ s.h.obj id0 = some ob0 ∧ m id0 = some (b, n0)
  obj : ∀ id ob, (id ∈ r.F ∨ s.h.n ≤ id ∧ id < r.h.n) → r.h.obj id = some ob → ∃ b n wo, m' id = some (b, n) ∧ w'.heap[b]? = some wo ∧ ORep σ m' ob n wo
  inj : ∀ id id' ob ob' b n n', (id ∈ r.F ∨ s.h.n ≤ id ∧ id < r.h.n) → (id' ∈ r.F ∨ s.h.n ≤ id' ∧ id' < r.h.n) → r.h.obj id = some ob → r.h.obj id' = some ob' → m' id = some (b, n) → m' id' = some (b, n') → id = id'
  sys : SysEq w w'

theorem OneEnd.of {s : St} {r : One} {m m' : M} {w w' : World} {hF : Heap} {N : Nat} (hn : hF.n = s.h.n) (ho : ∀ id, hF.obj id = if id ∈ r.F then s.h.obj id else none)
    (hr : Rep (σ.wN N) m' r.h w') (ev : Evo hF m w r.h m' w') : OneEnd σ s r m w m' w' where
  len := by rw [← hn]; exact ev.len
  size := ev.size
  le := ev.le
  keep := fun id h => ev.keep id (by rw [hn]; exact h)
  same := fun b hb h => ev.same b hb fun id o n hid => by
    rw [ho] at hid
    split at hid
    · rename_i hF; exact h id o n hF hid
    · simp at hid
  own := fun id ob b n _ h1 h2 => by
    rcases ev.own id ob b n h1 h2 with h | ⟨id0, o0, n0, h3, h4⟩
    · exact .inl h
    · rw [ho] at h3
      split at h3
      · rename_i hF; exact .inr ⟨id0, o0, n0, hF, h3, h4⟩
      · simp at h3
  obj := fun id ob _ h1 => by
    obtain ⟨b, n, wo, h2, h3, h4⟩ := hr.obj id ob h1
    exact ⟨b, n, wo, h2, h3, (ORep_wN σ N _ _ _ _).1 h4⟩
  inj := fun id id' ob ob' b n n' _ _ h1 h2 h3 h4 => hr.inj id id' ob ob' b n n' h1 h2 h3 h4
  sys := ev.sys

theorem one_ok [GoFree P] (hB : B.ok σ) {k : Nat} {rn : Cmd → St → List Leaf} (hR : ∀ N, RnOk P (σ.wN N) k rn) (hM : RnMono rn) {all : Array Oper} {s : St} {o : Oper} {r : One} (e : drawOne rn P B all s o = .ok r) (hA : Holds σ s.asm)
    {m : M} {a : Act} {w : World} (htm : ∀ t c, t ∈ o.looksAt all → s.tm.get t = some c → dv σ m c = some (a.tmps.getD t undef)) (hnt : a.tmps.size = s.nt) (hdf : DfOk σ m s.df a.defers)
    (hobj : ∀ id ob, id ∈ r.F → s.h.obj id = some ob → ∃ b n wo, m id = some (b, n) ∧ w.heap[b]? = some wo ∧ ORep σ m ob n wo)
    (hinj : ∀ id id' ob ob' b n n', id ∈ r.F → id' ∈ r.F → s.h.obj id = some ob → s.h.obj id' = some ob' → m id = some (b, n) → m id' = some (b, n') → id = id')
    (htop : ∀ id, s.h.n ≤ id → id < r.h.n → m id = none)
    {K : Act → World → Prop} {Q : Exit → Act → World → Prop} (hK : ∀ v m' w', dv σ m' r.c = some v → OneEnd σ s r m w m' w' → K (a.put o.dst v) w') :
    if Region.wanted o (yielded all a.tmps) then o.wp P a w K Q ∨ (o.asks P a w ∧ LetsOut Q) else K (a.put o.dst undef) w := by
  unfold drawOne at e
  split at e
  · simp at e
  · rename_i tm htmb
    have htmg : ∀ t c, tm.get t = some c → dv σ m c = some (a.tmps.getD t undef) := by
      intro t c ht
      rw [buildOn_get htmb] at ht
      split at ht
      · rename_i hin; exact htm t c hin ht
      · simp [Tr.get] at ht
    have hwant : ∀ {b : Bool}, wantedCV B all { s with tm } o = .ok b → Region.wanted o (yielded all a.tmps) = b := by
      intro b hb
      -- the heap plays no part
      have I1 : Inv (σ.wN 0) (fun id => if id < 0 then none else m id) { s with tm, h := ⟨.nil, 0⟩ } a w := by
        refine ⟨⟨fun id _ h => by simp [Vl.wN] at h, fun id o h => by simp [Heap.obj, Tr.get] at h, fun id _ _ _ _ _ _ h => by simp [Heap.obj, Tr.get] at h⟩, ?_, hnt, by simpa using (DfOk_wN 0).2 hdf⟩
        intro t c ht
        have := htmg t c ht
        rw [dv_wN]
        simpa using this
      exact wanted_ok (σ := σ.wN 0) (s := { s with tm, h := ⟨.nil, 0⟩ }) (Bnds.ok_wN hB 0) ((Holds_wN σ 0 s.asm).2 hA) I1 hb
    split at e
    · simp at e
    · simp at e
    · rename_i hw
      simp at e; subst e
      rw [if_neg (by rw [hwant hw]; simp)]
      exact hK undef m w undef_ok ⟨Nat.le_refl _, Nat.le_refl _, M.le_refl m, fun _ _ => rfl, fun _ _ _ => rfl, fun id ob b n h => by simp at h; omega, fun id ob h => by simp at h; omega, fun id id' ob ob' b n n' h => by simp at h; omega, .refl w⟩
    · rename_i hw
      rw [if_pos (hwant hw)]
      left
      simp only at e
      generalize hFd : (if isCall o.op = true then reach s.h 2000 (0 :: opIds s o) [] else if bare P B { s with tm } o = true then [] else (opIds s o).eraseDups) = F at e
      split at e
      · simp at e
      · rename_i t ht
        have hFo : ∀ id, (Heap.mk t s.h.n).obj id = if id ∈ F then s.h.obj id else none := by
          intro id
          show t.get id = _
          rw [buildOn_get ht]; rfl
        have mkI : ∀ N, N = r.h.n → F = r.F → Inv (σ.wN N) m { s with tm, h := ⟨t, s.h.n⟩ } a w := by
          intro N hN hFr
          subst hFr
          refine ⟨⟨fun id h1 h2 => htop id h1 (by rw [← hN]; exact h2), ?_, ?_⟩, ?_, hnt, (DfOk_wN N).2 hdf⟩
          · intro id ob hid
            rw [hFo] at hid
            split at hid
            · rename_i hin
              obtain ⟨b, n, wo, h1, h2, h3⟩ := hobj id ob hin hid
              exact ⟨b, n, wo, h1, h2, (ORep_wN σ N _ _ _ _).2 h3⟩
            · simp at hid
          · intro id id' ob ob' b n n' hid hid' h1 h2
            rw [hFo] at hid hid'
            split at hid
            · rename_i hin
              split at hid'
              · rename_i hin'; exact hinj id id' ob ob' b n n' hin hin' hid hid' h1 h2
              · simp at hid'
            · simp at hid
          · intro t c hc
            rw [dv_wN]; exact htmg t c hc
        have hA' : ∀ N, Holds (σ.wN N) s.asm := fun N => (Holds_wN σ N s.asm).2 hA
        split at e
        · simp at e
        · simp at e
        · rename_i c h hst
          simp at e; subst e
          have I := mkI h.n rfl rfl
          obtain ⟨nx, w', m', h1, h2, h3, h4⟩ := stepOp_ok (P := P) (σ := σ.wN h.n) (s := { s with tm, h := ⟨t, s.h.n⟩ }) (Bnds.ok_wN hB _) (hA' _) I o hst (Nat.le_refl _)
          cases nx <;> simp only [nxOk] at h2
          rename_i v
          unfold Oper.wp
          rw [h1, Oper.upon_value]
          rw [dv_wN] at h2
          exact hK v m' w' h2 (.of (hF := ⟨t, s.h.n⟩) rfl hFo h3 h4)
        · rename_i h hst
          simp at e; subst e
          have I := mkI h.n rfl rfl
          obtain ⟨nx, w', m', h1, h2, h3, h4⟩ := stepOp_ok (P := P) (σ := σ.wN h.n) (s := { s with tm, h := ⟨t, s.h.n⟩ }) (Bnds.ok_wN hB _) (hA' _) I o hst (Nat.le_refl _)
          cases nx <;> simp only [nxOk] at h2
          unfold Oper.wp
          rw [h1, Oper.upon_skip]
          exact hK undef m' w' undef_ok (.of (hF := ⟨t, s.h.n⟩) rfl hFo h3 h4)
        · simp at e
        · rename_i f args h hst
          split at e
          · rename_i c s' hcall
            simp at e; subst e
            have I := mkI s'.h.n rfl rfl
            have hle : h.n ≤ s'.h.n := (hM (.call f args) { s with tm, h }).2 (.val c, s') (by rw [hcall]; simp)
            obtain ⟨nx, w', m', h1, h2, h3, h4⟩ := stepOp_ok (P := P) (σ := σ.wN s'.h.n) (s := { s with tm, h := ⟨t, s.h.n⟩ }) (Bnds.ok_wN hB _) (hA' _) I o hst hle
            cases nx <;> simp only [nxOk] at h2
            rename_i f' vs
            obtain ⟨rfl, hvs, _⟩ := h2
            unfold Oper.wp
            rw [h1, Oper.upon_enter]
            have hc := (hR s'.h.n).call (f := f) (cs := args) (vs := vs) (s := { s with tm, h }) (w := w') (hA' _) h3 hvs (by
              rw [hcall]
              refine ⟨fun n s2 hm => by simp at hm, fun l hl => ?_⟩
              simp at hl; subst hl
              exact Nat.le_refl _)
            refine Calls.mono hc ?_
            rintro en w'' ⟨c', s2, v, m'', hm2, rfl, _, hdv, hr2, ev2⟩
            rw [hcall] at hm2
            simp at hm2
            obtain ⟨rfl, rfl⟩ := hm2
            rw [dv_wN] at hdv
            exact hK v m'' w'' hdv (.of (hF := ⟨t, s.h.n⟩) rfl hFo hr2 (h4.trans ev2))
          · rename_i x s' L hne hcall
            split at e
            · split at e <;> simp at e
            · simp at e
          · simp at e
end
end
end Go.Sx
