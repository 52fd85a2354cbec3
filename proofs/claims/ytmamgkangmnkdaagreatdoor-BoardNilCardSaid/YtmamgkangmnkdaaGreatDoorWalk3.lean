/- The walk of intagliolaw23.BoardNil, part 3: at every client's number and every act, BoardNil answers true. -/
import Derived.Test.YtmamgkangmnkdaaGreatDoorRuns0
import Derived.Test.YtmamgkangmnkdaaGreatDoorRuns1
import Derived.Test.YtmamgkangmnkdaaGreatDoorRuns2
import Derived.Test.YtmamgkangmnkdaaGreatDoorRuns3
import Derived.Test.YtmamgkangmnkdaaGreatDoorRuns4
import Derived.Test.YtmamgkangmnkdaaGreatDoorRuns5
import Derived.Test.YtmamgkangmnkdaaGreatDoorRuns6
import Derived.Test.YtmamgkangmnkdaaGreatDoorRuns7
namespace Go.Proofs.YtmamgkangmnkdaaGreatDoor
open Go Go.Sx
set_option maxRecDepth 100000

def cases : List (List SB) := [[isK 3, isN 0], [isK 3, isN 1], [isK 3, isN 2], [isK 3, isN 3], [isK 4, isN 0], [isK 4, isN 1], [isK 4, isN 2], [isK 4, isN 3], [isK 5, isN 0], [isK 5, isN 1], [isK 5, isN 2], [isK 5, isN 3], [isK 6, isN 0], [isK 6, isN 1], [isK 6, isN 2], [isK 6, isN 3], [isK 11, isQ 0], [isK 11, isQ 1], [isK 11, isQ 2], [isK 11, isQ 3], [isK 11, isQ 4], [isK 11, isQ 5], [isK 11, isQ 6], [isK 11, isQ 7], [isK 12, isQ 0], [isK 12, isQ 1], [isK 12, isQ 2], [isK 12, isQ 3], [isK 12, isQ 4], [isK 12, isQ 5], [isK 12, isQ 6], [isK 12, isQ 7], [isK 0], [isK 1], [isK 2], [isK 7], [isK 8], [isK 9], [isK 10], [isK 13], [isK 14], [isK 15]]
theorem runs_ok : ∀ A ∈ cases, law A = true := by
  simp only [cases, List.forall_mem_cons]
  exact ⟨rp3_0, rp3_1, rp3_2, rp3_3, rp4_0, rp4_1, rp4_2, rp4_3, rp5_0, rp5_1, rp5_2, rp5_3, rp6_0, rp6_1, rp6_2, rp6_3, rf11_0, rf11_1, rf11_2, rf11_3, rf11_4, rf11_5, rf11_6, rf11_7, rf12_0, rf12_1, rf12_2, rf12_3, rf12_4, rf12_5, rf12_6, rf12_7, ro0, ro1, ro2, ro7, ro8, ro9, ro10, ro13, ro14, ro15, fun _ h => by simp at h⟩

theorem one_of (n : Nat) (x : Int) (h0 : 0 ≤ x) (h1 : x < n) : ∃ c, c < n ∧ x = (c : Int) := ⟨x.toNat, by omega, by omega⟩
theorem holds1 {σ : Vl} {a : SB} (h : a.den σ = true) : Holds σ [a] := by intro b hb; simp at hb; subst hb; exact h
theorem holds2 {σ : Vl} {a b : SB} (h : a.den σ = true) (h' : b.den σ = true) : Holds σ [a, b] := by
  intro c hc; simp at hc; rcases hc with rfl | rfl
  · exact h
  · exact h'
theorem some_case (σ : Vl) : ∃ A ∈ cases, Holds σ A := by
  have h1 := and_range .i64 (σ.i 2) 15 (by omega) (by simp [IntKind.max, IntKind.signed, IntKind.bits])
  have h2 := and_range .i64 (σ.i 3) 7 (by omega) (by simp [IntKind.max, IntKind.signed, IntKind.bits])
  have h3 := and_range .i64 (bitsDen .and .i64 (σ.i 4) 4095) 3 (by omega) (by simp [IntKind.max, IntKind.signed, IntKind.bits])
  obtain ⟨k, hk, ek⟩ := one_of 16 _ h1.1 (by omega)
  obtain ⟨q, hq, eq⟩ := one_of 8 _ h2.1 (by omega)
  obtain ⟨n, hn, en⟩ := one_of 4 _ h3.1 (by omega)
  have dk : (isK k).den σ = true := by simp [isK, xKind, SB.den, SI.den, ek]
  have dq : (isQ q).den σ = true := by simp [isQ, xKey, SB.den, SI.den, eq]
  have dn : (isN n).den σ = true := by simp [isN, xN, SB.den, SI.den, en]
  clear h1 h2 h3 ek eq en
  by_cases hp : 3 ≤ k ∧ k ≤ 6
  · refine ⟨[isK k, isN n], ?_, holds2 dk dn⟩
    have : (k = 3 ∨ k = 4 ∨ k = 5 ∨ k = 6) ∧ (n = 0 ∨ n = 1 ∨ n = 2 ∨ n = 3) := by omega
    clear dk dq dn hk hq hn hp
    obtain ⟨rfl | rfl | rfl | rfl, rfl | rfl | rfl | rfl⟩ := this <;> simp [cases]
  · by_cases hf : 11 ≤ k ∧ k ≤ 12
    · refine ⟨[isK k, isQ q], ?_, holds2 dk dq⟩
      have : (k = 11 ∨ k = 12) ∧ (q = 0 ∨ q = 1 ∨ q = 2 ∨ q = 3 ∨ q = 4 ∨ q = 5 ∨ q = 6 ∨ q = 7) := by omega
      clear dk dq dn hk hq hn hp hf
      obtain ⟨rfl | rfl, rfl | rfl | rfl | rfl | rfl | rfl | rfl | rfl⟩ := this <;> simp [cases]
    · refine ⟨[isK k], ?_, holds1 dk⟩
      have : k = 0 ∨ k = 1 ∨ k = 2 ∨ k = 7 ∨ k = 8 ∨ k = 9 ∨ k = 10 ∨ k = 13 ∨ k = 14 ∨ k = 15 := by omega
      clear dk dq dn hk hq hn hp hf
      rcases this with rfl | rfl | rfl | rfl | rfl | rfl | rfl | rfl | rfl | rfl <;> simp [cases]

theorem law_true (a b c d e : Int) (ha : (Lit.int .i64 a).wf = true) (hb : (Lit.int .i64 b).wf = true) (hc : (Lit.int .i64 c).wf = true) (hd : (Lit.int .i64 d).wf = true) (he : (Lit.int .i64 e).wf = true) (w : World) (o : Obj) (h : laid G0 w o) :
    Calls Tryz.prog 3 #[.int .i64 a, .agg #[.int .i64 b, .int .i64 c, .int .i64 d, .int .i64 e]] w (fun e w' => e = .returned (.bool true) ∧ RowKit.Below w.heap.size w w') := by
  let σ : Vl := { i := fun x => if x = 0 then a else if x = 1 then b else if x = 2 then c else if x = 3 then d else e, b := fun _ => false, v := fun _ => .bool false, one := fun _ => rfl, N := 0, gob := fun _ => o }
  obtain ⟨A, hA, hh⟩ := some_case σ
  refine call_true (σ := σ) mixed (B := B5) ?_ (fun N => memo_ok rfl (noCalls _ _) T3_ok) (cs := args) (by simp [args, dvs, dv, SI.den, σ]) (A := A) hh (runs_ok A hA) h
  have wf : ∀ {n : Int}, (Lit.int .i64 n).wf = true → -9223372036854775808 ≤ n ∧ n ≤ 9223372036854775807 := by
    intro n hn
    simpa [Lit.wf, IntKind.min, IntKind.max, IntKind.signed, IntKind.bits] using hn
  intro x l u hx
  match x, hx with
  | 0, hx => simp [B5, i64B] at hx; obtain ⟨rfl, rfl⟩ := hx; exact wf ha
  | 1, hx => simp [B5, i64B] at hx; obtain ⟨rfl, rfl⟩ := hx; exact wf hb
  | 2, hx => simp [B5, i64B] at hx; obtain ⟨rfl, rfl⟩ := hx; exact wf hc
  | 3, hx => simp [B5, i64B] at hx; obtain ⟨rfl, rfl⟩ := hx; exact wf hd
  | 4, hx => simp [B5, i64B] at hx; obtain ⟨rfl, rfl⟩ := hx; exact wf he
end Go.Proofs.YtmamgkangmnkdaaGreatDoor
