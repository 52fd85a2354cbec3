/- SX, part 9d: no type of the program is packed: what reflectlite asks first is cheap. -/
import Derived.Test.YtmamgkangmnkdaaGreatDoorSxOps8
namespace Go.Sx
open Go Go.Extern
noncomputable section

def ownAll (P : Program) : Bool := P.cutTypes.toList.all P.ownRow

section
variable {P : Program}
theorem packed_false (h : ownAll P = true) (t : TypeId) : P.packed t = false := by
  have h' := List.all_eq_true.1 h
  simp only [Program.packed, Program.packedAs, Bool.not_eq_false', List.isEmpty_iff, List.map_eq_nil_iff, List.filter_eq_nil_iff]
  intro c hc
  simp [h' c hc]

theorem embed_false (h : ownAll P = true) (ms : Array (String × TypeId)) : P.mayEmbedAPacks ms = false := by
  have h' := List.all_eq_true.1 h
  unfold Program.mayEmbedAPacks
  rw [← Array.any_toList, List.any_eq_false]
  intro c hc
  simp [h' c hc]

def mopQ (P : Program) : Nat → TypeId → Bool
  | 0, _ => true
  | d + 1, t => match P.underlying t with
    | some (.pointer e) => mopQ P d e
    | some (.struct fs) => fs.any fun f => f.embedded && mopQ P d f.type
    | _ => false
theorem mopQ_ok (h : ownAll P = true) : ∀ (d : Nat) (t : TypeId), P.methodsOfAPack d t = mopQ P d t
  | 0, _ => rfl
  | d + 1, t => by
    simp only [Program.methodsOfAPack, mopQ, packed_false h, Bool.false_or]
    split <;> simp_all [mopQ_ok h d, embed_false h]

def hopQ (P : Program) : Nat → TypeId → Bool
  | 0, _ => true
  | d + 1, t => match P.underlying t with
    | some (.struct fs) => fs.any fun f => hopQ P d f.type
    | some (.array _ e) => hopQ P d e
    | _ => false
theorem hopQ_ok (h : ownAll P = true) : ∀ (d : Nat) (t : TypeId), P.holdsPacked d t = hopQ P d t
  | 0, _ => rfl
  | d + 1, t => by
    simp only [Program.holdsPacked, hopQ, packed_false h, Bool.false_or]
    split <;> simp_all [hopQ_ok h d]
end
end
end Go.Sx
