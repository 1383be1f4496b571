/- What is handed in, as lists: the cells. No program is named here. -/
import Derived.Test.YtbbihimlahngfaaBase
namespace Go.Proofs.Ytbbihimlahngfaa

def Bools (L : List Bool) : List Value := L.map Value.bool
def stepCells : List (Int × Nat × Nat) → List Value
  | [] => []
  | p :: l => .int .i64 p.1 :: .int .u16 (p.2.1 : Int) :: .int .u8 (p.2.2 : Int) :: stepCells l
theorem stepCells_get {L : List (Int × Nat × Nat)} {i : Nat} {p : Int × Nat × Nat} (h : L[i]? = some p) : (stepCells L)[i * 3]? = some (.int .i64 p.1) ∧ (stepCells L)[i * 3 + 1]? = some (.int .u16 (p.2.1 : Int)) ∧ (stepCells L)[i * 3 + 2]? = some (.int .u8 (p.2.2 : Int)) := by
  induction L generalizing i with
  | nil => simp at h
  | cons q l ih =>
    cases i with
    | zero => simp at h; subst h; simp [stepCells]
    | succ i =>
      rw [show (i + 1) * 3 = i * 3 + 1 + 1 + 1 by omega]
      simp only [stepCells, List.getElem?_cons_succ] at h ⊢
      exact ih h
theorem length_stepCells (L : List (Int × Nat × Nat)) : (stepCells L).length = L.length * 3 := by induction L with | nil => rfl | cons p l ih => simp [stepCells, ih]; omega
/-- The steps' addresses and locations are such numbers. -/
def Fine (S : List (Int × Nat × Nat)) : Prop := ∀ p ∈ S, p.2.1 < 65536 ∧ p.2.2 < 256
end Go.Proofs.Ytbbihimlahngfaa
