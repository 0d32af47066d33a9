/- rosterref04.kinds: the table of super types, syntaxes and usages, as the row lists it. -/
import Derived.Test.YtdonopoijbokiaaDoorBase
namespace Go.Proofs.YtdonopoijbokiaaDoor
open Go.RowKit

def kindsL : List Int := [-1, 11, 0, -1, 10, 0, -1, 1, 0, -1, 10, 0, 2, 1, 0, 2, 1, 0, -1, 1, 0, 2, 1, 0, 2, 1, 0, 2, 1, 0, -1, 1, 0, 2, 1, 0, 2, 1, 0, 2, 1, 0, -1, 1, 0, -1, 1, 0, -1, 13, 0, -1, 1, 0, -1, 1, 0, -1, 1, 0, -1, 6, 0, -1, 6, 0, -1, 5, 0, -1, 5, 0, 16, 13, 0, -1, 1, 0, 3, 10, 0, 3, 10, 0, 3, 10, 0, 3, 10, 0, -1, 9, 0, 2, 1, 0, 2, 1, 0, 2, 1, 0, -1, 1, 0, -1, 1, 0, 8, 1, 0, 9, 1, 0, 11, 1, 0, 12, 1, 0, -1, 1, 0, -1, 3, 0, -1, 1, 0, -1, 10, 0, -1, 6, 0, -1, 10, 0, -1, 3, 0, -1, 6, 0, -1, 6, 0, -1, 1, 0, -1, 1, 0, -1, 7, 0, -1, 7, 0, -1, 4, 0, -1, 4, 0, -1, 2, 0, -1, 12, 1, -1, 12, 1, -1, 10, 1, -1, 10, 1, -1, 8, 1, -1, 14, 0]
theorem kindsL_length : kindsL.length = 186 := by kernel_rfl
/-- Row i's number j: 0 the super type's row or -1, 1 the syntax, 2 the usage. -/
def kindAt (i j : Nat) : Int := kindsL.getD (i * 3 + j) 0
/-- The package variable holds the table. -/
structure KindsAt (w : World) : Prop where
  lt : 1 < w.heap.size
  cell : ∀ i j, i * 3 + j < 186 → w.cell? ⟨1, i * 3 + j, none⟩ = some (.int .i64 (kindAt i j))
theorem KindsAt.below {w w' : World} (h : KindsAt w) (hb : Below w.heap.size w w') : KindsAt w' :=
  ⟨Nat.lt_of_lt_of_le h.lt hb.size, fun i j hk => (hb.cell (p := ⟨1, i * 3 + j, none⟩) h.lt).trans (h.cell i j hk)⟩
theorem kinds_super : (List.range 62).all (fun i => decide (-1 ≤ kindAt i 0) && decide (kindAt i 0 < i)) = true := by kernel_rfl
theorem super_range (i : Nat) (h : i < 62) : -1 ≤ kindAt i 0 ∧ kindAt i 0 < i := by
  have := List.all_eq_true.1 kinds_super i (List.mem_range.2 h)
  simpa using this
end Go.Proofs.YtdonopoijbokiaaDoor
