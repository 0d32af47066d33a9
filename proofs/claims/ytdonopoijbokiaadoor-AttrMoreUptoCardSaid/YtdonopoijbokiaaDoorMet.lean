/- From a row's list and the world's shape to the walks' premises; a world for the witnesses; a bound on the texts' sizes. -/
import Derived.Test.YtdonopoijbokiaaDoorLaid
import Derived.Test.YtdonopoijbokiaaDoorB6
set_option linter.unusedVariables false
set_option linter.unusedSimpArgs false
namespace Go.Proofs.YtdonopoijbokiaaDoor
open Go.RowKit Go.ChangeShapes Go.WideShapes Go.ChangeAt

theorem maxAt_of_shaped {W : World} (h : W.ShapedOpen Tryd.prog) : MaxAt W := by
  obtain ⟨m, hm⟩ : ∃ m : Int, W.cell? ⟨2, 0, none⟩ = some (.int .i64 m) := Tryd.laysM146.s1_3 W h
  refine ⟨?_, m, hm⟩
  rw [World.cell?] at hm
  by_cases hlt : 2 < W.heap.size
  · exact hlt
  · simp [Array.getElem?_eq_none (Nat.le_of_not_lt hlt)] at hm
theorem kindsAt_of_list {W : World} {l : List (String × DataW Unit)} (h : laidMet Tryd.prog l W) (hm : ("roster/rosterref04.kinds", Rows.laid_roster_rosterref04_kinds) ∈ l) : KindsAt W :=
  kindsAt_of_reads (Lib.laidMet.reads h hm)

def flat1 : DataW Unit → List Value
  | .lit (.int k c) => [.int k c]
  | .lit (.string l) => [.string ⟨l.toArray⟩]
  | _ => []
def flat2 : DataW Unit → List Value
  | .agg ps => ps.flatMap flat1
  | d => flat1 d
def flat3 : DataW Unit → List Value
  | .agg ps => ps.flatMap flat2
  | d => flat1 d
def laidCells (d : DataW Unit) : Obj → Obj
  | .cells _ t frozen => .cells (flat3 d).toArray t frozen
  | o => o
/-- A WORLD FOR THE WITNESS: the settled one, the listed variables as they are listed. -/
noncomputable def metWorld (os : Os) : World :=
  { World.holding Tryd.prog os ⟨#[], #[], []⟩ with heap := ((((World.holding Tryd.prog os ⟨#[], #[], []⟩).heap.modify 1 (laidCells Rows.laid_roster_rosterref04_kinds)).modify 3 (laidCells Rows.laid_unicode_utf8_first)).modify 4 (laidCells Rows.laid_unicode_utf8_acceptRanges)).modify 0 (laidCells Rows.laid_roster_rosterlaw04_known) }
end Go.Proofs.YtdonopoijbokiaaDoor
