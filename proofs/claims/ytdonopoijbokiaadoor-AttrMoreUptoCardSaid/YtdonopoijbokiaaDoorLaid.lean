/- From a row's list to the walks' premise: the table kinds reads as listed; a world for the witness; the end of a row of one string. -/
import Derived.Test.YtdonopoijbokiaaDoorB2
import Derived.Test.YtdonopoijbokiaaDoorRows
import Derived.Test.YtdonopoijbokiaaDoorChecked
import Derived.ProofKit
import Derived.OpenShut
import Derived.Deep.DeepHandedRow
import Derived.Lib.LaidU8
import Derived.ChangeMaps5
import Derived.ChangeOld
import Derived.Below
import Derived.SizedLaws
set_option linter.unusedVariables false
set_option linter.unusedSimpArgs false
namespace Go.Proofs.YtdonopoijbokiaaDoor
open Go.RowKit Go.ChangeShapes Go.WideShapes Go.ChangeAt

theorem own : ownKnob Tryd.prog.godebug = none := by kernel_rfl
theorem kinds_named : Tryd.prog.globalNamed "roster/rosterref04.kinds" = some 1 := by kernel_rfl
theorem kinds_type : (Tryd.prog.globals[1]?).map (·.type) = some 78 := by kernel_rfl
theorem cells_three : Tryd.prog.cellsOf 77 = 3 := by kernel_rfl
theorem cells_int : Tryd.prog.cellsOf 3 = 1 := by kernel_rfl
def kindsD : DataW Unit := .agg ((List.range 62).map fun i => Lib.tabData .i64 [kindAt i 0, kindAt i 1, kindAt i 2])
theorem kinds_data : (Rows.laid_roster_rosterref04_kinds : DataW Unit) = kindsD := by kernel_rfl
/-- WHAT THE ROW's LIST GIVES. -/
theorem kindsAt_of_reads {W : World} (h : Lib.VarReads Tryd.prog W "roster/rosterref04.kinds" Rows.laid_roster_rosterref04_kinds) : KindsAt W := by
  obtain ⟨g, t, cs, fuel, p, hg, hty, hvar, hd⟩ := h
  obtain rfl := Option.some.inj (kinds_named.symm.trans hg)
  obtain rfl := Option.some.inj (kinds_type.symm.trans hty)
  rw [kinds_data] at hd
  have hcell : ∀ i j, i < 62 → j < 3 → W.cell? ⟨1, i * 3 + j, none⟩ = some (.int .i64 (kindAt i j)) := by
    intro i j hi hj
    obtain ⟨fuel', d, q, hdi, he⟩ := Lib.array_elem Tryd.underlying78 hd i hi
    simp only [List.getElem?_map, List.getElem?_range hi, Option.map_some, Option.some.injEq] at hdi
    subst hdi
    rw [cells_three] at he
    have hcs := Lib.cells_of_tab Tryd.underlying77 Tryd.underlying3 cells_int cells_three he
    have := World.var?_cell hg hvar (i * 3 + j)
    rw [this, ← Array.getElem?_toList]
    have h3 : ((cs.toList.drop (i * 3)).take 3)[j]? = some (.int .i64 (kindAt i j)) := by
      rw [hcs]
      rcases j with _ | _ | _ | j
      · rfl
      · rfl
      · rfl
      · omega
    rw [List.getElem?_take_of_lt hj, List.getElem?_drop] at h3
    exact h3
  refine ⟨?_, fun i j hk => ?_⟩
  · have := hcell 0 0 (by omega) (by omega)
    rw [World.cell?] at this
    by_cases hlt : 1 < W.heap.size
    · exact hlt
    · simp [Array.getElem?_eq_none (Nat.le_of_not_lt hlt)] at this
  · have e : i * 3 + j = ((i * 3 + j) / 3) * 3 + (i * 3 + j) % 3 := by omega
    have := hcell ((i * 3 + j) / 3) ((i * 3 + j) % 3) (by omega) (by omega)
    rw [← e] at this
    rw [this]
    unfold kindAt
    rw [← e]
theorem kindsAt_of_head {W : World} {rest : List (String × DataW Unit)} (h : laidMet Tryd.prog (("roster/rosterref04.kinds", Rows.laid_roster_rosterref04_kinds) :: rest) W) : KindsAt W :=
  kindsAt_of_reads (Lib.laidMet.reads h (List.mem_cons_self ..))

/-- A WORLD FOR THE WITNESS: the settled one, the table as its initialiser lays it. -/
noncomputable def laidWorld (os : Os) : World :=
  { World.holding Tryd.prog os ⟨#[], #[], []⟩ with heap := (World.holding Tryd.prog os ⟨#[], #[], []⟩).heap.modify 1 fun
      | .cells _ t frozen => .cells (kindsL.map fun z => Value.int .i64 z).toArray t frozen
      | o => o }
end Go.Proofs.YtdonopoijbokiaaDoor
