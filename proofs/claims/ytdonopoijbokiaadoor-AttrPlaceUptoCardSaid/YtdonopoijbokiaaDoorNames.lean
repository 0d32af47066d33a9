/- rosterref04.names: the table of names. -/
import Derived.Test.YtdonopoijbokiaaDoorRun
namespace Go.Proofs.YtdonopoijbokiaaDoor
open Go.RowKit

def opsOf : Code → List Oper
  | .seq _ (.region _ ops _) => ops.toList
  | .seq _ (.seq (.region _ ops _) _) => ops.toList
  | _ => []
def bodyOf (f : Func) : Code := f.body.getD .skip
def constsOf : Oper → List Value
  | ⟨_, .build _ parts, _, _, _, _⟩ => parts.toList.map fun p => match p.2 with
    | .const v => v
    | _ => undef
  | _ => []
/-- The table's cells: of each row the first name, the other name, the identifier. -/
noncomputable def namesL : List Value := ((opsOf (bodyOf Tryd.f53)).take 62).flatMap constsOf
theorem namesL_length : namesL.length = 186 := by kernel_rfl

theorem runL_wp' {P : Program} {ops : Array Oper} {Q : Exit → Act → World → Prop} {l : List Oper} (n : Nat) {a : Act} {w : World} (a' : Act) (w' : World) (h : runL P (l.take n) a w = some (a', w')) (hq : wpList P ops Q (l.drop n) a' w') : wpList P ops Q l a w := by
  rw [← List.take_append_drop n l]
  exact runL_wp h hq

/-- The frame behind the builds. -/
noncomputable def namesF (w : World) : Act := ((runL Tryd.prog ((opsOf (bodyOf Tryd.f53)).take 63) { tmps := #[.pointer (some ⟨w.heap.size, 0, none⟩)] ++ Array.replicate 63 undef, defers := [] } w).map (·.1)).getD { tmps := #[], defers := [] }

set_option maxRecDepth 100000 in
theorem names_any (w : World) : Calls Tryd.prog 53 #[] w fun e w' => e = .returned (.agg namesL.toArray) ∧ Below w.heap.size w w' := by
  go_enter Tryd.func53, Tryd.ntmps53
  go_upto_region 1 with (fail)
  refine wp_region_list (runL_wp' 63 (namesF w) (w.alloc (.cells Tryd.zeroCells79 79)) (by kernel_rfl) ?_)
  show wpList _ _ _ [_] _ _
  refine wpList_store_row rfl 79 _ _ rfl w.heap.size namesL.toArray (by kernel_rfl) (by kernel_rfl) 79 Tryd.zeroCells79 (heap_alloc_new _ _) (by kernel_rfl) (by kernel_rfl) (by kernel_rfl) ?_
  refine wpList_nil ?_
  simp only [Exit.inBlock, Exit.then]
  go_step
  refine wp_ret (bodyPost_ret (results_cell_row rfl _ _ w.heap.size 79 namesL.toArray (0, 0) _ (by kernel_rfl) (setRow_heap _ _ _ _ _ _ (heap_alloc_new _ _)) Tryd.underlying79 rfl (by kernel_rfl)) (by kernel_rfl) ⟨rfl, ?_⟩)
  exact ⟨rfl, rfl, rfl, by simp, fun i hi => by rw [setRow_other _ _ _ _ (by omega)]; exact ((Below.refl _ w).alloc (Nat.le_refl _) _).block i hi⟩
end Go.Proofs.YtdonopoijbokiaaDoor
