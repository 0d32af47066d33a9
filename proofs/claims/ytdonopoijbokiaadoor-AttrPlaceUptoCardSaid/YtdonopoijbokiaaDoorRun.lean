/- A straight piece of code, run by the kernel. -/
import Derived.Test.YtdonopoijbokiaaDoorBase
import Derived.Laws.Tables
import Derived.Laws.Rows
namespace Go.Proofs.YtdonopoijbokiaaDoor
open Go.RowKit

/-- Operations that yield a value, one behind the other. -/
def runL (P : Program) : List Oper → Act → World → Option (Act × World)
  | [], a, w => some (a, w)
  | o :: l, a, w => match o.guard, (execOp a.eval o).run P w with
    | none, .ok (.value v) w' => runL P l (a.put o.dst v) w'
    | _, _ => none

theorem runL_wp {P : Program} {ops : Array Oper} {Q : Exit → Act → World → Prop} {r : List Oper} : ∀ {l : List Oper} {a a' : Act} {w w' : World}, runL P l a w = some (a', w') → wpList P ops Q r a' w' → wpList P ops Q (l ++ r) a w
  | [], a, a', w, w', h, hq => by
    simp only [runL, Option.some.injEq, Prod.mk.injEq] at h
    obtain ⟨rfl, rfl⟩ := h
    exact hq
  | o :: l, a, a', w, w', h, hq => by
    unfold runL at h
    split at h
    · rename_i v w1 hg hr
      refine wpList_plain hg fun K hK => ?_
      unfold Oper.wp
      rw [hr, Oper.upon_value]
      exact hK _ _ (runL_wp h hq)
    · cases h

end Go.Proofs.YtdonopoijbokiaaDoor
