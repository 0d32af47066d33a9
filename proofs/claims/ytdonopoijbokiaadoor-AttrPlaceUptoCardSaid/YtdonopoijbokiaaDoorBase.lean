/- What the walks of this seat lean on: the program, the kit's walk, the print's words; and small facts of the translation. -/
import Derived.Test.YtdonopoijbokiaaDoorProg
import Derived.Test.YtdonopoijbokiaaDoorWMore
import Derived.WalkKit
import Derived.Outline
import Derived.Lib.Hide
import Derived.Lib.ConvBytes
import Derived.LoopTactic
import Derived.BigQuiet
import Derived.Deep.QuietTactic
import Derived.WalkLawsBesides
import Derived.WalkSpells
import Derived.Deep.CutBlock
import Derived.Deep.DeepCutAuto
namespace Go.Proofs.YtdonopoijbokiaaDoor
open Go.RowKit

theorem info5 : (Tryd.prog.info? 5).map (fun i => (i.zero, i.size, i.bytes)) = some (some (.int .u8 0), 1, 1) := by kernel_rfl
theorem info9 : (Tryd.prog.info? 9).map (fun i => (i.zero, i.size, i.bytes)) = some (some (.string ⟨#[]⟩), 1, 16) := by kernel_rfl
end Go.Proofs.YtdonopoijbokiaaDoor
