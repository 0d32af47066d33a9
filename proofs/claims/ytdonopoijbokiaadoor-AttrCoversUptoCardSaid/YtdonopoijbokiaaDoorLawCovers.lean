/- rosterlaw04.AttrCovers: it answers true. -/
import Derived.Test.YtdonopoijbokiaaDoorB12
set_option linter.unusedVariables false
set_option linter.unusedSimpArgs false
namespace Go.Proofs.YtdonopoijbokiaaDoor
open Go.RowKit Go.Proofs.YtdonopoijbokiaaDoorW.PrintWords

set_option maxRecDepth 100000 in
set_option maxHeartbeats 1000000 in
theorem attrCovers_walk (d e : ByteArray) (w : World) (hd : d.size ≤ 1048576) (he : e.size ≤ 1048576) (hG : KindsAt w) (hM : MaxAt w) :
    Calls Tryd.prog 8 #[.string d, .string e] w fun en w' => en = .returned (.bool true) ∧ Below w.heap.size w w' := by
  have HG := Lib.hid hG
  have HM := Lib.hid hM
  clear hG hM
  have hp := fun w hM => covers_any d e w (by omega) (by omega) hM
  have hq := fun w hG => refCovers_any d e w (by omega) (by omega) hG
  have hp2 := fun w hM => covers_any e d w (by omega) (by omega) hM
  have hq2 := fun w hG => refCovers_any e d w (by omega) (by omega) hG
  have hp3 := fun w hM => covers_any d d w (by omega) (by omega) hM
  have hq3 := fun w hG => refCovers_any d d w (by omega) (by omega) hG
  generalize coversB d e = b1 at hp hq
  generalize coversB e d = b2 at hp2 hq2
  generalize coversB d d = b3 at hp3 hq3
  go_enter Tryd.func8, Tryd.ntmps8
  go_wp2_with (first
    | (go_at_call 31; with_reducible refine (hq3 _ (HG.out.below HB5.out)).mono ?_; rintro en w6 ⟨rfl, hb6⟩; have HB6 := Lib.hid (HB5.out.trans (hb6.mono HB5.out.size)); clear hb6)
    | (go_at_call 30; with_reducible refine (hp3 _ (HM.out.below HB4.out)).mono ?_; rintro en w5 ⟨rfl, hb5⟩; have HB5 := Lib.hid (HB4.out.trans (hb5.mono HB4.out.size)); clear hb5)
    | (go_at_call 31; with_reducible refine (hq2 _ (HG.out.below HB3.out)).mono ?_; rintro en w4 ⟨rfl, hb4⟩; have HB4 := Lib.hid (HB3.out.trans (hb4.mono HB3.out.size)); clear hb4)
    | (go_at_call 30; with_reducible refine (hp2 _ (HM.out.below HB2.out)).mono ?_; rintro en w3 ⟨rfl, hb3⟩; have HB3 := Lib.hid (HB2.out.trans (hb3.mono HB2.out.size)); clear hb3)
    | (go_at_call 31; with_reducible refine (hq _ (HG.out.below HB1.out)).mono ?_; rintro en w2 ⟨rfl, hb2⟩; have HB2 := Lib.hid (HB1.out.trans (hb2.mono HB1.out.size)); clear hb2)
    | (go_at_call 30; with_reducible refine (hp _ HM.out).mono ?_; rintro en w1 ⟨rfl, hb1⟩; have HB1 := Lib.hid hb1; clear hb1))
  all_goals go_ret
  all_goals first
    | exact ⟨rfl, HB6.out⟩
    | exact ⟨by simp, HB6.out⟩
end Go.Proofs.YtdonopoijbokiaaDoor
