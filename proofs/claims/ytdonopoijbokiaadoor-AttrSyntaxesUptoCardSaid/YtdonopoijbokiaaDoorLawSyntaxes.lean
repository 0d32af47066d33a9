/- rosterlaw04.AttrSyntaxes: it answers true. -/
import Derived.Test.YtdonopoijbokiaaDoorB9
import Derived.Test.YtdonopoijbokiaaDoorB4
namespace Go.Proofs.YtdonopoijbokiaaDoor
open Go.RowKit Go.Proofs.YtdonopoijbokiaaDoorW.PrintWords

theorem supersB_len (s : ByteArray) : (supersB s).length ≤ 63 := by
  unfold supersB
  split
  · simp
  · exact supersF_length _ _

set_option maxRecDepth 100000 in
set_option maxHeartbeats 1000000 in
theorem attrSyntaxes_walk (s : ByteArray) (w : World) (hs : s.size ≤ 1048576) (hG : KindsAt w) (hM : MaxAt w) :
    Calls Tryd.prog 6 #[.string s] w fun e w' => e = .returned (.bool true) ∧ Below w.heap.size w w' := by
  have HG := Lib.hid hG
  have HM := Lib.hid hM
  clear hG hM
  go_enter Tryd.func6, Tryd.ntmps6
  go_wp2_with (first
    | (go_at_call 26; refine (same_eq A3 A4 c3 c4 (supersB s) w4 (Kd.C_below HC3.out HB4.out) HC4.out (by have := supersB_len s; omega)).mono ?_; rintro e w5 ⟨rfl, hD⟩; have HD := Lib.hid hD.below; clear hD)
    | (go_at_call 28; refine (refSupers_any s w3 (by omega) (HG.out.below HB3.out)).mono ?_; rintro e w4 ⟨v4, rfl, hR4, hb4⟩; obtain ⟨A4, c4, rfl, _, hC4⟩ := Kd.R_reads hR4; have HC4 := Lib.hid hC4; have HB4 := Lib.hid hb4; clear hR4 hC4 hb4)
    | (go_at_call 27; refine (supers_any s w2 (by omega)).mono ?_; rintro e w3 ⟨v3, rfl, hR3, hb3⟩; obtain ⟨A3, c3, rfl, _, hC3⟩ := Kd.R_reads hR3; have HC3 := Lib.hid hC3; have HB3 := Lib.hid (HB2.out.trans (hb3.mono HB2.out.size)); clear hR3 hC3 hb3)
    | (go_at_call 25; refine (refSyntax_any s w1 (by omega) (HG.out.below HB1.out)).mono ?_; rintro e w2 ⟨rfl, hb2⟩; have HB2 := Lib.hid (HB1.out.trans (hb2.mono HB1.out.size)); clear hb2)
    | (go_at_call 24; refine (syntax_any s w (by omega) HM.out).mono ?_; rintro e w1 ⟨rfl, hb1⟩; have HB1 := Lib.hid hb1; clear hb1))
  go_ret
  exact ⟨rfl, (HB3.out.trans (HB4.out.mono HB3.out.size)).trans (HD.out.mono (HB3.out.trans (HB4.out.mono HB3.out.size)).size)⟩
end Go.Proofs.YtdonopoijbokiaaDoor
