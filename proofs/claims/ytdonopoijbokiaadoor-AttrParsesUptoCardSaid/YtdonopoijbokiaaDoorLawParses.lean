/- rosterlaw04.parses, parsesType, canonicals and AttrParses: they answer true. -/
import Derived.Test.YtdonopoijbokiaaDoorB10
import Derived.Test.YtdonopoijbokiaaDoorB9
import Derived.Test.YtdonopoijbokiaaDoorB4
set_option linter.unusedVariables false
set_option linter.unusedSimpArgs false
namespace Go.Proofs.YtdonopoijbokiaaDoor
open Go.RowKit Go.Proofs.YtdonopoijbokiaaDoorW.PrintWords

set_option maxRecDepth 100000 in
set_option maxHeartbeats 1000000 in
theorem parses_any (s : ByteArray) (w : World) (hs : s.size ≤ 1073741824) (hM : MaxAt w) :
    Calls Tryd.prog 29 #[.string s] w fun e w' => e = .returned (.bool true) ∧ Below w.heap.size w w' := by
  obtain ⟨b, hb⟩ : ∃ b, acc false begins (nb s) = b := ⟨_, rfl⟩
  have HM := Lib.hid hM
  clear hM
  have HOL := Lib.hid (optB_length s)
  cases b
  · have hp := fun w => parse_no s w (by omega) hb
    have hq := fun w => refParse_no s w (by omega) hb
    clear hb
    go_enter Tryd.func29, Tryd.ntmps29
    go_wp2_with (first
      | (go_at_call 23; refine (num_forty _).mono ?_; rintro e w4 ⟨rfl, rfl⟩)
      | (go_at_call 26; refine (same_eq none none 0 0 [] _ (Kd.C_nil _ _) (Kd.C_nil _ _) (by simp)).mono ?_; rintro e w3 ⟨rfl, hD⟩; have HD := Lib.hid hD.below; clear hD)
      | (go_at_call 51; refine (hq _).mono ?_; rintro e w2 ⟨rfl, hb2⟩; have hd := (((Below.refl w2.heap.size w2).alloc (Nat.le_refl _) (.cells #[.string ⟨#[]⟩, .slice none 0 0] 40)).block w1.heap.size (by have := hb2.size; simp at this; omega)).trans (newKept hb2); obtain ⟨⟨q0, q1⟩, qf⟩ := cells2 hd; have HB2 := Lib.hid (HB1.out.trans (hb2.mono HB1.out.size)); clear hb2 hd)
      | (go_at_call 22; refine (hp _).mono ?_; rintro e w1 ⟨rfl, hb1⟩; have HB1 := Lib.hid (hb1.alloc hb1.size (.cells #[.string ⟨#[]⟩, .slice none 0 0] 40)); clear hb1))
    go_ret
    exact ⟨rfl, (HB2.out.alloc HB2.out.size _).trans (HD.out.mono (by have := HB2.out.size; simp; omega))⟩
  · have hp := fun w hM => parse_ok s w (by omega) hM hb
    have hq := fun w => refParse_ok s w (by omega) hb
    clear hb
    obtain ⟨os, hos⟩ : ∃ os, optB s = os := ⟨_, rfl⟩
    obtain ⟨tb, htb⟩ : ∃ tb, typeB s = tb := ⟨_, rfl⟩
    rw [hos, htb] at hp hq
    rw [hos] at HOL
    clear hos htb
    go_enter Tryd.func29, Tryd.ntmps29
    go_wp2_with (first
      | (go_at_call 23; refine (num_zero _).mono ?_; rintro e w4 ⟨rfl, rfl⟩)
      | (go_at_call 26; refine (same_eq A1 A2 c1 c2 os _ (Kd.C_below HC1.out ((Below.refl _ w2).alloc (Nat.le_refl _) _)) (Kd.C_below HC2.out ((Below.refl _ w2).alloc (Nat.le_refl _) _)) (by have := HOL.out; omega)).mono ?_; rintro e w3 ⟨rfl, hD⟩; have HD := Lib.hid hD.below; clear hD)
      | (go_at_call 51; refine (hq _).mono ?_; rintro e w2 ⟨A2, c2, rfl, hC2, hb2⟩; have hd := (((Below.refl w2.heap.size w2).alloc (Nat.le_refl _) (.cells #[.string tb, .slice A2 os.length c2] 40)).block w1.heap.size (by have := hb2.size; simp at this; omega)).trans (newKept hb2); obtain ⟨⟨q0, q1⟩, qf⟩ := cells2 hd; have HC1 := Lib.hid (Kd.C_below (Kd.C_below HC0.out ((Below.refl _ w1).alloc (Nat.le_refl _) _)) hb2); have HC2 := Lib.hid hC2; have HB2 := Lib.hid (HB1.out.trans (hb2.mono HB1.out.size)); clear hb2 hC2 hd)
      | (go_at_call 22; refine (hp _ HM.out).mono ?_; rintro e w1 ⟨A1, c1, rfl, hR1, hb1⟩; have HC0 := Lib.hid (C_of_R hR1); have HB1 := Lib.hid (hb1.alloc hb1.size (.cells #[.string tb, .slice A1 os.length c1] 40)); clear hb1 hR1))
    go_ret
    exact ⟨rfl, (HB2.out.alloc HB2.out.size _).trans (HD.out.mono (by have := HB2.out.size; simp; omega))⟩
set_option maxRecDepth 100000 in
set_option maxHeartbeats 1000000 in
theorem parsesType_any (s : ByteArray) (w : World) (hs : s.size ≤ 1073741824) :
    Calls Tryd.prog 35 #[.string s] w fun e w' => e = .returned (.bool true) ∧ Below w.heap.size w w' := by
  obtain ⟨b, hb⟩ : ∃ b, acc true begins (nb s) = b := ⟨_, rfl⟩
  cases b
  · have hp := fun w => parseType_no s w (by omega) hb
    have hq := fun w => refType_no s w (by omega) hb
    clear hb
    go_enter Tryd.func35, Tryd.ntmps35
    go_wp2_with (first
      | (go_at_call 23; refine (num_forty _).mono ?_; rintro e w4 ⟨rfl, rfl⟩)
      | (go_at_call 57; refine (hq _).mono ?_; rintro e w2 ⟨rfl, hb2⟩)
      | (go_at_call 34; refine (hp _).mono ?_; rintro e w1 ⟨rfl, hb1⟩))
    go_ret
    exact ⟨rfl, hb1.trans (hb2.mono hb1.size)⟩
  · have hp := fun w => parseType_ok s w (by omega) hb
    have hq := fun w => refType_ok s w (by omega) hb
    clear hb
    go_enter Tryd.func35, Tryd.ntmps35
    go_wp2_with (first
      | (go_at_call 23; refine (num_zero _).mono ?_; rintro e w4 ⟨rfl, rfl⟩)
      | (go_at_call 57; refine (hq _).mono ?_; rintro e w2 ⟨rfl, hb2⟩)
      | (go_at_call 34; refine (hp _).mono ?_; rintro e w1 ⟨rfl, hb1⟩))
    go_ret
    exact ⟨rfl, hb1.trans (hb2.mono hb1.size)⟩
set_option maxRecDepth 100000 in
set_option maxHeartbeats 1000000 in
theorem canonicals_any (s : ByteArray) (w : World) (hs : s.size ≤ 1073741824) (hM : MaxAt w) :
    Calls Tryd.prog 36 #[.string s] w fun e w' => e = .returned (.bool true) ∧ Below w.heap.size w w' := by
  obtain ⟨b, hb⟩ : ∃ b, acc false begins (nb s) = b := ⟨_, rfl⟩
  cases b
  · have hp := fun w => canonical_no s w (by omega) hb
    have hq := fun w => refCanonical_no s w (by omega) hb
    clear hb
    go_enter Tryd.func36, Tryd.ntmps36
    go_wp2_with (first
      | (go_at_call 23; refine (num_forty _).mono ?_; rintro e w4 ⟨rfl, rfl⟩)
      | (go_at_call 58; refine (hq _).mono ?_; rintro e w2 ⟨rfl, hb2⟩)
      | (go_at_call 38; refine (hp _).mono ?_; rintro e w1 ⟨rfl, hb1⟩))
    go_ret
    exact ⟨rfl, hb1.trans (hb2.mono hb1.size)⟩
  · have hp := fun w hM => canonical_ok s w (by omega) hM hb
    have hq := fun w => refCanonical_ok s w (by omega) hb
    clear hb
    go_enter Tryd.func36, Tryd.ntmps36
    go_wp2_with (first
      | (go_at_call 23; refine (num_zero _).mono ?_; rintro e w4 ⟨rfl, rfl⟩)
      | (go_at_call 58; refine (hq _).mono ?_; rintro e w2 ⟨rfl, hb2⟩)
      | (go_at_call 38; refine (hp _ hM).mono ?_; rintro e w1 ⟨rfl, hb1⟩))
    go_ret
    exact ⟨rfl, hb1.trans (hb2.mono hb1.size)⟩
set_option maxRecDepth 100000 in
set_option maxHeartbeats 1000000 in
theorem attrParses_walk (s : ByteArray) (w : World) (hs : s.size ≤ 1048576) (hM : MaxAt w) :
    Calls Tryd.prog 10 #[.string s] w fun e w' => e = .returned (.bool true) ∧ Below w.heap.size w w' := by
  go_enter Tryd.func10, Tryd.ntmps10
  go_wp2_with (first
    | (go_at_call 36; refine (canonicals_any s _ (by omega) (hM.below hB2)).mono ?_; rintro e w3 ⟨rfl, hb3⟩; have hB3 := hB2.trans (hb3.mono hB2.size))
    | (go_at_call 35; refine (parsesType_any s _ (by omega)).mono ?_; rintro e w2 ⟨rfl, hb2⟩; have hB2 := hb1.trans (hb2.mono hb1.size))
    | (go_at_call 29; refine (parses_any s _ (by omega) hM).mono ?_; rintro e w1 ⟨rfl, hb1⟩))
  go_ret
  exact ⟨rfl, hB3⟩
end Go.Proofs.YtdonopoijbokiaaDoor
