/- rosterlaw04.AttrPlace: it answers true. -/
import Derived.Test.YtdonopoijbokiaaDoorLawGoes
namespace Go.Proofs.YtdonopoijbokiaaDoor
open Go.RowKit Go.Proofs.YtdonopoijbokiaaDoorW.PrintWords

theorem goes_cn : goesL false (nb ⟨#[99, 110, 59]⟩) = true := by decide
theorem goes_one : goesL false (nb ⟨#[49]⟩) = true := by decide

set_option maxRecDepth 100000 in
set_option maxHeartbeats 1000000 in
theorem attrPlace_walk (s : ByteArray) (w : World) (hs : s.size ≤ 1048576) (hM : MaxAt w) :
    Calls Tryd.prog 5 #[.string s] w fun e w' => e = .returned (.bool true) ∧ Below w.heap.size w w' := by
  have hg1 := fun w hM => lawGoes_any ⟨#[99, 110, 59]⟩ w (by decide) hM
  have hg2 := fun w hM => lawGoes_any ⟨#[49]⟩ w (by decide) hM
  rw [goes_cn] at hg1
  rw [goes_one] at hg2
  obtain ⟨b, hb⟩ : ∃ b, acc false begins (nb s) = b := ⟨_, rfl⟩
  have HK := Lib.hid hb
  clear hb
  cases b
  · obtain ⟨p, hp⟩ : ∃ p : Nat, (scanL false (nb s)).2 = p := ⟨_, rfl⟩
    have hp1 : p ≤ s.size := by rw [← hp, ← nb_length]; exact scanL_le _ _
    have HP := Lib.hid hp
    clear hp
    have hno := fun w => parse_no s w (by omega) HK.out
    rw [HP.out] at hno
    have HG1 : Hid (goesL false (nb (s.extract 0 p)) = true) := Lib.hid (by rw [place_at (p := (p : Int)) (by rw [HP.out]) hp1]; exact decide_eq_true (by omega))
    have hs1 : (s.extract 0 p).size ≤ 4294966000 := by rw [ByteArray.size_extract]; omega
    have hs2 : (s.extract 0 (p + 1)).size ≤ 4294966000 := by rw [ByteArray.size_extract]; omega
    by_cases hlt : p < s.size
    · have HG2 : Hid (goesL false (nb (s.extract 0 (p + 1))) = false) := Lib.hid (by rw [place_at (p := (p : Int)) (by rw [HP.out]) (by omega)]; exact decide_eq_false (by omega))
      go_enter Tryd.func5, Tryd.ntmps5
      go_wp2_with (first
        | (go_at_call 21; refine (lawGoes_any (s.extract 0 (p + 1)) _ hs2 (hM.below hB4)).mono ?_; rw [HG2.out]; rintro e w5 ⟨rfl, hb5⟩; have hB5 := hB4.trans (hb5.mono hB4.size))
        | (go_at_call 21; refine (lawGoes_any (s.extract 0 p) _ hs1 (hM.below hB3)).mono ?_; rw [HG1.out]; rintro e w4 ⟨rfl, hb4⟩; have hB4 := hB3.trans (hb4.mono hB3.size))
        | (go_at_call 23; refine (num_forty _).mono ?_; rintro e w4 ⟨rfl, rfl⟩)
        | (go_at_call 22; refine (hno _).mono ?_; rintro e w3 ⟨rfl, hb3⟩; have hb3 := hb3.alloc hb3.size (.cells #[.string ⟨#[]⟩, .slice none 0 0] 40); have hB3 := hB2.trans (hb3.mono hB2.size))
        | (go_at_call 21; with_reducible refine (hg2 _ (hM.below hb1)).mono ?_; rintro e w2 ⟨rfl, hb2⟩; have hB2 := hb1.trans (hb2.mono hb1.size))
        | (go_at_call 21; with_reducible refine (hg1 _ hM).mono ?_; rintro e w1 ⟨rfl, hb1⟩))
      go_ret
      exact ⟨rfl, hB5⟩
    · have hge : s.size ≤ p := by omega
      go_enter Tryd.func5, Tryd.ntmps5
      go_wp2_with (first
        | (go_at_call 21; refine (lawGoes_any (s.extract 0 p) _ hs1 (hM.below hB3)).mono ?_; rw [HG1.out]; rintro e w4 ⟨rfl, hb4⟩; have hB4 := hB3.trans (hb4.mono hB3.size))
        | (go_at_call 23; refine (num_forty _).mono ?_; rintro e w4 ⟨rfl, rfl⟩)
        | (go_at_call 22; refine (hno _).mono ?_; rintro e w3 ⟨rfl, hb3⟩; have hb3 := hb3.alloc hb3.size (.cells #[.string ⟨#[]⟩, .slice none 0 0] 40); have hB3 := hB2.trans (hb3.mono hB2.size))
        | (go_at_call 21; with_reducible refine (hg2 _ (hM.below hb1)).mono ?_; rintro e w2 ⟨rfl, hb2⟩; have hB2 := hb1.trans (hb2.mono hb1.size))
        | (go_at_call 21; with_reducible refine (hg1 _ hM).mono ?_; rintro e w1 ⟨rfl, hb1⟩))
      go_ret
      exact ⟨rfl, hB4⟩
  · have hyes := fun w hM => parse_ok s w (by omega) hM HK.out
    go_enter Tryd.func5, Tryd.ntmps5
    go_wp2_with (first
      | (go_at_call 23; refine (num_zero _).mono ?_; rintro e w4 ⟨rfl, rfl⟩)
      | (go_at_call 22; refine (hyes _ (hM.below hB2)).mono ?_; rintro e w3 ⟨A, c, rfl, -, hb3⟩; have hb3 := hb3.alloc hb3.size (.cells #[.string (typeB s), .slice A (optB s).length c] 40); have hB3 := hB2.trans (hb3.mono hB2.size))
      | (go_at_call 21; with_reducible refine (hg2 _ (hM.below hb1)).mono ?_; rintro e w2 ⟨rfl, hb2⟩; have hB2 := hb1.trans (hb2.mono hb1.size))
      | (go_at_call 21; with_reducible refine (hg1 _ hM).mono ?_; rintro e w1 ⟨rfl, hb1⟩))
    go_ret
    exact ⟨rfl, hB3⟩
end Go.Proofs.YtdonopoijbokiaaDoor
