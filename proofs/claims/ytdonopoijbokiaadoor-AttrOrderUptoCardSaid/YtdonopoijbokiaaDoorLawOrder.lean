/- rosterlaw04.AttrOrder: it answers true. -/
import Derived.Test.YtdonopoijbokiaaDoorB13
set_option linter.unusedVariables false
set_option linter.unusedSimpArgs false
namespace Go.Proofs.YtdonopoijbokiaaDoor
open Go.RowKit Go.Proofs.YtdonopoijbokiaaDoorW.PrintWords

theorem cov_name : coversB ⟨#[110, 97, 109, 101]⟩ ⟨#[99, 110, 59, 120]⟩ = true := by kernel_rfl
theorem cov_name' : coversB ⟨#[99, 110, 59, 120]⟩ ⟨#[110, 97, 109, 101]⟩ = false := by kernel_rfl

set_option maxRecDepth 100000 in
set_option maxHeartbeats 2000000 in
theorem attrOrder_walk (a b c : ByteArray) (w : World) (hsa : a.size ≤ 1048576) (hsb : b.size ≤ 1048576) (hsc : c.size ≤ 1048576) (hM : MaxAt w) :
    Calls Tryd.prog 12 #[.string a, .string b, .string c] w fun en w' => en = .returned (.bool true) ∧ Below w.heap.size w w' := by
  have HM := Lib.hid hM
  clear hM
  have HB := Lib.hid (Below.refl w.heap.size w)
  have hcv := fun d e w hd he hM => covers_any d e w hd he hM
  have k1 := cov_name
  have k2 := cov_name'
  have haa := covers_self a
  obtain ⟨ba, hba⟩ : ∃ x, acc false begins (nb a) = x := ⟨_, rfl⟩
  obtain ⟨bb, hbb⟩ : ∃ x, acc false begins (nb b) = x := ⟨_, rfl⟩
  rw [hba] at haa
  cases ba
  · have hab := covers_no1 (e := b) hba
    have hca := fun w (_ : MaxAt w) => canonical_no a w (by omega) hba
    cases bb
    · have hcb := fun w (_ : MaxAt w) => canonical_no b w (by omega) hbb
      clear hba hbb
      go_enter Tryd.func12, Tryd.ntmps12
      go_wp2_with (first
        | (go_at_call 23; with_reducible refine (num_zero _).mono ?_; rintro en wn ⟨rfl, rfl⟩)
        | (go_at_call 23; with_reducible refine (num_forty _).mono ?_; rintro en wn ⟨rfl, rfl⟩)
        | (go_at_call 38; with_reducible refine (hca _ (HM.out.below HB.out)).mono ?_; rintro en wx ⟨rfl, hbx⟩; have HB := Lib.hid (HB.out.trans (hbx.mono HB.out.size)); clear hbx)
        | (go_at_call 38; with_reducible refine (hcb _ (HM.out.below HB.out)).mono ?_; rintro en wx ⟨rfl, hbx⟩; have HB := Lib.hid (HB.out.trans (hbx.mono HB.out.size)); clear hbx)
        | (go_at_call 30; refine (hcv _ _ _ (by first | omega | decide) (by first | omega | decide) (HM.out.below HB.out)).mono ?_; rintro en wx ⟨rfl, hbx⟩; have HB := Lib.hid (HB.out.trans (hbx.mono HB.out.size)); clear hbx))
      go_ret
      exact ⟨rfl, HB.out⟩
    · have hcb := fun w (hM : MaxAt w) => canonical_ok b w (by omega) hM hbb
      clear hba hbb
      go_enter Tryd.func12, Tryd.ntmps12
      go_wp2_with (first
        | (go_at_call 23; with_reducible refine (num_zero _).mono ?_; rintro en wn ⟨rfl, rfl⟩)
        | (go_at_call 23; with_reducible refine (num_forty _).mono ?_; rintro en wn ⟨rfl, rfl⟩)
        | (go_at_call 38; with_reducible refine (hca _ (HM.out.below HB.out)).mono ?_; rintro en wx ⟨rfl, hbx⟩; have HB := Lib.hid (HB.out.trans (hbx.mono HB.out.size)); clear hbx)
        | (go_at_call 38; with_reducible refine (hcb _ (HM.out.below HB.out)).mono ?_; rintro en wx ⟨rfl, hbx⟩; have HB := Lib.hid (HB.out.trans (hbx.mono HB.out.size)); clear hbx)
        | (go_at_call 30; refine (hcv _ _ _ (by first | omega | decide) (by first | omega | decide) (HM.out.below HB.out)).mono ?_; rintro en wx ⟨rfl, hbx⟩; have HB := Lib.hid (HB.out.trans (hbx.mono HB.out.size)); clear hbx))
      go_ret
      exact ⟨rfl, HB.out⟩
  · have hca := fun w (hM : MaxAt w) => canonical_ok a w (by omega) hM hba
    cases bb
    · have hab := covers_no2 (d := a) hbb
      have hcb := fun w (_ : MaxAt w) => canonical_no b w (by omega) hbb
      clear hba hbb
      go_enter Tryd.func12, Tryd.ntmps12
      go_wp2_with (first
        | (go_at_call 23; with_reducible refine (num_zero _).mono ?_; rintro en wn ⟨rfl, rfl⟩)
        | (go_at_call 23; with_reducible refine (num_forty _).mono ?_; rintro en wn ⟨rfl, rfl⟩)
        | (go_at_call 38; with_reducible refine (hca _ (HM.out.below HB.out)).mono ?_; rintro en wx ⟨rfl, hbx⟩; have HB := Lib.hid (HB.out.trans (hbx.mono HB.out.size)); clear hbx)
        | (go_at_call 38; with_reducible refine (hcb _ (HM.out.below HB.out)).mono ?_; rintro en wx ⟨rfl, hbx⟩; have HB := Lib.hid (HB.out.trans (hbx.mono HB.out.size)); clear hbx)
        | (go_at_call 30; refine (hcv _ _ _ (by first | omega | decide) (by first | omega | decide) (HM.out.below HB.out)).mono ?_; rintro en wx ⟨rfl, hbx⟩; have HB := Lib.hid (HB.out.trans (hbx.mono HB.out.size)); clear hbx))
      go_ret
      exact ⟨rfl, HB.out⟩
    · have hcb := fun w (hM : MaxAt w) => canonical_ok b w (by omega) hM hbb
      obtain ⟨bab, hab⟩ : ∃ x, coversB a b = x := ⟨_, rfl⟩
      cases bab
      · clear hba hbb
        go_enter Tryd.func12, Tryd.ntmps12
        go_wp2_with (first
          | (go_at_call 23; with_reducible refine (num_zero _).mono ?_; rintro en wn ⟨rfl, rfl⟩)
          | (go_at_call 38; with_reducible refine (hca _ (HM.out.below HB.out)).mono ?_; rintro en wx ⟨rfl, hbx⟩; have HB := Lib.hid (HB.out.trans (hbx.mono HB.out.size)); clear hbx)
          | (go_at_call 38; with_reducible refine (hcb _ (HM.out.below HB.out)).mono ?_; rintro en wx ⟨rfl, hbx⟩; have HB := Lib.hid (HB.out.trans (hbx.mono HB.out.size)); clear hbx)
          | (go_at_call 30; refine (hcv _ _ _ (by first | omega | decide) (by first | omega | decide) (HM.out.below HB.out)).mono ?_; rintro en wx ⟨rfl, hbx⟩; have HB := Lib.hid (HB.out.trans (hbx.mono HB.out.size)); clear hbx))
        go_ret
        exact ⟨rfl, HB.out⟩
      · have hbaa := covers_anti hab
        have htr := fun h => covers_trans (c := c) hab h
        obtain ⟨ca, hcaa⟩ : ∃ x, canonText a = x := ⟨_, rfl⟩
        obtain ⟨cb, hcbb⟩ : ∃ x, canonText b = x := ⟨_, rfl⟩
        rw [hcaa] at hca hbaa
        rw [hcbb] at hcb hbaa
        obtain ⟨bbc, hbc⟩ : ∃ x, coversB b c = x := ⟨_, rfl⟩
        clear hba hbb hcaa hcbb
        by_cases e : ca = cb
        · subst e
          rw [decide_eq_true rfl] at hbaa
          cases bbc
          · clear htr
            go_enter Tryd.func12, Tryd.ntmps12
            go_wp2_with (first
              | (go_at_call 23; with_reducible refine (num_zero _).mono ?_; rintro en wn ⟨rfl, rfl⟩)
              | (go_at_call 38; with_reducible refine (hca _ (HM.out.below HB.out)).mono ?_; rintro en wx ⟨rfl, hbx⟩; have HB := Lib.hid (HB.out.trans (hbx.mono HB.out.size)); clear hbx)
              | (go_at_call 38; with_reducible refine (hcb _ (HM.out.below HB.out)).mono ?_; rintro en wx ⟨rfl, hbx⟩; have HB := Lib.hid (HB.out.trans (hbx.mono HB.out.size)); clear hbx)
              | (go_at_call 30; refine (hcv _ _ _ (by first | omega | decide) (by first | omega | decide) (HM.out.below HB.out)).mono ?_; rintro en wx ⟨rfl, hbx⟩; have HB := Lib.hid (HB.out.trans (hbx.mono HB.out.size)); clear hbx))
            go_ret
            exact ⟨rfl, HB.out⟩
          · have hac := htr hbc
            clear htr
            go_enter Tryd.func12, Tryd.ntmps12
            go_wp2_with (first
              | (go_at_call 23; with_reducible refine (num_zero _).mono ?_; rintro en wn ⟨rfl, rfl⟩)
              | (go_at_call 38; with_reducible refine (hca _ (HM.out.below HB.out)).mono ?_; rintro en wx ⟨rfl, hbx⟩; have HB := Lib.hid (HB.out.trans (hbx.mono HB.out.size)); clear hbx)
              | (go_at_call 38; with_reducible refine (hcb _ (HM.out.below HB.out)).mono ?_; rintro en wx ⟨rfl, hbx⟩; have HB := Lib.hid (HB.out.trans (hbx.mono HB.out.size)); clear hbx)
              | (go_at_call 30; refine (hcv _ _ _ (by first | omega | decide) (by first | omega | decide) (HM.out.below HB.out)).mono ?_; rintro en wx ⟨rfl, hbx⟩; have HB := Lib.hid (HB.out.trans (hbx.mono HB.out.size)); clear hbx))
            go_ret
            exact ⟨rfl, HB.out⟩
        · have hne := bytes_ne e
          rw [decide_eq_false e] at hbaa
          clear e
          cases bbc
          · clear htr
            go_enter Tryd.func12, Tryd.ntmps12
            go_wp2_with (first
              | (go_at_call 23; with_reducible refine (num_zero _).mono ?_; rintro en wn ⟨rfl, rfl⟩)
              | (go_at_call 38; with_reducible refine (hca _ (HM.out.below HB.out)).mono ?_; rintro en wx ⟨rfl, hbx⟩; have HB := Lib.hid (HB.out.trans (hbx.mono HB.out.size)); clear hbx)
              | (go_at_call 38; with_reducible refine (hcb _ (HM.out.below HB.out)).mono ?_; rintro en wx ⟨rfl, hbx⟩; have HB := Lib.hid (HB.out.trans (hbx.mono HB.out.size)); clear hbx)
              | (go_at_call 30; refine (hcv _ _ _ (by first | omega | decide) (by first | omega | decide) (HM.out.below HB.out)).mono ?_; rintro en wx ⟨rfl, hbx⟩; have HB := Lib.hid (HB.out.trans (hbx.mono HB.out.size)); clear hbx))
            go_ret
            exact ⟨rfl, HB.out⟩
          · have hac := htr hbc
            clear htr
            go_enter Tryd.func12, Tryd.ntmps12
            go_wp2_with (first
              | (go_at_call 23; with_reducible refine (num_zero _).mono ?_; rintro en wn ⟨rfl, rfl⟩)
              | (go_at_call 38; with_reducible refine (hca _ (HM.out.below HB.out)).mono ?_; rintro en wx ⟨rfl, hbx⟩; have HB := Lib.hid (HB.out.trans (hbx.mono HB.out.size)); clear hbx)
              | (go_at_call 38; with_reducible refine (hcb _ (HM.out.below HB.out)).mono ?_; rintro en wx ⟨rfl, hbx⟩; have HB := Lib.hid (HB.out.trans (hbx.mono HB.out.size)); clear hbx)
              | (go_at_call 30; refine (hcv _ _ _ (by first | omega | decide) (by first | omega | decide) (HM.out.below HB.out)).mono ?_; rintro en wx ⟨rfl, hbx⟩; have HB := Lib.hid (HB.out.trans (hbx.mono HB.out.size)); clear hbx))
            go_ret
            exact ⟨rfl, HB.out⟩
end Go.Proofs.YtdonopoijbokiaaDoor
