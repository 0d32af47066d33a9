/- rosterlaw04.AttrCanonical: it answers true. -/
import Derived.Test.YtdonopoijbokiaaDoorB13
set_option linter.unusedVariables false
set_option linter.unusedSimpArgs false
namespace Go.Proofs.YtdonopoijbokiaaDoor
open Go.RowKit Go.Proofs.YtdonopoijbokiaaDoorW.PrintWords

theorem can_cnx : acc false begins (nb ⟨#[99, 110, 59, 120]⟩) = true ∧ canonText ⟨#[99, 110, 59, 120]⟩ = ⟨#[99, 110, 59, 120]⟩ := ⟨by decide, by kernel_rfl⟩
theorem can_12 : acc false begins (nb ⟨#[49, 46, 50]⟩) = true ∧ canonText ⟨#[49, 46, 50]⟩ = ⟨#[49, 46, 50]⟩ := ⟨by decide, by kernel_rfl⟩
theorem can_cnx_any (w : World) (hM : MaxAt w) : Calls Tryd.prog 38 #[.string ⟨#[99, 110, 59, 120]⟩] w fun e w' => e = .returned (.tuple #[.string ⟨#[99, 110, 59, 120]⟩, .int .i64 0, .int .i64 4]) ∧ Below w.heap.size w w' := by
  have h := canonical_ok ⟨#[99, 110, 59, 120]⟩ w (by decide) hM can_cnx.1
  rw [can_cnx.2] at h
  exact h
theorem can_12_any (w : World) (hM : MaxAt w) : Calls Tryd.prog 38 #[.string ⟨#[49, 46, 50]⟩] w fun e w' => e = .returned (.tuple #[.string ⟨#[49, 46, 50]⟩, .int .i64 0, .int .i64 3]) ∧ Below w.heap.size w w' := by
  have h := canonical_ok ⟨#[49, 46, 50]⟩ w (by decide) hM can_12.1
  rw [can_12.2] at h
  exact h
theorem covers_canon {s : ByteArray} (hok : acc false begins (nb s) = true) : coversB s (canonText s) = true ∧ coversB (canonText s) s = true :=
  ⟨(coversB_iff _ _).2 ⟨hok, canon_acc hok, by rw [canon_type hok]; exact (memB_iff _ _).1 (mem_self s), by rw [canon_opts hok]; exact fun o h => h⟩,
    (coversB_iff _ _).2 ⟨canon_acc hok, hok, by rw [canon_type hok]; exact (memB_iff _ _).1 (mem_self s), by rw [canon_opts hok]; exact fun o h => h⟩⟩
theorem syn_canon {s : ByteArray} (hok : acc false begins (nb s) = true) : synB (canonText s) = synB s := by
  rw [synB, synB, canon_acc hok, hok, canon_type hok]

set_option maxRecDepth 100000 in
set_option maxHeartbeats 2000000 in
theorem attrCanonical_no (s : ByteArray) (w : World) (hs : s.size ≤ 1048576) (hM : MaxAt w) (hok : acc false begins (nb s) = false) :
    Calls Tryd.prog 13 #[.string s] w fun en w' => en = .returned (.bool true) ∧ Below w.heap.size w w' := by
  have HM := Lib.hid hM
  clear hM
  have HB := Lib.hid (Below.refl w.heap.size w)
  have hp := fun w (_ : MaxAt w) => parse_no s w (by omega) hok
  have hc := fun w (_ : MaxAt w) => canonical_no s w (by omega) hok
  have hv := fun w hM => covers_any s s w (by omega) (by omega) hM
  rw [covers_no1 (e := s) hok] at hv
  clear hok
  go_enter Tryd.func13, Tryd.ntmps13
  go_wp2_with (first
    | (go_at_call 23; with_reducible refine (num_zero _).mono ?_; rintro en wn ⟨rfl, rfl⟩)
    | (go_at_call 23; with_reducible refine (num_forty _).mono ?_; rintro en wn ⟨rfl, rfl⟩)
    | (go_at_call 30; with_reducible refine (hv _ (HM.out.below HB.out)).mono ?_; rintro en wx ⟨rfl, hbx⟩; have HB := Lib.hid (HB.out.trans (hbx.mono HB.out.size)); clear hbx)
    | (go_at_call 38; with_reducible refine (can_cnx_any _ (HM.out.below HB.out)).mono ?_; rintro en wx ⟨rfl, hbx⟩; have HB := Lib.hid (HB.out.trans (hbx.mono HB.out.size)); clear hbx)
    | (go_at_call 38; with_reducible refine (can_12_any _ (HM.out.below HB.out)).mono ?_; rintro en wx ⟨rfl, hbx⟩; have HB := Lib.hid (HB.out.trans (hbx.mono HB.out.size)); clear hbx)
    | (go_at_call 38; with_reducible refine (hc _ (HM.out.below HB.out)).mono ?_; rintro en w3 ⟨rfl, hb3⟩; have HB := Lib.hid (HB.out.trans (hb3.mono HB.out.size)); have hd3 := (hb3.block w2.heap.size (by simp)).trans (heap_alloc_new w2 (.cells #[.string ⟨#[]⟩, .slice none 0 0] 40)); obtain ⟨⟨q0, q1⟩, qf⟩ := cells2 hd3; clear hb3 hd3)
    | (go_at_call 22; with_reducible refine (hp _ (HM.out.below HB.out)).mono ?_; rintro en w2 ⟨rfl, hb2⟩; have HB := Lib.hid ((HB.out.trans (hb2.mono HB.out.size)).alloc (HB.out.trans (hb2.mono HB.out.size)).size (.cells #[.string ⟨#[]⟩, .slice none 0 0] 40)); clear hb2))
  go_ret
  exact ⟨rfl, HB.out⟩

set_option maxRecDepth 100000 in
set_option maxHeartbeats 4000000 in
theorem attrCanonical_ok (s : ByteArray) (w : World) (hs : s.size ≤ 1048576) (hM : MaxAt w) (hok : acc false begins (nb s) = true) :
    Calls Tryd.prog 13 #[.string s] w fun en w' => en = .returned (.bool true) ∧ Below w.heap.size w w' := by
  have HM := Lib.hid hM
  clear hM
  have HB := Lib.hid (Below.refl w.heap.size w)
  have hcs := canonText_size s
  have hca := canon_acc hok
  have hp1 := fun w hM => parse_ok s w (by omega) hM hok
  have hp2 := fun w hM => parse_ok (canonText s) w (by omega) hM hca
  have hc1 := fun w hM => canonical_ok s w (by omega) hM hok
  have hc2 := fun w hM => canonical_ok (canonText s) w (by omega) hM hca
  have hf := fun w => fold_any (canonText s) w (by omega)
  have hv1 := fun w hM => covers_any s (canonText s) w (by omega) (by omega) hM
  have hv2 := fun w hM => covers_any (canonText s) s w (by omega) (by omega) hM
  have hy1 := fun w hM => syntax_any s w (by omega) hM
  have hy2 := fun w hM => syntax_any (canonText s) w (by omega) hM
  have hpr := fun A c w hC => print_any (typeB s) A c (optB s).length (optB s) w rfl hC (by have := printL_room s; omega)
  have hris := rising_optB s
  have hol := optB_length s
  have hpt : printB (typeB s) (optB s) = canonText s := rfl
  rw [canon_type hok, canon_opts hok] at hp2
  rw [canon_text hok] at hc2
  rw [canon_fold] at hf
  rw [(covers_canon hok).1] at hv1
  rw [(covers_canon hok).2] at hv2
  rw [syn_canon hok] at hy2
  rw [hpt] at hpr
  clear hca hok hpt
  generalize canonText s = ct at *
  generalize typeB s = td at *
  generalize optB s = os at *
  generalize synB s = sy at *
  have HR := Lib.hid hris
  clear hris
  go_enter Tryd.func13, Tryd.ntmps13
  go_wp2_with (first
    | (go_at_call 23; with_reducible refine (num_zero _).mono ?_; rintro en wn ⟨rfl, rfl⟩)
    | (go_at_call 39; refine (hpr A2 c2 _ (first_C HC7.out)).mono ?_; rintro en w9 ⟨rfl, hb9⟩; have HB := Lib.hid ((pw_below_drewN HB.out m8).trans (hb9.mono HB.out.size)); have hd9 := (hb9.block w2.heap.size (Array.getElem?_eq_some_iff.1 HD7.out).1).trans HD7.out; obtain ⟨⟨t0, t1⟩, tf⟩ := cells2 hd9; have HC9 := Lib.hid (Kd.C_below (first_C (m := m8) HC7.out) hb9); clear hb9 hd9)
    | (go_at_call 26; refine (same_eq A5 A2 c5 c2 os _ HE7.out HC7.out (by omega)).mono ?_; rintro en w8 ⟨rfl, ⟨m8, rfl⟩⟩)
    | (go_at_call 33; with_reducible refine (hf _).mono ?_; rintro en w7 ⟨rfl, hb7⟩; have HD7 := Lib.hid ((hb7.block w2.heap.size (Array.getElem?_eq_some_iff.1 HD5.out).1).trans HD5.out); have HE7' := Lib.hid ((hb7.block w5.heap.size (by simp)).trans (heap_alloc_new w5 (.cells #[.string td, .slice A5 os.length c5] 40))); have hd7 := HD7.out; have he7 := HE7'.out; obtain ⟨⟨q0, q1⟩, qf⟩ := cells2 hd7; obtain ⟨⟨r0, r1⟩, rf⟩ := cells2 he7; have HC7 := Lib.hid (Kd.C_below HC5.out hb7); have HE7 := Lib.hid (Kd.C_below HE5.out hb7); have HB := Lib.hid (HB.out.trans (hb7.mono HB.out.size)); clear hb7 hd7 he7)
    | (go_at_call 22; with_reducible refine (hp2 _ (HM.out.below HB.out)).mono ?_; rintro en w5 ⟨A5, c5, rfl, hR5, hb5⟩; have hal := (Below.refl w5.heap.size w5).alloc (Nat.le_refl _) (.cells #[.string td, .slice A5 os.length c5] 40); have hlt5 := Nat.lt_of_lt_of_le (Array.getElem?_eq_some_iff.1 HD4.out).1 hb5.size; have HD5 := Lib.hid ((hal.block w2.heap.size hlt5).trans ((hb5.block w2.heap.size (Array.getElem?_eq_some_iff.1 HD4.out).1).trans HD4.out)); have HC5 := Lib.hid (Kd.C_below (Kd.C_below HC4.out hb5) hal); have HE5 := Lib.hid (Kd.C_below (C_of_R hR5) hal); have HB := Lib.hid ((HB.out.trans (hb5.mono HB.out.size)).alloc (HB.out.trans (hb5.mono HB.out.size)).size (.cells #[.string td, .slice A5 os.length c5] 40)); clear hal hlt5 hb5 hR5)
    | (go_at_call 38; with_reducible refine (hc2 _ (HM.out.below HB.out)).mono ?_; rintro en w4 ⟨rfl, hb4⟩; have HD4 := Lib.hid ((hb4.block w2.heap.size (Array.getElem?_eq_some_iff.1 HD3.out).1).trans HD3.out); have HC4 := Lib.hid (Kd.C_below HC3.out hb4); have HB := Lib.hid (HB.out.trans (hb4.mono HB.out.size)); clear hb4)
    | (go_at_call 38; with_reducible refine (hc1 _ (HM.out.below HB.out)).mono ?_; rintro en w3 ⟨rfl, hb3⟩; have HD3 := Lib.hid ((hb3.block w2.heap.size (by simp)).trans (heap_alloc_new w2 (.cells #[.string td, .slice A2 os.length c2] 40))); have HC3 := Lib.hid (Kd.C_below HC2.out hb3); have HB := Lib.hid (HB.out.trans (hb3.mono HB.out.size)); clear hb3)
    | (go_at_call 22; with_reducible refine (hp1 _ (HM.out.below HB.out)).mono ?_; rintro en w2 ⟨A2, c2, rfl, hR2, hb2⟩; have HC2 := Lib.hid (Kd.C_below (C_of_R hR2) ((Below.refl w2.heap.size w2).alloc (Nat.le_refl _) (.cells #[.string td, .slice A2 os.length c2] 40))); have HB := Lib.hid ((HB.out.trans (hb2.mono HB.out.size)).alloc (HB.out.trans (hb2.mono HB.out.size)).size (.cells #[.string td, .slice A2 os.length c2] 40)); clear hb2 hR2)
    | (go_at_call 38; with_reducible refine (can_cnx_any _ (HM.out.below HB.out)).mono ?_; rintro en wx ⟨rfl, hbx⟩; have HB := Lib.hid (HB.out.trans (hbx.mono HB.out.size)); clear hbx)
    | (go_at_call 38; with_reducible refine (can_12_any _ (HM.out.below HB.out)).mono ?_; rintro en wx ⟨rfl, hbx⟩; have HB := Lib.hid (HB.out.trans (hbx.mono HB.out.size)); clear hbx))
  clear hp1 hp2 hc1 hc2 hf hpr
  obtain ⟨n, hn⟩ : ∃ n, os.length = n := ⟨_, rfl⟩
  have hnl : n ≤ 1048577 := by omega
  have HN := Lib.hid hn
  rw [hn] at t1
  rw [hn]
  have HC9' : Hid (Kd.C Kd.string w9 A2 n os) := Lib.hid (by rw [← hn]; exact HC9.out)
  clear hn hol
  go_loopw [21] (fun i wr => ∃ y : Int, i = .int .i64 (y + 1) ∧ 0 ≤ y ∧ (y + 1 ≤ n ∨ y = 0) ∧ Drawn0 w9 wr) (fun i _ => n - (intOf i).toNat)
  case atStart => exact ⟨0, rfl, Int.le_refl _, .inr rfl, Drawn0.refl _⟩
  case round =>
    obtain ⟨y, rfl, hx0, hx1, ⟨m1, rfl⟩⟩ := hrel
    by_cases hlt : y + 1 < n
    · have hy1 : y < n := by omega
      have hy2 : y ≤ 1048577 := by omega
      have hw1 : wrap64 (y + 1 - 1) = y := by unfold wrap64; omega
      obtain ⟨ad, e1, hcp⟩ := Kd.at_string HC9'.out y hx0 hy1
      cases e1
      obtain ⟨ad2, e2, hcq⟩ := Kd.at_string HC9'.out (y + 1) (by omega) hlt
      cases e2
      have hlr := rising_rd HR.out (i := y) (j := y + 1) hx0 (by omega) (by rw [HN.out]; exact hlt)
      generalize rdOf ByteArray.empty os y = p at hcp hlr
      generalize rdOf ByteArray.empty os (y + 1) = q at hcq hlr
      have hless := less_yes hlr
      clear hlr
      go_wp2
      go_quiet (fail)
      go_wp2
      go_roundw
      case rel => exact ⟨y + 1, by go_num, by omega, .inl (by omega), Drawn0.step (Drawn0.refl _) _⟩
      case measure => simp [intOf]; omega
    · have HB := Lib.hid (pw_below_drewN HB.out m1)
      go_wp2_with (first
        | (go_at_call 24; with_reducible refine (hy1 _ (HM.out.below HB.out)).mono ?_; rintro en wx ⟨rfl, hbx⟩; have HB := Lib.hid (HB.out.trans (hbx.mono HB.out.size)); clear hbx)
        | (go_at_call 24; with_reducible refine (hy2 _ (HM.out.below HB.out)).mono ?_; rintro en wx ⟨rfl, hbx⟩; have HB := Lib.hid (HB.out.trans (hbx.mono HB.out.size)); clear hbx)
        | (go_at_call 30; with_reducible refine (hv1 _ (HM.out.below HB.out)).mono ?_; rintro en wx ⟨rfl, hbx⟩; have HB := Lib.hid (HB.out.trans (hbx.mono HB.out.size)); clear hbx)
        | (go_at_call 30; with_reducible refine (hv2 _ (HM.out.below HB.out)).mono ?_; rintro en wx ⟨rfl, hbx⟩; have HB := Lib.hid (HB.out.trans (hbx.mono HB.out.size)); clear hbx))
      go_ret
      exact ⟨rfl, HB.out⟩
theorem attrCanonical_walk (s : ByteArray) (w : World) (hs : s.size ≤ 1048576) (hM : MaxAt w) :
    Calls Tryd.prog 13 #[.string s] w fun en w' => en = .returned (.bool true) ∧ Below w.heap.size w w' := by
  cases h : acc false begins (nb s) with
  | false => exact attrCanonical_no s w hs hM h
  | true => exact attrCanonical_ok s w hs hM h
end Go.Proofs.YtdonopoijbokiaaDoor
