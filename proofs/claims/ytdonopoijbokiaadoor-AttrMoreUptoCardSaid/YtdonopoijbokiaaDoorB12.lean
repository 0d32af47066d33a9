/- attr.Covers and rosterref04.Covers: what they answer. -/
import Derived.Test.YtdonopoijbokiaaDoorB11
import Derived.Deep.RegionHeld3
set_option linter.unusedVariables false
set_option linter.unusedSimpArgs false
namespace Go.Proofs.YtdonopoijbokiaaDoor
open Go.RowKit Go.Proofs.YtdonopoijbokiaaDoorW.PrintWords

noncomputable def coversB (d e : ByteArray) : Bool := acc false begins (nb d) && acc false begins (nb e) && (memB (typeB d) (supersB (typeB e)) && withinB (optB d) (optB e))
theorem covers_no1 {d e : ByteArray} (h : acc false begins (nb d) = false) : coversB d e = false := by rw [coversB, h]; rfl
theorem covers_no2 {d e : ByteArray} (h : acc false begins (nb e) = false) : coversB d e = false := by rw [coversB, h]; simp
theorem covers_ok {d e : ByteArray} (h : acc false begins (nb d) = true) (h' : acc false begins (nb e) = true) : coversB d e = (memB (typeB d) (supersB (typeB e)) && withinB (optB d) (optB e)) := by rw [coversB, h, h']; rfl

theorem first_C {w : World} {A : Option Addr} {n m : Nat} {xs : List ByteArray} (h : Kd.C Kd.string w A n xs) : Kd.C Kd.string (w.drewN m) A n xs := Kd.C_below h (pw_below_drewN (Below.refl _ _) m)
theorem C_of_Rn {w : World} {base e n : Nat} {ok : Nat → Prop} {A : Option Addr} {c : Nat} {xs : List ByteArray} (hn : xs.length = n) (h : Kd.R Kd.string e w base ok (.slice A n c) xs) : Kd.C Kd.string w A n xs := by
  subst hn
  exact C_of_R h

set_option maxRecDepth 100000 in
set_option maxHeartbeats 1000000 in
theorem covers_any (d e : ByteArray) (w : World) (hd : d.size ≤ 1073741824) (he : e.size ≤ 1073741824) (hM : MaxAt w) :
    Calls Tryd.prog 30 #[.string d, .string e] w fun en w' => en = .returned (.bool (coversB d e)) ∧ Below w.heap.size w w' := by
  have HM := Lib.hid hM
  clear hM
  obtain ⟨bd, hbd⟩ : ∃ b, acc false begins (nb d) = b := ⟨_, rfl⟩
  obtain ⟨be, hbe⟩ : ∃ b, acc false begins (nb e) = b := ⟨_, rfl⟩
  cases bd
  · rw [covers_no1 hbd]
    have hp := fun w => parse_no d w (by omega) hbd
    clear hbd
    cases be
    · have hq := fun w => parse_no e w (by omega) hbe
      clear hbe
      go_enter Tryd.func30, Tryd.ntmps30
      go_wp2_with (first
        | (go_at_call 22; with_reducible refine (hq _).mono ?_; rintro en w2 ⟨rfl, hb2⟩; have HB2 := Lib.hid (HB1.out.trans (hb2.mono HB1.out.size)))
        | (go_at_call 22; refine (hp _).mono ?_; rintro en w1 ⟨rfl, hb1⟩; have HB1 := Lib.hid (hb1.alloc hb1.size (.cells #[.string ⟨#[]⟩, .slice none 0 0] 40))))
      go_quiet (fail)
      go_wp2
      go_ret
      exact ⟨rfl, by repeat (first | exact HB2.out.alloc HB2.out.size _ | refine pw_below_drewN ?_ _)⟩
    · have hq := fun w hM => parse_ok e w (by omega) hM hbe
      clear hbe
      go_enter Tryd.func30, Tryd.ntmps30
      go_wp2_with (first
        | (go_at_call 22; with_reducible refine (hq _ (HM.out.below HB1.out)).mono ?_; rintro en w2 ⟨A2, c2, rfl, -, hb2⟩; have HB2 := Lib.hid (HB1.out.trans (hb2.mono HB1.out.size)))
        | (go_at_call 22; refine (hp _).mono ?_; rintro en w1 ⟨rfl, hb1⟩; have HB1 := Lib.hid (hb1.alloc hb1.size (.cells #[.string ⟨#[]⟩, .slice none 0 0] 40))))
      go_quiet (fail)
      go_wp2
      go_ret
      exact ⟨rfl, by repeat (first | exact HB2.out.alloc HB2.out.size _ | refine pw_below_drewN ?_ _)⟩
  · have hp := fun w hM => parse_ok d w (by omega) hM hbd
    cases be
    · rw [covers_no2 hbe]
      have hq := fun w => parse_no e w (by omega) hbe
      clear hbe hbd
      go_enter Tryd.func30, Tryd.ntmps30
      go_wp2_with (first
        | (go_at_call 22; with_reducible refine (hq _).mono ?_; rintro en w2 ⟨rfl, hb2⟩; have HB2 := Lib.hid (HB1.out.trans (hb2.mono HB1.out.size)))
        | (go_at_call 22; refine (hp _ HM.out).mono ?_; rintro en w1 ⟨A1, c1, rfl, -, hb1⟩; have HB1 := Lib.hid (hb1.alloc hb1.size (.cells #[.string (typeB d), .slice A1 (optB d).length c1] 40))))
      go_quiet (fail)
      go_wp2
      go_ret
      exact ⟨rfl, by repeat (first | exact HB2.out.alloc HB2.out.size _ | refine pw_below_drewN ?_ _)⟩
    · rw [covers_ok hbd hbe]
      have hq := fun w hM => parse_ok e w (by omega) hM hbe
      clear hbe hbd
      have hld := optB_length d
      have hle := optB_length e
      have hls := supersB_length (typeB e)
      have hts := typeB_size e
      obtain ⟨od, hod⟩ : ∃ od, optB d = od := ⟨_, rfl⟩
      obtain ⟨oe, hoe⟩ : ∃ oe, optB e = oe := ⟨_, rfl⟩
      obtain ⟨td, htd⟩ : ∃ td, typeB d = td := ⟨_, rfl⟩
      obtain ⟨te, hte⟩ : ∃ te, typeB e = te := ⟨_, rfl⟩
      obtain ⟨sup, hsup⟩ : ∃ sup, supersB te = sup := ⟨_, rfl⟩
      rw [hod, htd] at hp
      rw [hoe, hte] at hq
      rw [hod, hoe, htd, hte, hsup]
      rw [hod] at hld
      rw [hoe] at hle
      rw [hte, hsup] at hls
      rw [hte] at hts
      have hsu := fun w => supers_any te w (by omega)
      rw [hsup] at hsu
      clear hod hoe htd hte hsup
      obtain ⟨n, hn⟩ : ∃ n, od.length = n := ⟨_, rfl⟩
      obtain ⟨m, hm⟩ : ∃ m, oe.length = m := ⟨_, rfl⟩
      obtain ⟨k, hk⟩ : ∃ k, sup.length = k := ⟨_, rfl⟩
      rw [hn] at hp hld
      rw [hm] at hq hle
      rw [hk] at hls
      obtain ⟨bm, hbm⟩ : ∃ b, memB td sup = b := ⟨_, rfl⟩
      have HBM := Lib.hid hbm
      rw [hbm]
      clear hbm
      have hA : ∀ (A1 A2 : Option Addr) (c1 c2 : Nat) (w1 w2 : World), Below (w1.alloc (.cells #[.string td, .slice A1 n c1] 40)).heap.size (w1.alloc (.cells #[.string td, .slice A1 n c1] 40)) w2 → (w2.alloc (.cells #[.string te, .slice A2 m c2] 40)).heap[w1.heap.size]? = some (.cells #[.string td, .slice A1 n c1] 40 (0, 0)) := fun A1 A2 c1 c2 w1 w2 hb2 => (((Below.refl w2.heap.size w2).alloc (Nat.le_refl _) _).block w1.heap.size (by have := hb2.size; simp at this; omega)).trans (newKept hb2)
      go_enter Tryd.func30, Tryd.ntmps30
      go_wp2_with (first
        | (go_at_call 22; with_reducible refine (hq _ (HM.out.below HB1.out)).mono ?_; rintro en w2 ⟨A2, c2, rfl, hR2, hb2⟩; have HD0 := Lib.hid (hA A1 A2 c1 c2 w1 w2 hb2); have hd0 := HD0.out; obtain ⟨⟨q0, q1⟩, qf⟩ := cells2 hd0; have HC1 := Lib.hid (Kd.C_below (Kd.C_below (Kd.C_below HC0.out ((Below.refl _ w1).alloc (Nat.le_refl _) _)) hb2) ((Below.refl _ w2).alloc (Nat.le_refl _) (.cells #[.string te, .slice A2 m c2] 40))); have HC2 := Lib.hid (Kd.C_below (C_of_Rn hm hR2) ((Below.refl _ w2).alloc (Nat.le_refl _) (.cells #[.string te, .slice A2 m c2] 40))); have HB2 := Lib.hid ((HB1.out.trans (hb2.mono HB1.out.size)).alloc (HB1.out.trans (hb2.mono HB1.out.size)).size (.cells #[.string te, .slice A2 m c2] 40)); clear hR2 hb2 hd0)
        | (go_at_call 22; refine (hp _ HM.out).mono ?_; rintro en w1 ⟨A1, c1, rfl, hR1, hb1⟩; have HC0 := Lib.hid (C_of_Rn hn hR1); have HB1 := Lib.hid (hb1.alloc hb1.size (.cells #[.string td, .slice A1 n c1] 40)); clear hR1 hb1))
      have hd0 := HD0.out
      have hd1 := heap_alloc_new w2 (.cells #[.string te, .slice A2 m c2] 40)
      obtain ⟨⟨q0, q1⟩, qf⟩ := cells2 hd0
      obtain ⟨⟨r0, r1⟩, rf⟩ := cells2 hd1
      go_region_held3 (fun w' => w'.cell? ⟨w2.heap.size, 0, none⟩ = some (.string te) ∧ w'.cell? ⟨w1.heap.size, 0, none⟩ = some (.string td)) (first | exact ⟨r0, q0⟩ | exact ⟨t0, s0⟩ | assumption | go_keep) (first
        | (go_at_call 54; refine (has_any A3 c3 k sup td _ hk (by omega) HC3.out).mono ?_; rw [HBM.out]; rintro en w4 ⟨rfl, rfl⟩)
        | (go_at_call 27; refine (hsu _).mono ?_; rintro en w3 ⟨v3, rfl, hR3, hb3⟩; obtain ⟨A3, c3, rfl, _, hC3⟩ := Kd.R_reads hR3; rw [hk] at hC3 ⊢; have HC3 := Lib.hid hC3; have HB3 := Lib.hid hb3; have hd3 := (hb3.block w1.heap.size (Array.getElem?_eq_some_iff.1 hd0).1).trans hd0; have hd4 := (hb3.block w2.heap.size (Array.getElem?_eq_some_iff.1 hd1).1).trans hd1; obtain ⟨⟨s0, s1⟩, sf⟩ := cells2 hd3; obtain ⟨⟨t0, t1⟩, tf⟩ := cells2 hd4; clear hR3 hC3 hb3 hd3 hd4))
      have HBW := Lib.hid ((below_drew HB2.out).trans (HB3.out.mono (below_drew HB2.out).size))
      have HO1 := Lib.hid (Kd.C_below (Kd.C_below HC1.out (below_drew (Below.refl _ _))) HB3.out)
      have HO2 := Lib.hid (Kd.C_below (Kd.C_below HC2.out (below_drew (Below.refl _ _))) HB3.out)
      clear hA hp hq hsu hd0 hd1
      cases bm
      · simp only [Bool.not_false]
        go_wp2
        go_ret
        exact ⟨rfl, HBW.out⟩
      · simp only [Bool.not_true]
        go_wp2
        go_loopw [43] (fun i wr => wr = w4 ∧ ∃ x : Int, i = .int .i64 x ∧ 0 ≤ x ∧ x ≤ n ∧ Hid (∀ y : Int, 0 ≤ y → y < x → memB (rdOf ByteArray.empty od y) oe = true)) (fun i _ => n - (intOf i).toNat)
        case atStart => exact ⟨rfl, 0, rfl, Int.le_refl _, by omega, Lib.hid (fun y _ _ => by omega)⟩
        case round =>
          obtain ⟨rfl, x, rfl, hx0, hx1, HA⟩ := hrel
          by_cases hlt : x < n
          · obtain ⟨ad, e1, hp1⟩ := Kd.at_string HO1.out x hx0 hlt
            cases e1
            obtain ⟨p, hpp⟩ : ∃ p, rdOf ByteArray.empty od x = p := ⟨_, rfl⟩
            rw [hpp] at hp1
            have HP := Lib.hid hpp
            clear hpp
            obtain ⟨bo, hbo⟩ : ∃ b, memB p oe = b := ⟨_, rfl⟩
            have HBO := Lib.hid hbo
            clear hbo
            cases bo
            · go_wp2_with (go_at_call 54; refine (has_any A2 c2 m oe p _ hm (by omega) HO2.out).mono ?_; rw [HBO.out]; rintro en w5 ⟨rfl, rfl⟩)
              go_ret
              exact ⟨by rw [show withinB od oe = false from list_not (f := fun p => memB p oe) hx0 (by rw [hn]; exact hlt) (by rw [HP.out]; exact HBO.out)]; rfl, HBW.out⟩
            · go_wp2_with (go_at_call 54; refine (has_any A2 c2 m oe p _ hm (by omega) HO2.out).mono ?_; rw [HBO.out]; rintro en w5 ⟨rfl, rfl⟩)
              go_roundw
              case rel => exact ⟨trivial, x + 1, by go_num, by omega, by omega, Lib.hid (upto_list (f := fun p => memB p oe) (b := 0) HA.out (by rw [HP.out]; exact HBO.out))⟩
              case measure => simp [intOf]; omega
          · go_wp2
            go_ret
            exact ⟨by rw [show withinB od oe = true from list_all (f := fun p => memB p oe) HA.out (by rw [hn]; omega)]; rfl, HBW.out⟩

set_option maxRecDepth 100000 in
set_option maxHeartbeats 1000000 in
theorem refCovers_any (d e : ByteArray) (w : World) (hd : d.size ≤ 1073741824) (he : e.size ≤ 1073741824) (hG : KindsAt w) :
    Calls Tryd.prog 31 #[.string d, .string e] w fun en w' => en = .returned (.bool (coversB d e)) ∧ Below w.heap.size w w' := by
  have HG := Lib.hid hG
  clear hG
  obtain ⟨bd, hbd⟩ : ∃ b, acc false begins (nb d) = b := ⟨_, rfl⟩
  obtain ⟨be, hbe⟩ : ∃ b, acc false begins (nb e) = b := ⟨_, rfl⟩
  cases bd
  · rw [covers_no1 hbd]
    have hp := fun w => refParse_no d w (by omega) hbd
    clear hbd
    cases be
    · have hq := fun w => refParse_no e w (by omega) hbe
      clear hbe
      go_enter Tryd.func31, Tryd.ntmps31
      go_wp2_with (first
        | (go_at_call 51; with_reducible refine (hq _).mono ?_; rintro en w2 ⟨rfl, hb2⟩; have HB2 := Lib.hid (HB1.out.trans (hb2.mono HB1.out.size)))
        | (go_at_call 51; refine (hp _).mono ?_; rintro en w1 ⟨rfl, hb1⟩; have HB1 := Lib.hid (hb1.alloc hb1.size (.cells #[.string ⟨#[]⟩, .slice none 0 0] 40))))
      go_ret
      exact ⟨rfl, by repeat (first | exact HB2.out.alloc HB2.out.size _ | refine pw_below_drewN ?_ _)⟩
    · have hq := fun w => refParse_ok e w (by omega) hbe
      clear hbe
      go_enter Tryd.func31, Tryd.ntmps31
      go_wp2_with (first
        | (go_at_call 51; with_reducible refine (hq _).mono ?_; rintro en w2 ⟨A2, c2, rfl, -, hb2⟩; have HB2 := Lib.hid (HB1.out.trans (hb2.mono HB1.out.size)))
        | (go_at_call 51; refine (hp _).mono ?_; rintro en w1 ⟨rfl, hb1⟩; have HB1 := Lib.hid (hb1.alloc hb1.size (.cells #[.string ⟨#[]⟩, .slice none 0 0] 40))))
      go_ret
      exact ⟨rfl, by repeat (first | exact HB2.out.alloc HB2.out.size _ | refine pw_below_drewN ?_ _)⟩
  · have hp := fun w => refParse_ok d w (by omega) hbd
    cases be
    · rw [covers_no2 hbe]
      have hq := fun w => refParse_no e w (by omega) hbe
      clear hbe hbd
      go_enter Tryd.func31, Tryd.ntmps31
      go_wp2_with (first
        | (go_at_call 51; with_reducible refine (hq _).mono ?_; rintro en w2 ⟨rfl, hb2⟩; have HB2 := Lib.hid (HB1.out.trans (hb2.mono HB1.out.size)))
        | (go_at_call 51; refine (hp _).mono ?_; rintro en w1 ⟨A1, c1, rfl, -, hb1⟩; have HB1 := Lib.hid (hb1.alloc hb1.size (.cells #[.string (typeB d), .slice A1 (optB d).length c1] 40))))
      go_ret
      exact ⟨rfl, by repeat (first | exact HB2.out.alloc HB2.out.size _ | refine pw_below_drewN ?_ _)⟩
    · rw [covers_ok hbd hbe]
      have hq := fun w => refParse_ok e w (by omega) hbe
      clear hbe hbd
      have hld := optB_length d
      have hle := optB_length e
      have hls := supersB_length (typeB e)
      have hts := typeB_size e
      obtain ⟨od, hod⟩ : ∃ od, optB d = od := ⟨_, rfl⟩
      obtain ⟨oe, hoe⟩ : ∃ oe, optB e = oe := ⟨_, rfl⟩
      obtain ⟨td, htd⟩ : ∃ td, typeB d = td := ⟨_, rfl⟩
      obtain ⟨te, hte⟩ : ∃ te, typeB e = te := ⟨_, rfl⟩
      obtain ⟨sup, hsup⟩ : ∃ sup, supersB te = sup := ⟨_, rfl⟩
      rw [hod, htd] at hp
      rw [hoe, hte] at hq
      rw [hod, hoe, htd, hte, hsup]
      rw [hod] at hld
      rw [hoe] at hle
      rw [hte, hsup] at hls
      rw [hte] at hts
      have hsu := fun w hG => refSupers_any te w (by omega) hG
      rw [hsup] at hsu
      have hrd := rising_optB d
      have hre := rising_optB e
      rw [hod] at hrd
      rw [hoe] at hre
      have HRD := Lib.hid hrd
      have HRE := Lib.hid hre
      clear hod hoe htd hte hsup hrd hre
      obtain ⟨n, hn⟩ : ∃ n, od.length = n := ⟨_, rfl⟩
      obtain ⟨m, hm⟩ : ∃ m, oe.length = m := ⟨_, rfl⟩
      obtain ⟨k, hk⟩ : ∃ k, sup.length = k := ⟨_, rfl⟩
      rw [hn] at hp hld
      rw [hm] at hq hle
      rw [hk] at hls
      obtain ⟨bm, hbm⟩ : ∃ b, memB td sup = b := ⟨_, rfl⟩
      have HBM := Lib.hid hbm
      rw [hbm]
      clear hbm
      have hA : ∀ (A1 A2 : Option Addr) (c1 c2 : Nat) (w1 w2 : World), Below (w1.alloc (.cells #[.string td, .slice A1 n c1] 40)).heap.size (w1.alloc (.cells #[.string td, .slice A1 n c1] 40)) w2 → (w2.alloc (.cells #[.string te, .slice A2 m c2] 40)).heap[w1.heap.size]? = some (.cells #[.string td, .slice A1 n c1] 40 (0, 0)) := fun A1 A2 c1 c2 w1 w2 hb2 => (((Below.refl w2.heap.size w2).alloc (Nat.le_refl _) _).block w1.heap.size (by have := hb2.size; simp at this; omega)).trans (newKept hb2)
      cases bm
      · skip
        go_enter Tryd.func31, Tryd.ntmps31
        go_wp2_with (first
          | (go_at_call 56; refine (within_any A1 A2 c1 c2 n m od oe _ hn hm (by omega) (by omega) HRD.out HRE.out HO1.out HO2.out).mono ?_; rintro en w5 ⟨rfl, hD⟩; have HD5 := Lib.hid hD.below; clear hD)
          | (go_at_call 55; refine (refIn_any A3 c3 k sup td _ hk (by omega) HC3.out).mono ?_; rw [HBM.out]; rintro en w4 ⟨rfl, rfl⟩)
          | (go_at_call 28; refine (hsu _ (HG.out.below HB2.out)).mono ?_; rintro en w3 ⟨v3, rfl, hR3, hb3⟩; obtain ⟨A3, c3, rfl, _, hC3⟩ := Kd.R_reads hR3; rw [hk] at hC3 ⊢; have HC3 := Lib.hid hC3; have hd3 := (hb3.block w1.heap.size (Array.getElem?_eq_some_iff.1 HD0.out).1).trans HD0.out; have hd4 := (hb3.block w2.heap.size (by simp)).trans (heap_alloc_new w2 _); obtain ⟨⟨s0, s1⟩, sf⟩ := cells2 hd3; obtain ⟨⟨t0, t1⟩, tf⟩ := cells2 hd4; have HO1 := Lib.hid (Kd.C_below HC1.out hb3); have HO2 := Lib.hid (Kd.C_below HC2.out hb3); have HB3 := Lib.hid (HB2.out.trans (hb3.mono HB2.out.size)); clear hR3 hC3 hb3 hd3 hd4)
          | (go_at_call 51; with_reducible refine (hq _).mono ?_; rintro en w2 ⟨A2, c2, rfl, hC2', hb2⟩; have HD0 := Lib.hid (hA A1 A2 c1 c2 w1 w2 hb2); have hd0 := heap_alloc_new w2 (.cells #[.string te, .slice A2 m c2] 40); obtain ⟨⟨q0, q1⟩, qf⟩ := cells2 hd0; have HC1 := Lib.hid (Kd.C_below (Kd.C_below (Kd.C_below HC0.out ((Below.refl _ w1).alloc (Nat.le_refl _) _)) hb2) ((Below.refl _ w2).alloc (Nat.le_refl _) (.cells #[.string te, .slice A2 m c2] 40))); have HC2 := Lib.hid (Kd.C_below hC2' ((Below.refl _ w2).alloc (Nat.le_refl _) (.cells #[.string te, .slice A2 m c2] 40))); have HB2 := Lib.hid ((HB1.out.trans (hb2.mono HB1.out.size)).alloc (HB1.out.trans (hb2.mono HB1.out.size)).size (.cells #[.string te, .slice A2 m c2] 40)); clear hC2' hb2 hd0)
          | (go_at_call 51; refine (hp _).mono ?_; rintro en w1 ⟨A1, c1, rfl, hC1', hb1⟩; have HC0 := Lib.hid hC1'; have HB1 := Lib.hid (hb1.alloc hb1.size (.cells #[.string td, .slice A1 n c1] 40)); clear hC1' hb1))
        go_ret
        exact ⟨rfl, HB3.out⟩
      · skip
        go_enter Tryd.func31, Tryd.ntmps31
        go_wp2_with (first
          | (go_at_call 56; refine (within_any A1 A2 c1 c2 n m od oe _ hn hm (by omega) (by omega) HRD.out HRE.out HO1.out HO2.out).mono ?_; rintro en w5 ⟨rfl, hD⟩; have HD5 := Lib.hid hD.below; clear hD)
          | (go_at_call 55; refine (refIn_any A3 c3 k sup td _ hk (by omega) HC3.out).mono ?_; rw [HBM.out]; rintro en w4 ⟨rfl, rfl⟩)
          | (go_at_call 28; refine (hsu _ (HG.out.below HB2.out)).mono ?_; rintro en w3 ⟨v3, rfl, hR3, hb3⟩; obtain ⟨A3, c3, rfl, _, hC3⟩ := Kd.R_reads hR3; rw [hk] at hC3 ⊢; have HC3 := Lib.hid hC3; have hd3 := (hb3.block w1.heap.size (Array.getElem?_eq_some_iff.1 HD0.out).1).trans HD0.out; have hd4 := (hb3.block w2.heap.size (by simp)).trans (heap_alloc_new w2 _); obtain ⟨⟨s0, s1⟩, sf⟩ := cells2 hd3; obtain ⟨⟨t0, t1⟩, tf⟩ := cells2 hd4; have HO1 := Lib.hid (Kd.C_below HC1.out hb3); have HO2 := Lib.hid (Kd.C_below HC2.out hb3); have HB3 := Lib.hid (HB2.out.trans (hb3.mono HB2.out.size)); clear hR3 hC3 hb3 hd3 hd4)
          | (go_at_call 51; with_reducible refine (hq _).mono ?_; rintro en w2 ⟨A2, c2, rfl, hC2', hb2⟩; have HD0 := Lib.hid (hA A1 A2 c1 c2 w1 w2 hb2); have hd0 := heap_alloc_new w2 (.cells #[.string te, .slice A2 m c2] 40); obtain ⟨⟨q0, q1⟩, qf⟩ := cells2 hd0; have HC1 := Lib.hid (Kd.C_below (Kd.C_below (Kd.C_below HC0.out ((Below.refl _ w1).alloc (Nat.le_refl _) _)) hb2) ((Below.refl _ w2).alloc (Nat.le_refl _) (.cells #[.string te, .slice A2 m c2] 40))); have HC2 := Lib.hid (Kd.C_below hC2' ((Below.refl _ w2).alloc (Nat.le_refl _) (.cells #[.string te, .slice A2 m c2] 40))); have HB2 := Lib.hid ((HB1.out.trans (hb2.mono HB1.out.size)).alloc (HB1.out.trans (hb2.mono HB1.out.size)).size (.cells #[.string te, .slice A2 m c2] 40)); clear hC2' hb2 hd0)
          | (go_at_call 51; refine (hp _).mono ?_; rintro en w1 ⟨A1, c1, rfl, hC1', hb1⟩; have HC0 := Lib.hid hC1'; have HB1 := Lib.hid (hb1.alloc hb1.size (.cells #[.string td, .slice A1 n c1] 40)); clear hC1' hb1))
        go_ret
        exact ⟨rfl, HB3.out.trans (HD5.out.mono HB3.out.size)⟩
end Go.Proofs.YtdonopoijbokiaaDoor
