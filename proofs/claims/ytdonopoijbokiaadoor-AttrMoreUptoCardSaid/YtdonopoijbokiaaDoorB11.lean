/- attr.has, rosterref04.in, rosterlaw04.in, rosterref04.within; attr.Covers and rosterref04.Covers: what they answer. -/
import Derived.Test.YtdonopoijbokiaaDoorB10
import Derived.Deep.RegionWith
set_option linter.unusedVariables false
set_option linter.unusedSimpArgs false
namespace Go.Proofs.YtdonopoijbokiaaDoor
open Go.RowKit Go.Proofs.YtdonopoijbokiaaDoorW.PrintWords

/-- Does the text stand in the list? -/
def memB (s : ByteArray) (xs : List ByteArray) : Bool := !(xs.all fun p => !decide (p = s))
theorem memB_yes {s : ByteArray} {xs : List ByteArray} {x : Int} (h0 : 0 ≤ x) (hx : x < xs.length) (h : rdOf ByteArray.empty xs x = s) : memB s xs = true := by
  rw [memB, list_not (f := fun p => !decide (p = s)) h0 hx (by simp [h])]
  rfl
theorem memB_no {s : ByteArray} {xs : List ByteArray} {x : Int} (h : ∀ y : Int, 0 ≤ y → y < x → (!decide (rdOf ByteArray.empty xs y = s)) = true) (hx : xs.length ≤ x) : memB s xs = false := by
  rw [memB, list_all (f := fun p => !decide (p = s)) h hx]
  rfl
theorem memB_iff (s : ByteArray) (xs : List ByteArray) : memB s xs = true ↔ s ∈ xs := by
  rw [memB, Bool.not_eq_true', Bool.eq_false_iff, Ne, List.all_eq_true]
  constructor
  · intro h
    refine Classical.byContradiction fun hn => h fun p hp => ?_
    simp only [Bool.not_eq_true', decide_eq_false_iff_not]
    rintro rfl
    exact hn hp
  · intro h hn
    have := hn s h
    simp at this
theorem bytes_ne {p s : ByteArray} (h : p ≠ s) : (p.toList == s.toList) = false := by
  rw [Lib.toList_data, Lib.toList_data]
  exact beq_false_of_ne fun e => h (by cases p; cases s; simp at e; rw [e])

set_option maxRecDepth 100000 in
set_option maxHeartbeats 1000000 in
theorem has_any (A : Option Addr) (c n : Nat) (xs : List ByteArray) (s : ByteArray) (w : World) (hn : xs.length = n) (hl : n ≤ 4294967296) (hC : Kd.C Kd.string w A n xs) :
    Calls Tryd.prog 54 #[.slice A n c, .string s] w fun e w' => e = .returned (.bool (memB s xs)) ∧ w' = w := by
  have HC := Lib.hid hC
  have HN := Lib.hid hn
  clear hC hn
  go_enter Tryd.func54, Tryd.ntmps54
  go_wp2
  go_loop [9] (fun i => ∃ x : Int, i = .int .i64 x ∧ 0 ≤ x ∧ x ≤ n ∧ Hid (∀ y : Int, 0 ≤ y → y < x → (!decide (rdOf ByteArray.empty xs y = s)) = true)) (fun i => n - (intOf i).toNat)
  case atStart => exact ⟨0, rfl, Int.le_refl _, by omega, Lib.hid (fun y _ _ => by omega)⟩
  case round =>
    obtain ⟨x, rfl, hx0, hx1, HA⟩ := hrel
    by_cases hlt : x < n
    · obtain ⟨ad, e1, hp⟩ := Kd.at_string HC.out x hx0 hlt
      cases e1
      obtain ⟨p, hpp⟩ : ∃ p, rdOf ByteArray.empty xs x = p := ⟨_, rfl⟩
      rw [hpp] at hp
      have HP := Lib.hid hpp
      clear hpp
      by_cases e : p = s
      · subst e
        go_wp2
        go_ret
        exact ⟨by rw [memB_yes hx0 (by rw [HN.out]; exact hlt) HP.out]; rfl, rfl⟩
      · have hne := bytes_ne e
        have HE := Lib.hid e
        clear e
        go_wp2
        go_round
        case rel => exact ⟨x + 1, by go_num, by omega, by omega, Lib.hid (upto_list (f := fun p => !decide (p = s)) (b := 0) HA.out (by rw [HP.out]; simpa using HE.out))⟩
        case measure => simp [intOf]; omega
    · go_wp2
      go_ret
      exact ⟨by rw [memB_no HA.out (by rw [HN.out]; omega)]; rfl, rfl⟩
set_option maxRecDepth 100000 in
set_option maxHeartbeats 1000000 in
theorem refIn_any (A : Option Addr) (c n : Nat) (xs : List ByteArray) (s : ByteArray) (w : World) (hn : xs.length = n) (hl : n ≤ 4294967296) (hC : Kd.C Kd.string w A n xs) :
    Calls Tryd.prog 55 #[.string s, .slice A n c] w fun e w' => e = .returned (.bool (memB s xs)) ∧ w' = w := by
  have HC := Lib.hid hC
  have HN := Lib.hid hn
  clear hC hn
  go_enter Tryd.func55, Tryd.ntmps55
  go_wp2
  go_loop [5] (fun i => ∃ x : Int, i = .int .i64 x ∧ 0 ≤ x ∧ x ≤ n ∧ Hid (∀ y : Int, 0 ≤ y → y < x → (!decide (rdOf ByteArray.empty xs y = s)) = true)) (fun i => n - (intOf i).toNat)
  case atStart => exact ⟨0, rfl, Int.le_refl _, by omega, Lib.hid (fun y _ _ => by omega)⟩
  case round =>
    obtain ⟨x, rfl, hx0, hx1, HA⟩ := hrel
    by_cases hlt : x < n
    · obtain ⟨ad, e1, hp⟩ := Kd.at_string HC.out x hx0 hlt
      cases e1
      obtain ⟨p, hpp⟩ : ∃ p, rdOf ByteArray.empty xs x = p := ⟨_, rfl⟩
      rw [hpp] at hp
      have HP := Lib.hid hpp
      clear hpp
      by_cases e : p = s
      · subst e
        go_wp2
        go_ret
        exact ⟨by rw [memB_yes hx0 (by rw [HN.out]; exact hlt) HP.out]; rfl, rfl⟩
      · have hne := bytes_ne e
        have HE := Lib.hid e
        clear e
        go_wp2
        go_round
        case rel => exact ⟨x + 1, by go_num, by omega, by omega, Lib.hid (upto_list (f := fun p => !decide (p = s)) (b := 0) HA.out (by rw [HP.out]; simpa using HE.out))⟩
        case measure => simp [intOf]; omega
    · go_wp2
      go_ret
      exact ⟨by rw [memB_no HA.out (by rw [HN.out]; omega)]; rfl, rfl⟩
set_option maxRecDepth 100000 in
set_option maxHeartbeats 1000000 in
theorem lawIn_any (A : Option Addr) (c n : Nat) (xs : List ByteArray) (s : ByteArray) (w : World) (hn : xs.length = n) (hl : n ≤ 4294967296) (hC : Kd.C Kd.string w A n xs) :
    Calls Tryd.prog 37 #[.string s, .slice A n c] w fun e w' => e = .returned (.bool (memB s xs)) ∧ w' = w := by
  have HC := Lib.hid hC
  have HN := Lib.hid hn
  clear hC hn
  go_enter Tryd.func37, Tryd.ntmps37
  go_wp2
  go_loop [5] (fun i => ∃ x : Int, i = .int .i64 x ∧ 0 ≤ x ∧ x ≤ n ∧ Hid (∀ y : Int, 0 ≤ y → y < x → (!decide (rdOf ByteArray.empty xs y = s)) = true)) (fun i => n - (intOf i).toNat)
  case atStart => exact ⟨0, rfl, Int.le_refl _, by omega, Lib.hid (fun y _ _ => by omega)⟩
  case round =>
    obtain ⟨x, rfl, hx0, hx1, HA⟩ := hrel
    by_cases hlt : x < n
    · obtain ⟨ad, e1, hp⟩ := Kd.at_string HC.out x hx0 hlt
      cases e1
      obtain ⟨p, hpp⟩ : ∃ p, rdOf ByteArray.empty xs x = p := ⟨_, rfl⟩
      rw [hpp] at hp
      have HP := Lib.hid hpp
      clear hpp
      by_cases e : p = s
      · subst e
        go_wp2
        go_ret
        exact ⟨by rw [memB_yes hx0 (by rw [HN.out]; exact hlt) HP.out]; rfl, rfl⟩
      · have hne := bytes_ne e
        have HE := Lib.hid e
        clear e
        go_wp2
        go_round
        case rel => exact ⟨x + 1, by go_num, by omega, by omega, Lib.hid (upto_list (f := fun p => !decide (p = s)) (b := 0) HA.out (by rw [HP.out]; simpa using HE.out))⟩
        case measure => simp [intOf]; omega
    · go_wp2
      go_ret
      exact ⟨by rw [memB_no HA.out (by rw [HN.out]; omega)]; rfl, rfl⟩

/-! ### within, of rising lists -/
def withinB (xs ys : List ByteArray) : Bool := xs.all fun p => memB p ys
def Rising (xs : List ByteArray) : Prop := (xs.map tl).Pairwise (· < ·)
theorem rising_optB (s : ByteArray) : Rising (optB s) := by
  have h0 : optB s = (optsU (optTexts (partsB s 59))).map mkB := rfl
  rw [Rising, h0, map_tl_mkB]
  exact rising_optsU _
theorem rising_rd {xs : List ByteArray} (h : Rising xs) {i j : Int} (h0 : 0 ≤ i) (hij : i < j) (hj : j < xs.length) : tl (rdOf ByteArray.empty xs i) < tl (rdOf ByteArray.empty xs j) := by
  have := List.pairwise_iff_getElem.1 h i.toNat j.toNat (by rw [List.length_map]; omega) (by rw [List.length_map]; omega) (by omega)
  rw [List.getElem_map, List.getElem_map] at this
  rw [rdOf, rdOf, List.getD_eq_getElem?_getD, List.getElem?_eq_getElem (by omega), List.getD_eq_getElem?_getD, List.getElem?_eq_getElem (by omega)]
  exact this
theorem tl_ne {p q : ByteArray} (h : tl p < tl q) : p ≠ q := fun e => by rw [e] at h; exact lt_irr _ h
/-- Not there: what stands ahead of y is less, and at y (if anything) something else that isn't less. -/
theorem within_no {xs ys : List ByteArray} (hy : Rising ys) {x y : Int} (hx0 : 0 ≤ x) (hx : x < xs.length) (hy0 : 0 ≤ y) (h1 : ∀ k : Int, 0 ≤ k → k < y → tl (rdOf ByteArray.empty ys k) < tl (rdOf ByteArray.empty xs x))
    (h2 : y < ys.length → ¬ tl (rdOf ByteArray.empty ys y) < tl (rdOf ByteArray.empty xs x) ∧ rdOf ByteArray.empty ys y ≠ rdOf ByteArray.empty xs x) : withinB xs ys = false := by
  refine list_not (f := fun p => memB p ys) hx0 hx (memB_no (x := ys.length) (fun k k0 k1 => ?_) (Int.le_refl _))
  simp only [Bool.not_eq_true', decide_eq_false_iff_not]
  intro e
  by_cases hk : k < y
  · exact tl_ne (h1 k k0 hk) e
  · obtain ⟨a, b⟩ := h2 (by omega)
    by_cases hky : k = y
    · rw [hky] at e
      exact b e
    · have h3 := rising_rd hy hy0 (show y < k by omega) k1
      rw [e] at h3
      exact a h3

theorem within_step {xs ys : List ByteArray} {n x y : Int} (hx : Rising xs) (hn : n ≤ xs.length) (h : ∀ k z : Int, 0 ≤ k → k < y → x ≤ z → z < n → tl (rdOf ByteArray.empty ys k) < tl (rdOf ByteArray.empty xs z)) (h0 : 0 ≤ x) (hl : tl (rdOf ByteArray.empty ys y) < tl (rdOf ByteArray.empty xs x)) :
    ∀ k z : Int, 0 ≤ k → k < y + 1 → x ≤ z → z < n → tl (rdOf ByteArray.empty ys k) < tl (rdOf ByteArray.empty xs z) := fun k z k0 k1 z0 z1 => by
  by_cases e : k = y
  · rw [e]
    by_cases e2 : z = x
    · rw [e2]; exact hl
    · exact List.lt_trans hl (rising_rd hx h0 (by omega) (by omega))
  · exact h k z k0 (by omega) z0 z1

set_option maxRecDepth 100000 in
set_option maxHeartbeats 2000000 in
theorem within_any (A B : Option Addr) (c d n m : Nat) (xs ys : List ByteArray) (w : World) (hn : xs.length = n) (hm : ys.length = m) (hnl : n ≤ 4294967296) (hml : m ≤ 4294967296) (hrx : Rising xs) (hry : Rising ys) (hC : Kd.C Kd.string w A n xs) (hD : Kd.C Kd.string w B m ys) :
    Calls Tryd.prog 56 #[.slice A n c, .slice B m d] w fun e w' => e = .returned (.bool (withinB xs ys)) ∧ Drawn0 w w' := by
  have HC := Lib.hid hC
  have HD := Lib.hid hD
  have HN := Lib.hid hn
  have HM := Lib.hid hm
  have HX := Lib.hid hrx
  have HY := Lib.hid hry
  clear hC hD hn hm hrx hry
  go_enter Tryd.func56, Tryd.ntmps56
  go_wp2
  go_loopw [5, 6] (fun j i wr => ∃ x y : Int, i = .int .i64 x ∧ j = .int .i64 y ∧ 0 ≤ x ∧ x ≤ n ∧ 0 ≤ y ∧ y ≤ m ∧ Hid (∀ z : Int, 0 ≤ z → z < x → memB (rdOf ByteArray.empty xs z) ys = true) ∧ Hid (∀ k z : Int, 0 ≤ k → k < y → x ≤ z → z < n → tl (rdOf ByteArray.empty ys k) < tl (rdOf ByteArray.empty xs z)) ∧ Drawn0 w wr) (fun _ i _ => n - (intOf i).toNat)
  case atStart => exact ⟨0, 0, rfl, rfl, Int.le_refl _, by omega, Int.le_refl _, by omega, Lib.hid (fun z _ _ => by omega), Lib.hid (fun k z _ _ => by omega), Drawn0.refl _⟩
  case round =>
    obtain ⟨x, y, rfl, rfl, hx0, hx1, hy0, hy1, HA, HB, ⟨m0, rfl⟩⟩ := hrel
    by_cases hlt : x < n
    · obtain ⟨ad1, e1, hp1⟩ := Kd.at_string HC.out x hx0 hlt
      cases e1
      obtain ⟨p, hpp⟩ : ∃ p, rdOf ByteArray.empty xs x = p := ⟨_, rfl⟩
      rw [hpp] at hp1
      have HP := Lib.hid hpp
      clear hpp
      go_wp2
      go_loopw [5] (fun j wr => ∃ y : Int, j = .int .i64 y ∧ 0 ≤ y ∧ y ≤ m ∧ Hid (∀ k z : Int, 0 ≤ k → k < y → x ≤ z → z < n → tl (rdOf ByteArray.empty ys k) < tl (rdOf ByteArray.empty xs z)) ∧ Drawn0 w wr) (fun j _ => m - (intOf j).toNat)
      case atStart => exact ⟨y, rfl, hy0, hy1, HB, Drawn0.step (Drawn0.refl _) _⟩
      case round =>
        clear HB hy0 hy1
        obtain ⟨y, rfl, hy0, hy1, HB, ⟨m1, rfl⟩⟩ := hrel
        by_cases hy : y < m
        · obtain ⟨ad2, e2, hp2⟩ := Kd.at_string HD.out y hy0 hy
          cases e2
          obtain ⟨q, hqq⟩ : ∃ q, rdOf ByteArray.empty ys y = q := ⟨_, rfl⟩
          rw [hqq] at hp2
          have HQ := Lib.hid hqq
          have hyn : (y == (m : Int)) = false := beq_false_of_ne (by omega)
          clear hqq
          by_cases hl : tl q < tl p
          · have HL := Lib.hid hl
            have hless := less_yes hl
            clear hl
            go_wp2
            go_quiet (fail)
            go_wp2
            go_roundw
            case rel => exact ⟨y + 1, by go_num, by omega, by omega, Lib.hid (within_step HX.out (by rw [HN.out]; exact Int.le_refl _) HB.out hx0 (by rw [HP.out, HQ.out]; exact HL.out)), Drawn0.step (Drawn0.refl _) _⟩
            case measure => simp [intOf]; omega
          · have HL := Lib.hid hl
            have hless := less_no hl
            clear hl
            by_cases e : q = p
            · subst e
              go_wp2
              go_quiet (fail)
              go_wp2
              go_quiet (fail)
              go_wp2
              go_roundw
              case rel => exact ⟨x + 1, y, by go_num, rfl, by omega, by omega, hy0, hy1, Lib.hid (upto_list (f := fun p => memB p ys) (b := 0) HA.out (by rw [HP.out]; exact memB_yes hy0 (by rw [HM.out]; exact hy) HQ.out)), Lib.hid (fun k z k0 k1 z0 z1 => HB.out k z k0 k1 (by omega) z1), Drawn0.step (Drawn0.refl _) _⟩
              case measure => simp [intOf]; omega
            · have hne := bytes_ne e
              have HE := Lib.hid e
              clear e
              go_wp2
              go_quiet (fail)
              go_wp2
              go_quiet (fail)
              go_wp2
              go_ret
              exact ⟨by rw [within_no HY.out hx0 (by rw [HN.out]; exact hlt) hy0 (fun k k0 k1 => HB.out k x k0 k1 (Int.le_refl _) hlt) (fun _ => by rw [HP.out, HQ.out]; exact ⟨HL.out, HE.out⟩)]; rfl, by repeat (first | exact Drawn0.refl _ | exact Drawn0.step (Drawn0.refl _) _ | refine Drawn0.step ?_ _)⟩
        · have hyd : decide (y < (m : Int)) = false := decide_eq_false hy
          have hyn : (y == (m : Int)) = true := beq_iff_eq.2 (by omega)
          go_wp2
          go_quiet (fail)
          go_wp2
          go_quiet (fail)
          go_wp2
          go_ret
          exact ⟨by rw [within_no HY.out hx0 (by rw [HN.out]; exact hlt) hy0 (fun k k0 k1 => HB.out k x k0 k1 (Int.le_refl _) hlt) (fun h => absurd h (by rw [HM.out]; omega))]; rfl, by repeat (first | exact Drawn0.refl _ | exact Drawn0.step (Drawn0.refl _) _ | refine Drawn0.step ?_ _)⟩
    · go_wp2
      go_ret
      exact ⟨by rw [withinB, list_all (f := fun p => memB p ys) HA.out (by rw [HN.out]; omega)]; rfl, by repeat (first | exact Drawn0.refl _ | exact Drawn0.step (Drawn0.refl _) _ | refine Drawn0.step ?_ _)⟩
end Go.Proofs.YtdonopoijbokiaaDoor
