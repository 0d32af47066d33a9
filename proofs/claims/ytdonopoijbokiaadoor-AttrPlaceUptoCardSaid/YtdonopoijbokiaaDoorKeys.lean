/- rosterref04.key, keys, number: what they answer. -/
import Derived.Test.YtdonopoijbokiaaDoorParts
namespace Go.Proofs.YtdonopoijbokiaaDoor
open Go.RowKit Go.Proofs.YtdonopoijbokiaaDoorW.PrintWords

theorem isKey_iff (c : Int) : isKey c = decide ((97 ≤ c ∧ c ≤ 122) ∨ (65 ≤ c ∧ c ≤ 90) ∨ (48 ≤ c ∧ c ≤ 57) ∨ c = 45) := by
  simp [isKey, isLetter, isDigit, Bool.or_assoc]
theorem isLetter_iff (c : Int) : isLetter c = decide ((97 ≤ c ∧ c ≤ 122) ∨ (65 ≤ c ∧ c ≤ 90)) := by simp [isLetter]
theorem isDigit_iff (c : Int) : isDigit c = decide (48 ≤ c ∧ c ≤ 57) := by simp [isDigit]
theorem toList_empty (s : ByteArray) : s.toList.isEmpty = decide (s.size = 0) := by
  rw [Lib.toList_data, show s.size = s.data.toList.length from Array.length_toList.symm]
  cases s.data.toList <;> simp
set_option maxRecDepth 100000 in
theorem keyR_any (c : Int) (w : World) : Calls Tryd.prog 102 #[.int .u8 c] w fun e w' => e = .returned (.bool (isKey c)) ∧ w' = w := by
  have h : c < 45 ∨ c = 45 ∨ (45 < c ∧ c < 48) ∨ (48 ≤ c ∧ c ≤ 57) ∨ (57 < c ∧ c < 65) ∨ (65 ≤ c ∧ c ≤ 90) ∨ (90 < c ∧ c < 97) ∨ (97 ≤ c ∧ c ≤ 122) ∨ 122 < c := by omega
  rcases h with h | rfl | ⟨h, h'⟩ | ⟨h, h'⟩ | ⟨h, h'⟩ | ⟨h, h'⟩ | ⟨h, h'⟩ | ⟨h, h'⟩ | h
  all_goals try have h45 : (c == 45) = false := beq_false_of_ne (by omega)
  all_goals
    go_enter Tryd.func102, Tryd.ntmps102
    go_wp2
    all_goals go_ret
    all_goals first
      | exact ⟨rfl, rfl⟩
      | exact ⟨by rw [isKey_iff, decide_eq_true (by omega)]; rfl, rfl⟩
      | exact ⟨by rw [isKey_iff]; refine congrArg (fun b => Ending.returned (.bool b)) ?_; rw [Bool.eq_iff_iff]; simp; omega, rfl⟩
theorem all_at {f : Int → Bool} {s : ByteArray} {x : Int} (h : ∀ y : Int, 0 ≤ y → y < x → f (bt s y) = true) (hx : s.size ≤ x) : (nb s).all f = true := by
  rw [List.all_eq_true]
  intro c hc
  obtain ⟨i, hi, rfl⟩ := List.getElem_of_mem hc
  rw [nb_length] at hi
  have := h i (by omega) (by omega)
  rw [bt_nb, Int.toNat_natCast, List.getD_eq_getElem?_getD, List.getElem?_eq_getElem (by rw [nb_length]; exact hi)] at this
  exact this
theorem all_not {f : Int → Bool} {s : ByteArray} {x : Int} (h0 : 0 ≤ x) (hx : x < s.size) (h : f (bt s x) = false) : (nb s).all f = false := by
  rw [Bool.eq_false_iff]
  intro ha
  have hi : x.toNat < (nb s).length := by rw [nb_length]; omega
  rw [List.all_eq_true] at ha
  have := ha _ (List.getElem_mem hi)
  rw [bt_nb, List.getD_eq_getElem?_getD, List.getElem?_eq_getElem hi] at h
  simp only [Option.getD_some] at h
  rw [this] at h
  cases h
theorem nb_empty (s : ByteArray) : (nb s).isEmpty = decide (s.size = 0) := by
  rw [← nb_length]
  cases nb s <;> simp
theorem keysP_at {s : ByteArray} {x : Int} (h : ∀ y : Int, 0 ≤ y → y < x → isKey (bt s y) = true) (hx : s.size ≤ x) : keysP (nb s) = !decide (s.size = 0) := by
  rw [keysP, all_at h hx, nb_empty, Bool.true_and]
theorem keysP_not {s : ByteArray} {x : Int} (h0 : 0 ≤ x) (hx : x < s.size) (h : isKey (bt s x) = false) : keysP (nb s) = false := by
  rw [keysP, all_not h0 hx h, Bool.false_and]
theorem upto_next {f : Int → Bool} {s : ByteArray} {x : Int} (h : ∀ y : Int, 0 ≤ y → y < x → f (bt s y) = true) (hx : f (bt s x) = true) : ∀ y : Int, 0 ≤ y → y < x + 1 → f (bt s y) = true := fun y h0 h1 => by
  by_cases e : y = x
  · rw [e]; exact hx
  · exact h y h0 (by omega)

set_option maxRecDepth 100000 in
set_option maxHeartbeats 1000000 in
theorem keys_any (s : ByteArray) (w : World) (hs : s.size ≤ 4294967000) :
    Calls Tryd.prog 83 #[.string s] w fun e w' => e = .returned (.bool (keysP (nb s))) ∧ Drawn0 w w' := by
  go_enter Tryd.func83, Tryd.ntmps83
  go_wp2
  go_loopw [3] (fun i wr => ∃ x : Int, i = .int .i64 x ∧ 0 ≤ x ∧ x ≤ s.size ∧ Hid (∀ y : Int, 0 ≤ y → y < x → isKey (bt s y) = true) ∧ Drawn0 w wr) (fun i _ => s.size - (intOf i).toNat)
  case atStart => exact ⟨0, rfl, Int.le_refl _, by omega, Lib.hid (fun y _ _ => by omega), Drawn0.refl _⟩
  case round =>
    obtain ⟨x, rfl, hx0, hx1, HA, ⟨m, rfl⟩⟩ := hrel
    by_cases hlt : x < s.size
    · have hby := bt_at s x
      obtain ⟨hc0, hc1⟩ := bt_range s x
      obtain ⟨b, hb⟩ : ∃ b, isKey (bt s x) = b := ⟨_, rfl⟩
      have HK := Lib.hid hb
      clear hb
      cases b
      · go_wp2_with (go_at_call 102; refine (keyR_any _ _).mono ?_; rw [HK.out]; rintro e w1 ⟨rfl, rfl⟩)
        go_ret
        exact ⟨by rw [keysP_not hx0 hlt HK.out]; rfl, Drawn0.step (Drawn0.refl _) _⟩
      · go_wp2_with (go_at_call 102; refine (keyR_any _ _).mono ?_; rw [HK.out]; rintro e w1 ⟨rfl, rfl⟩)
        go_roundw
        case rel => exact ⟨x + 1, by go_num, by omega, by omega, Lib.hid (upto_next HA.out HK.out), Drawn0.step (Drawn0.refl _) _⟩
        case measure => simp [intOf]; omega
    · go_wp2
      go_ret
      exact ⟨by rw [keysP_at HA.out (by omega), ← toList_empty]; rfl, Drawn0.step (Drawn0.refl _) _⟩
theorem empty_of_size {s : ByteArray} (h : s.size = 0) : s = ⟨#[]⟩ := by
  cases s with
  | mk d =>
    have : d.size = 0 := h
    rw [Array.eq_empty_of_size_eq_zero this]
theorem digit_no {c : Int} (h : c < 48 ∨ 57 < c) : isDigit c = false := by rw [isDigit_iff, decide_eq_false (by omega)]
theorem digit_yes {c : Int} (h : 48 ≤ c) (h' : c ≤ 57) : isDigit c = true := by rw [isDigit_iff, decide_eq_true ⟨h, h'⟩]
theorem zero_is (s : ByteArray) : (s.toList == [48]) = decide (nb s = [48]) := by
  rw [Lib.toList_data]
  have : nb s = s.data.toList.map fun b : UInt8 => (b.toNat : Int) := rfl
  by_cases h : s.data.toList = [48]
  · rw [this, h]; rfl
  · rw [beq_false_of_ne h]
    refine (decide_eq_false fun e => h ?_).symm
    rw [this] at e
    exact map_inj (f := fun b : UInt8 => (b.toNat : Int)) (fun x y e => UInt8.toNat_inj.1 (Int.ofNat_inj.1 e)) (m := [48]) e
theorem numP_at {s : ByteArray} {x : Int} (h : ∀ y : Int, 0 ≤ y → y < x → isDigit (bt s y) = true) (hx : s.size ≤ x) : numP (nb s) = (s.toList == [48] || (!s.toList.isEmpty && !decide (bt s 0 = 48))) := by
  rw [numP, all_at h hx, zero_is, toList_empty, nb_empty, bt_nb, Bool.true_and]
  have : (nb s).headD 0 = (nb s).getD (0 : Int).toNat 0 := by cases nb s <;> rfl
  rw [this]
  simp
theorem numP_not {s : ByteArray} {x : Int} (h0 : 0 ≤ x) (hx : x < s.size) (h : isDigit (bt s x) = false) : numP (nb s) = false := by
  rw [numP, all_not h0 hx h, Bool.false_and]

set_option maxRecDepth 100000 in
set_option maxHeartbeats 1000000 in
theorem number_any (s : ByteArray) (w : World) (hs : s.size ≤ 4294967000) :
    Calls Tryd.prog 85 #[.string s] w fun e w' => e = .returned (.bool (numP (nb s))) ∧ Drawn0 w w' := by
  go_enter Tryd.func85, Tryd.ntmps85
  go_wp2
  go_loopw [3] (fun i wr => ∃ x : Int, i = .int .i64 x ∧ 0 ≤ x ∧ x ≤ s.size ∧ Hid (∀ y : Int, 0 ≤ y → y < x → isDigit (bt s y) = true) ∧ Drawn0 w wr) (fun i _ => s.size - (intOf i).toNat)
  case atStart => exact ⟨0, rfl, Int.le_refl _, by omega, Lib.hid (fun y _ _ => by omega), Drawn0.refl _⟩
  case round =>
    obtain ⟨x, rfl, hx0, hx1, HA, ⟨m, rfl⟩⟩ := hrel
    by_cases hlt : x < s.size
    · have hby := bt_at s x
      obtain ⟨hc0, hc1⟩ := bt_range s x
      by_cases h48 : bt s x < 48
      · go_wp2
        go_ret
        exact ⟨by rw [numP_not hx0 hlt (digit_no (.inl h48))]; rfl, Drawn0.step (Drawn0.refl _) _⟩
      · by_cases h57 : 57 < bt s x
        · go_wp2
          go_ret
          exact ⟨by rw [numP_not hx0 hlt (digit_no (.inr h57))]; rfl, Drawn0.step (Drawn0.refl _) _⟩
        · have HK := Lib.hid (digit_yes (c := bt s x) (by omega) (by omega))
          go_wp2
          go_roundw
          case rel => exact ⟨x + 1, by go_num, by omega, by omega, Lib.hid (upto_next HA.out HK.out), Drawn0.step (Drawn0.refl _) _⟩
          case measure => simp [intOf]; omega
    · have HN := Lib.hid (numP_at HA.out (show (s.size : Int) ≤ x by omega))
      clear HA
      by_cases h0 : s.size = 0
      · obtain rfl : s = ⟨#[]⟩ := empty_of_size h0
        go_wp2
        go_ret
        exact ⟨by rw [show numP (nb ⟨#[]⟩) = false from rfl]; rfl, Drawn0.step (Drawn0.refl _) _⟩
      · have hpos : 0 < s.size := by omega
        have hne : ¬ s.toList = [] := fun e => h0 (by have := toList_empty s; rw [e] at this; simpa using this.symm)
        have hby : ∀ h : 0 < s.size, ((s[0]'h).toNat : Int) = bt s 0 := bt_at s 0
        obtain ⟨hc0, hc1⟩ := bt_range s 0
        by_cases hz : s.toList = [48]
        · have HZ := Lib.hid hz
          go_wp2
          go_ret
          exact ⟨by rw [HN.out, HZ.out]; rfl, Drawn0.step (Drawn0.refl _) _⟩
        · have HZ := Lib.hid (beq_false_of_ne hz)
          have HE := Lib.hid (show s.toList.isEmpty = false by cases h : s.toList with | nil => exact absurd h hne | cons a b => rfl)
          by_cases c0 : bt s 0 = 48
          · have HC := Lib.hid c0
            go_wp2
            go_ret
            exact ⟨by rw [HN.out, HZ.out, HE.out, HC.out]; rfl, Drawn0.step (Drawn0.refl _) _⟩
          · have HC := Lib.hid c0
            go_wp2
            go_ret
            exact ⟨by rw [HN.out, HZ.out, HE.out, decide_eq_false HC.out]; exact congrArg (fun b => Ending.returned (.bool b)) (by simp [c0]), Drawn0.step (Drawn0.refl _) _⟩
end Go.Proofs.YtdonopoijbokiaaDoor
