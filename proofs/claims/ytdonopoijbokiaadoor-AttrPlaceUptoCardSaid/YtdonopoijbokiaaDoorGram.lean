/- rosterref04.IsType, IsDesc: what they answer. -/
import Derived.Test.YtdonopoijbokiaaDoorKeys
namespace Go.Proofs.YtdonopoijbokiaaDoor
open Go.RowKit Go.Proofs.YtdonopoijbokiaaDoorW.PrintWords

theorem cutB_sizes (s : ByteArray) (c : Int) : ∀ (n lo i : Nat), ∀ p ∈ cutB s c n lo i, p.size ≤ s.size
  | 0, lo, _, p, hp => by
    rw [cutB, List.mem_singleton] at hp
    rw [hp, ByteArray.size_extract]
    omega
  | n + 1, lo, i, p, hp => by
    rw [cutB] at hp
    split at hp
    · rcases List.mem_cons.1 hp with rfl | hp
      · rw [ByteArray.size_extract]; omega
      · exact cutB_sizes s c n _ _ p hp
    · exact cutB_sizes s c n _ _ p hp
theorem parts_sizes {s : ByteArray} {c : Int} {xs : List ByteArray} (h : partsB s c = xs) : ∀ p ∈ xs, p.size ≤ s.size := by
  rw [← h]
  exact cutB_sizes s c _ _ _
theorem parts_length {s : ByteArray} {c : Int} {xs : List ByteArray} (h : partsB s c = xs) : xs.length ≤ s.size + 1 := by
  rw [← h]
  exact cutB_length s c _ _ _
theorem one_lt (n : Nat) : decide ((1 : Int) < n) = (true && decide (1 < n)) := by
  rw [Bool.true_and]
  exact decide_eq_decide.2 (by omega)
theorem rd_mem {xs : List ByteArray} {x : Int} (h0 : 0 ≤ x) (hx : x < xs.length) : rdOf ByteArray.empty xs x ∈ xs := by
  have hi : x.toNat < xs.length := by omega
  rw [rdOf, List.getD_eq_getElem?_getD, List.getElem?_eq_getElem hi]
  exact List.getElem_mem hi
theorem list_all {f : ByteArray → Bool} {xs : List ByteArray} {x : Int} (h : ∀ y : Int, 0 ≤ y → y < x → f (rdOf ByteArray.empty xs y) = true) (hx : xs.length ≤ x) : xs.all f = true := by
  rw [List.all_eq_true]
  intro c hc
  obtain ⟨i, hi, rfl⟩ := List.getElem_of_mem hc
  have := h i (by omega) (by omega)
  rw [rdOf, Int.toNat_natCast, List.getD_eq_getElem?_getD, List.getElem?_eq_getElem hi] at this
  exact this
theorem list_not {f : ByteArray → Bool} {xs : List ByteArray} {x : Int} (h0 : 0 ≤ x) (hx : x < xs.length) (h : f (rdOf ByteArray.empty xs x) = false) : xs.all f = false := by
  rw [Bool.eq_false_iff]
  intro ha
  rw [List.all_eq_true.1 ha _ (rd_mem h0 hx)] at h
  cases h
theorem tail_all {f : ByteArray → Bool} {xs : List ByteArray} {x : Int} (h : ∀ y : Int, 1 ≤ y → y < x → f (rdOf ByteArray.empty xs y) = true) (hx : xs.length ≤ x) : xs.tail.all f = true := by
  cases xs with
  | nil => rfl
  | cons a l =>
    refine list_all (xs := l) (x := l.length) (fun y h0 h1 => ?_) (by omega)
    have := h (y + 1) (by omega) (by simp at hx; omega)
    rw [rdOf, show (y + 1).toNat = y.toNat + 1 by omega] at this
    exact this
theorem tail_not {f : ByteArray → Bool} {xs : List ByteArray} {x : Int} (h0 : 1 ≤ x) (hx : x < xs.length) (h : f (rdOf ByteArray.empty xs x) = false) : xs.tail.all f = false := by
  cases xs with
  | nil => simp at hx; omega
  | cons a l =>
    refine list_not (xs := l) (x := x - 1) (by omega) (by simp at hx; omega) ?_
    rw [rdOf, show x.toNat = (x - 1).toNat + 1 by omega] at h
    exact h
theorem upto_list {f : ByteArray → Bool} {xs : List ByteArray} {b x : Int} (h : ∀ y : Int, b ≤ y → y < x → f (rdOf ByteArray.empty xs y) = true) (hx : f (rdOf ByteArray.empty xs x) = true) : ∀ y : Int, b ≤ y → y < x + 1 → f (rdOf ByteArray.empty xs y) = true := fun y h0 h1 => by
  by_cases e : y = x
  · rw [e]; exact hx
  · exact h y h0 (by omega)
theorem head_nb {s : ByteArray} (h : 0 < s.size) : nb s = bt s 0 :: (nb s).tail := by
  have h' : 0 < (nb s).length := by rw [nb_length]; exact h
  rw [bt_nb]
  cases hn : nb s with
  | nil => rw [hn] at h'; exact absurd h' (Nat.lt_irrefl 0)
  | cons a l => rfl
theorem type_letter {s : ByteArray} (h : 0 < s.size) (hl : isLetter (bt s 0) = true) : isTypeP (nb s) = keysP (nb s) := by
  rw [head_nb h, isTypeP, if_pos hl]
theorem type_number {s : ByteArray} {xs : List ByteArray} (h : 0 < s.size) (hl : isLetter (bt s 0) = false) (hx : partsB s 46 = xs) : isTypeP (nb s) = (xs.all (fun p => numP (nb p)) && decide (1 < xs.length)) := by
  have e := partsB_nb s 46
  rw [hx] at e
  rw [head_nb h, isTypeP, if_neg (by rw [hl]; decide), ← head_nb h, ← e, List.all_map, List.length_map]
  rfl
theorem parts_ne {s : ByteArray} {c : Int} {xs : List ByteArray} (hx : partsB s c = xs) : 0 < xs.length := by
  have e := partsB_nb s c
  rw [hx] at e
  cases xs with
  | nil => exact absurd e.symm (splitI_ne c _)
  | cons a l => simp
theorem desc_parts {s : ByteArray} {xs : List ByteArray} (hx : partsB s 59 = xs) : isDescP (nb s) = (xs.tail.all (fun p => keysP (nb p)) && isTypeP (nb (rdOf ByteArray.empty xs 0))) := by
  have e := partsB_nb s 59
  have hn := parts_ne hx
  rw [hx] at e
  rw [isDescP, ← e]
  cases xs with
  | nil => exact absurd hn (Nat.lt_irrefl 0)
  | cons a l =>
    rw [List.map_cons, List.tail_cons, List.all_map]
    rfl

set_option maxRecDepth 100000 in
set_option maxHeartbeats 1000000 in
theorem isType_any (s : ByteArray) (w : World) (hs : s.size ≤ 4294967000) :
    Calls Tryd.prog 72 #[.string s] w fun e w' => e = .returned (.bool (isTypeP (nb s))) ∧ Below w.heap.size w w' := by
  by_cases h0 : s.size = 0
  · obtain rfl : s = ⟨#[]⟩ := empty_of_size h0
    go_enter Tryd.func72, Tryd.ntmps72
    go_wp2
    go_ret
    exact ⟨rfl, Below.refl _ _⟩
  have hpos : 0 < s.size := by omega
  have hne : s.toList.isEmpty = false := by rw [toList_empty, decide_eq_false h0]
  have hby : ∀ h : 0 < s.size, ((s[0]'h).toNat : Int) = bt s 0 := bt_at s 0
  obtain ⟨hc0, hc1⟩ := bt_range s 0
  have h5 : bt s 0 < 65 ∨ (65 ≤ bt s 0 ∧ bt s 0 ≤ 90) ∨ (90 < bt s 0 ∧ bt s 0 < 97) ∨ (97 ≤ bt s 0 ∧ bt s 0 ≤ 122) ∨ 122 < bt s 0 := by omega
  cases hb : isLetter (bt s 0) with
  | true =>
    have HT := Lib.hid (type_letter hpos hb)
    rw [isLetter_iff, decide_eq_true_eq] at hb
    rcases h5 with h | ⟨h, h'⟩ | ⟨h, h'⟩ | ⟨h, h'⟩ | h
    all_goals first
      | (exfalso; omega)
      | skip
    all_goals
      clear hb
      go_enter Tryd.func72, Tryd.ntmps72
      go_wp2_with (go_at_call 83; refine (keys_any _ _ hs).mono ?_; rintro e w1 ⟨rfl, hd⟩)
      go_ret
      exact ⟨by rw [HT.out]; rfl, hd.below⟩
  | false =>
    obtain ⟨xs, hxs⟩ : ∃ xs, partsB s 46 = xs := ⟨_, rfl⟩
    obtain ⟨n, hn⟩ : ∃ n, xs.length = n := ⟨_, rfl⟩
    have HT := Lib.hid (type_number hpos hb hxs)
    have hnl : n ≤ 4294967001 := by have := parts_length hxs; omega
    have HX := Lib.hid hxs
    have HN := Lib.hid hn
    rw [isLetter_iff, decide_eq_false_iff_not] at hb
    clear hxs hn
    rcases h5 with h | ⟨h, h'⟩ | ⟨h, h'⟩ | ⟨h, h'⟩ | h
    all_goals first
      | (exfalso; omega)
      | skip
    all_goals
      clear hb
      go_enter Tryd.func72, Tryd.ntmps72
      go_wp2_with (go_at_call 69; refine (parts_any _ _ _ hs (by decide) (by decide)).mono ?_; rw [HX.out]; rintro e w1 ⟨v, rfl, hR, hb1⟩; obtain ⟨A, c, rfl, hlc, hC⟩ := Kd.R_reads hR; rw [HN.out] at hC ⊢; have HC := Lib.hid hC; have HB := Lib.hid hb1; clear hR hlc hC hb1)
      go_loopw [4] (fun i wr => ∃ x : Int, i = .int .i64 x ∧ 0 ≤ x ∧ x ≤ n ∧ Hid (∀ y : Int, 0 ≤ y → y < x → numP (nb (rdOf ByteArray.empty xs y)) = true) ∧ Drawn0 w1 wr) (fun i _ => n - (intOf i).toNat)
      case atStart => exact ⟨0, rfl, Int.le_refl _, by omega, Lib.hid (fun y _ _ => by omega), Drawn0.refl _⟩
      case round =>
        obtain ⟨x, rfl, hx0, hx1, HA, ⟨m, rfl⟩⟩ := hrel
        by_cases hlt : x < n
        · obtain ⟨ad, e1, hcl⟩ := Kd.at_string HC.out x hx0 hlt
          cases e1
          have hsz : (rdOf ByteArray.empty xs x).size ≤ 4294967000 := Nat.le_trans (parts_sizes HX.out _ (rd_mem hx0 (by rw [HN.out]; exact hlt))) hs
          obtain ⟨b, hb⟩ : ∃ b, numP (nb (rdOf ByteArray.empty xs x)) = b := ⟨_, rfl⟩
          have HK := Lib.hid hb
          clear hb
          cases b
          · go_wp2_with (go_at_call 85; refine (number_any _ _ hsz).mono ?_; rw [HK.out]; rintro e w2 ⟨rfl, hd⟩)
            go_ret
            exact ⟨by rw [HT.out, list_not (f := fun p => numP (nb p)) hx0 (by rw [HN.out]; exact hlt) HK.out]; rfl, (HB.out.trans ((Drawn0.step (Drawn0.refl _) _).below.mono HB.out.size)).trans (hd.below.mono (by simp; exact HB.out.size))⟩
          · go_wp2_with (go_at_call 85; refine (number_any _ _ hsz).mono ?_; rw [HK.out]; rintro e w2 ⟨rfl, ⟨m2, rfl⟩⟩)
            go_roundw
            case rel => exact ⟨x + 1, by go_num, by omega, by omega, Lib.hid (upto_list (f := fun p => numP (nb p)) HA.out HK.out), Drawn0.step (Drawn0.refl _) _⟩
            case measure => simp [intOf]; omega
        · go_wp2
          go_ret
          exact ⟨by rw [HT.out, list_all (f := fun p => numP (nb p)) HA.out (by rw [HN.out]; omega), HN.out]; exact congrArg (fun b => Ending.returned (.bool b)) (one_lt n), HB.out.trans ((Drawn0.step (Drawn0.refl _) _).below.mono HB.out.size)⟩
end Go.Proofs.YtdonopoijbokiaaDoor
