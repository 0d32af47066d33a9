/- rosterlaw04.option: what it answers. -/
import Derived.Test.YtdonopoijbokiaaDoorB13
set_option linter.unusedVariables false
set_option linter.unusedSimpArgs false
namespace Go.Proofs.YtdonopoijbokiaaDoor
open Go.RowKit Go.Proofs.YtdonopoijbokiaaDoorW.PrintWords

def optNums (s : ByteArray) (x : Int) : List Int := ((nb s).take x.toNat).filter isKey
def optionB (s : ByteArray) : ByteArray := if ((nb s).filter isKey).isEmpty then ⟨#[120]⟩ else strOfNums ((nb s).filter isKey)
theorem optNums_yes {s : ByteArray} {x : Int} (h0 : 0 ≤ x) (hx : x < s.size) (h : isKey (bt s x) = true) : optNums s (x + 1) = optNums s x ++ [bt s x] := by
  unfold optNums
  rw [show (x + 1).toNat = x.toNat + 1 by omega, take_snoc' _ 0 _ (by rw [nb_length]; omega), List.filter_append, ← bt_nb]
  simp [h]
theorem optNums_no {s : ByteArray} {x : Int} (h0 : 0 ≤ x) (hx : x < s.size) (h : isKey (bt s x) = false) : optNums s (x + 1) = optNums s x := by
  unfold optNums
  rw [show (x + 1).toNat = x.toNat + 1 by omega, take_snoc' _ 0 _ (by rw [nb_length]; omega), List.filter_append, ← bt_nb]
  simp [h]
theorem optNums_len (s : ByteArray) (x : Int) : (optNums s x).length ≤ s.size := by
  unfold optNums
  have h1 := List.length_filter_le isKey ((nb s).take x.toNat)
  have h2 := List.length_take_le x.toNat (nb s)
  have h3 := List.length_take_le' x.toNat (nb s)
  rw [nb_length] at h3
  omega
theorem optNums_all {s : ByteArray} {x : Int} (h : s.size ≤ x) : optNums s x = (nb s).filter isKey := by
  unfold optNums
  rw [List.take_of_length_le (by rw [nb_length]; omega)]

set_option maxRecDepth 100000 in
set_option maxHeartbeats 2000000 in
theorem option_any (s : ByteArray) (w : World) (hs : s.size ≤ 1073741824) :
    Calls Tryd.prog 32 #[.string s] w fun e w' => e = .returned (.string (optionB s)) ∧ Below w.heap.size w w' := by
  go_enter Tryd.func32, Tryd.ntmps32
  go_wp2
  go_loopw [3, 4] (fun v i wr => ∃ x : Int, 0 ≤ x ∧ x ≤ s.size ∧ i = .int .i64 x ∧ wr.ownsRow w.heap.size 5 1 v (optNums s x).length (nums .u8 (optNums s x)) ∧ Below w.heap.size w wr) (fun _ i wr => s.size - (intOf i).toNat)
  case atStart => exact ⟨0, Int.le_refl _, by omega, rfl, own_nil _ _ _ _, Below.refl _ _⟩
  case round =>
    obtain ⟨x, hx0, hx1, rfl, hR, hB⟩ := hrel
    have hln := optNums_len s x
    by_cases hlt : x < s.size
    · have hby := bt_at s x
      obtain ⟨hc0, hc1⟩ := bt_range s x
      have HR := Lib.hid hR
      clear hR
      by_cases hk : isKey (bt s x) = true
      · have HNX := Lib.hid (optNums_yes hx0 hlt hk)
        rw [isKey_iff, decide_eq_true_eq] at hk
        have h : bt s x = 45 ∨ (48 ≤ bt s x ∧ bt s x ≤ 57) ∨ (65 ≤ bt s x ∧ bt s x ≤ 90) ∨ (97 ≤ bt s x ∧ bt s x ≤ 122) := by omega
        clear hk
        have h45 : ((bt s x == 45) = true ∧ bt s x = 45) ∨ ((bt s x == 45) = false ∧ bt s x ≠ 45) := by
          by_cases e : bt s x = 45
          · exact .inl ⟨beq_iff_eq.2 e, e⟩
          · exact .inr ⟨beq_false_of_ne e, e⟩
        rcases h with h | ⟨h, h'⟩ | ⟨h, h'⟩ | ⟨h, h'⟩ <;> rcases h45 with ⟨hq, hq'⟩ | ⟨hq, hq'⟩
        all_goals first | (exfalso; omega) | skip
        all_goals
          go_wp2_with (at_builtin; refine print_append_num w.heap.size rfl (.tmp 41) (.tmp 43) 49 5 .u8 1 rfl Tryd.underlying49 info5 (by decide) _ _ _ rfl rfl HR.out hB hB.size (by omega) ?_; intro v1 w1 ho hb _ _; have HO := Lib.hid ho; have HB := Lib.hid hb; clear ho hb)
          go_roundw
          case rel => exact ⟨x + 1, by omega, by omega, by go_num, by rw [HNX.out]; first | exact HO.out | (rw [show bt s x = 45 by omega]; exact HO.out), HB.out⟩
          case measure => simp [intOf]; omega
      · have HNX := Lib.hid (optNums_no hx0 hlt (by simpa using hk))
        have hk' : isKey (bt s x) = false := by simpa using hk
        rw [isKey_iff, decide_eq_false_iff_not] at hk'
        have hq : (bt s x == 45) = false := beq_false_of_ne (by omega)
        have h : bt s x < 48 ∨ (57 < bt s x ∧ bt s x < 65) ∨ (90 < bt s x ∧ bt s x < 97) ∨ 122 < bt s x := by omega
        clear hk hk'
        rcases h with h | ⟨h, h'⟩ | ⟨h, h'⟩ | h
        all_goals
          go_wp2
          go_roundw
          case rel => exact ⟨x + 1, by omega, by omega, by go_num, by rw [HNX.out]; exact HR.out, hB⟩
          case measure => simp [intOf]; omega
    · rw [optNums_all (by omega)] at hR hln
      have hst := own_string (src := 49) (dst := 9) Tryd.underlying49 Tryd.underlying5 Tryd.underlying9 hR
      obtain ⟨l, hl⟩ : ∃ l, (nb s).filter isKey = l := ⟨_, rfl⟩
      have hob : optionB s = if l.isEmpty then ⟨#[120]⟩ else strOfNums l := by rw [optionB, hl]
      have HOB := Lib.hid hob
      rw [hl] at hR hst hln
      clear hl hob
      rcases hR.2 with ⟨rfl, hn⟩ | ⟨g, cap, cur, rfl, _⟩
      · have : l = [] := List.eq_nil_of_length_eq_zero hn
        subst this
        go_wp2
        go_ret
        exact ⟨by rw [HOB.out]; rfl, hB⟩
      · cases l with
        | nil =>
          go_wp2
          go_ret
          exact ⟨by rw [HOB.out]; rfl, hB⟩
        | cons a l =>
          have hst2 : (convert 49 9 (.slice (some ⟨g, 0, none⟩) (l.length + 1) cap)).run Tryd.prog wr = .ok (.string (strOfNums (a :: l))) wr := hst
          clear hst
          go_wp2
          go_ret
          exact ⟨by rw [HOB.out]; rfl, hB⟩
end Go.Proofs.YtdonopoijbokiaaDoor
