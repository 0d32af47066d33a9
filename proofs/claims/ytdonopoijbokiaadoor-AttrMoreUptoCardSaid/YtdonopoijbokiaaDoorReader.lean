/- attr.letter, digit, key; (reader).whole, (*reader).next: what they answer. -/
import Derived.Test.YtdonopoijbokiaaDoorB2
import Derived.Test.YtdonopoijbokiaaDoorB1
set_option linter.unusedVariables false
set_option linter.unusedSimpArgs false
namespace Go.Proofs.YtdonopoijbokiaaDoor
open Go.RowKit

set_option maxRecDepth 100000 in
theorem letter_any (c : Int) (w : World) : Calls Tryd.prog 75 #[.int .u8 c] w fun e w' => e = .returned (.bool (isLetter c)) ∧ w' = w := by
  unfold isLetter
  go_enter Tryd.func75, Tryd.ntmps75
  by_cases h1 : 97 ≤ c <;> by_cases h2 : c ≤ 122 <;> by_cases h3 : 65 ≤ c <;> by_cases h4 : c ≤ 90 <;> first | omega | skip
  all_goals
    go_wp2
    all_goals go_ret
    all_goals simp [h1, h2, h3, h4]
set_option maxRecDepth 100000 in
theorem digit_any (c : Int) (w : World) : Calls Tryd.prog 77 #[.int .u8 c] w fun e w' => e = .returned (.bool (isDigit c)) ∧ w' = w := by
  unfold isDigit
  go_enter Tryd.func77, Tryd.ntmps77
  by_cases h1 : 48 ≤ c <;> by_cases h2 : c ≤ 57 <;> first | omega | skip
  all_goals
    go_wp2
    all_goals go_ret
    all_goals simp [h1, h2]
set_option maxRecDepth 100000 in
theorem key_any (c : Int) (w : World) : Calls Tryd.prog 76 #[.int .u8 c] w fun e w' => e = .returned (.bool (isKey c)) ∧ w' = w := by
  unfold isKey
  by_cases h3 : c = 45
  · subst h3
    go_enter Tryd.func76, Tryd.ntmps76
    go_wp2_with (first
      | (go_at_call 75; refine (letter_any _ _).mono ?_; rw [show isLetter 45 = false by decide]; rintro e w1 ⟨rfl, rfl⟩)
      | (go_at_call 77; refine (digit_any _ _).mono ?_; rw [show isDigit 45 = false by decide]; rintro e w1 ⟨rfl, rfl⟩))
    go_ret
    exact ⟨rfl, rfl⟩
  obtain ⟨bl, hl⟩ : ∃ b, isLetter c = b := ⟨_, rfl⟩
  obtain ⟨bd, hd⟩ : ∃ b, isDigit c = b := ⟨_, rfl⟩
  rw [hl, hd]
  have HL := Lib.hid hl
  have HD := Lib.hid hd
  clear hl hd
  go_enter Tryd.func76, Tryd.ntmps76
  cases bl <;> cases bd
  all_goals
    go_wp2_with (first
      | (go_at_call 75; refine (letter_any _ _).mono ?_; rw [HL.out]; rintro e w1 ⟨rfl, rfl⟩)
      | (go_at_call 77; refine (digit_any _ _).mono ?_; rw [HD.out]; rintro e w1 ⟨rfl, rfl⟩))
    all_goals go_ret
    all_goals simp [h3]
set_option maxRecDepth 100000 in
theorem whole_any (r : St) (w : World) : Calls Tryd.prog 64 #[.agg #[.int .i64 r.pos, .int .i64 r.pts]] w fun e w' => e = .returned (.bool r.whole) ∧ Below w.heap.size w w' := by
  obtain ⟨p, q⟩ := r
  unfold St.whole
  simp only
  go_enter Tryd.func64, Tryd.ntmps64
  by_cases h1 : p = 1 <;> by_cases h2 : p = 6 <;> by_cases h3 : p = 2 <;> by_cases h4 : p = 3 <;> by_cases h5 : 0 < q <;> first | omega | skip
  all_goals
    go_wp2
    all_goals first | (go_ret; done) | (rename_i hk; refine hk _ _ ?_; go_wp2; go_ret) | go_ret
    all_goals exact ⟨by simp [h1, h2, h3, h4, h5], (Below.refl _ _).alloc (Nat.le_refl _) _⟩
end Go.Proofs.YtdonopoijbokiaaDoor
