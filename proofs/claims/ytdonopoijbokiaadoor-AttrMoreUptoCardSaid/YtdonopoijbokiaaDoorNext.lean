/- (*attr.reader).next: what it answers and writes. -/
import Derived.Test.YtdonopoijbokiaaDoorReader
import Derived.Test.YtdonopoijbokiaaDoorB3
set_option linter.unusedVariables false
set_option linter.unusedSimpArgs false
namespace Go.Proofs.YtdonopoijbokiaaDoor
open Go.RowKit

/-- The reader's own block. -/
def AtRd (w : World) (g : Nat) (r : St) : Prop := w.heap[g]? = some (.cells #[.int .i64 r.pos, .int .i64 r.pts] 92 (0, 0))
theorem cells2 {W : World} {B : Nat} {a b : Value} {t : TypeId} (h : W.heap[B]? = some (.cells #[a, b] t (0, 0))) :
    (W.cell? ⟨B, 0, none⟩ = some a ∧ W.cell? ⟨B, 1, none⟩ = some b) ∧ ∀ j, W.frozen? ⟨B, j, none⟩ = false :=
  ⟨⟨cell_of_row _ _ _ _ _ _ h, cell_of_row _ _ _ _ _ _ h⟩, fun j => frozen_of_row _ _ _ _ _ h⟩
theorem AtRd.below {w w' : World} {g B : Nat} {r : St} (h : AtRd w g r) (hb : Below B w w') (hg : g < B) : AtRd w' g r := (hb.block g hg).trans h
theorem AtRd.set0 {w : World} {g : Nat} {r : St} (h : AtRd w g r) (x : Int) : AtRd (w.setCell ⟨g, 0, none⟩ (.int .i64 x)) g ⟨x, r.pts⟩ := heap_setCell_same w g 0 _ _ _ h
theorem AtRd.set1 {w : World} {g : Nat} {r : St} (h : AtRd w g r) (x : Int) : AtRd (w.setCell ⟨g, 1, none⟩ (.int .i64 x)) g ⟨r.pos, x⟩ := heap_setCell_same w g 1 _ _ _ h
theorem AtRd.lt {w : World} {g : Nat} {r : St} (h : AtRd w g r) : g < w.heap.size := by
  by_cases hl : g < w.heap.size
  · exact hl
  · unfold AtRd at h
    rw [Array.getElem?_eq_none (Nat.le_of_not_lt hl)] at h
    cases h
theorem set_one {w : World} {g : Nat} {p q x : Int} (h : AtRd w g ⟨p, q⟩) : AtRd (w.setCell ⟨g, 0, none⟩ (.int .i64 x)) g ⟨x, q⟩ := h.set0 x
theorem set_two {w : World} {g : Nat} {p q x y : Int} (h : AtRd w g ⟨p, q⟩) : AtRd ((w.setCell ⟨g, 0, none⟩ (.int .i64 x)).setCell ⟨g, 0, none⟩ (.int .i64 y)) g ⟨y, q⟩ := (h.set0 x).set0 y
theorem set_both {w : World} {g : Nat} {p q x y : Int} (h : AtRd w g ⟨p, q⟩) : AtRd ((w.setCell ⟨g, 0, none⟩ (.int .i64 x)).setCell ⟨g, 1, none⟩ (.int .i64 y)) g ⟨x, y⟩ := (h.set0 x).set1 y
theorem below_one (w : World) (g : Nat) (v : Value) : Below g w (w.setCell ⟨g, 0, none⟩ v) := (Below.refl _ w).setCell (p := ⟨g, 0, none⟩) (Nat.le_refl _) _
theorem below_two (w : World) (g : Nat) (v u : Value) : Below g w ((w.setCell ⟨g, 0, none⟩ v).setCell ⟨g, 0, none⟩ u) := ((Below.refl _ w).setCell (p := ⟨g, 0, none⟩) (Nat.le_refl _) _).setCell (p := ⟨g, 0, none⟩) (Nat.le_refl _) _
theorem below_both (w : World) (g : Nat) (v u : Value) : Below g w ((w.setCell ⟨g, 0, none⟩ v).setCell ⟨g, 1, none⟩ u) := ((Below.refl _ w).setCell (p := ⟨g, 0, none⟩) (Nat.le_refl _) _).setCell (p := ⟨g, 1, none⟩) (Nat.le_refl _) _
/-- What one step leaves. -/
def Stepped (r : St) (c : Int) (g : Nat) (w : World) (e : Ending) (w' : World) : Prop := e = .returned (.bool (r.next c).isSome) ∧ AtRd w' g ((r.next c).getD r) ∧ Below g w w'
theorem stepped_none {r : St} {c : Int} {g : Nat} {w w' : World} {v : Value} (h : AtRd w' g r) (hb : Below g w w') (hv : v = .bool false) (e : r.next c = none) : Stepped r c g w (.returned v) w' := by
  unfold Stepped
  rw [e, hv]
  exact ⟨rfl, h, hb⟩
theorem stepped_some {r r' : St} {c : Int} {g : Nat} {w w' : World} {v : Value} (h : AtRd w' g r') (hb : Below g w w') (hv : v = .bool true) (e : r.next c = some r') : Stepped r c g w (.returned v) w' := by
  unfold Stepped
  rw [e, hv]
  exact ⟨rfl, h, hb⟩

set_option maxRecDepth 100000 in
set_option maxHeartbeats 4000000 in
theorem next_59 (r : St) (g : Nat) (w : World) (hg : AtRd w g r) :
    Calls Tryd.prog 63 #[.pointer (some ⟨g, 0, none⟩), .int .u8 59] w (Stepped r 59 g w) := by
  have hl := hg.lt
  have H := Lib.hid hg
  obtain ⟨⟨q0, q1⟩, qf⟩ := cells2 hg
  clear hg
  have hw : r.next 59 = if r.whole = true then some ⟨5, r.pts⟩ else none := by simp [St.next]
  have HW := Lib.hid hw
  clear hw
  obtain ⟨bw, hbw⟩ : ∃ b, r.whole = b := ⟨_, rfl⟩
  have HB := Lib.hid hbw
  clear hbw
  go_enter Tryd.func63, Tryd.ntmps63
  cases bw
  · go_wp2_with (go_at_call 64; refine (whole_any r _).mono ?_; rw [HB.out]; rintro e w1 ⟨rfl, hb1⟩; have H1 := Lib.hid (H.out.below hb1 hl); obtain ⟨⟨p0, p1⟩, pf⟩ := cells2 H1.out)
    all_goals go_ret
    exact stepped_none H1.out (hb1.mono (Nat.le_of_lt hl)) rfl (by rw [HW.out, HB.out]; rfl)
  · go_wp2_with (go_at_call 64; refine (whole_any r _).mono ?_; rw [HB.out]; rintro e w1 ⟨rfl, hb1⟩; have H1 := Lib.hid (H.out.below hb1 hl); obtain ⟨⟨p0, p1⟩, pf⟩ := cells2 H1.out)
    all_goals go_ret
    exact stepped_some (H1.out.set0 5) ((hb1.mono (Nat.le_of_lt hl)).setCell (Nat.le_refl _) _) rfl (by rw [HW.out, HB.out]; rfl)
/-- Bytes other than a semicolon. -/
theorem next_eq {p q c : Int} (h59 : c ≠ 59) {bl bd bk : Bool} (hl : isLetter c = bl) (hd : isDigit c = bd) (hk : isKey c = bk) : St.next ⟨p, q⟩ c =
    if (p = 0 ∧ bl = true) ∨ (p = 1 ∧ bk = true) then some ⟨1, q⟩
    else if (p = 5 ∨ p = 6) ∧ bk = true then some ⟨6, q⟩
    else if (p = 0 ∨ p = 4) ∧ bd = true then some ⟨if c = 48 then 2 else 3, q⟩
    else if p = 3 ∧ bd = true then some ⟨p, q⟩
    else if (p = 2 ∨ p = 3) ∧ c = 46 then some ⟨4, q + 1⟩
    else none := by
  rw [St.next, if_neg h59, hl, hd, hk]
set_option maxRecDepth 100000 in
set_option maxHeartbeats 40000000 in
theorem next_48 (p q : Int) (g : Nat) (w : World)  (h1 : 0 ≤ q) (h2 : 0 ≤ p) (h3 : p ≤ 6) (hp : q ≤ 140737488351232) (hg : AtRd w g ⟨p, q⟩) :
    Calls Tryd.prog 63 #[.pointer (some ⟨g, 0, none⟩), .int .u8 48] w (Stepped ⟨p, q⟩ 48 g w) := by
  have hl := hg.lt
  have H := Lib.hid hg
  obtain ⟨⟨q0, q1⟩, qf⟩ := cells2 hg
  clear hg
  have HL := Lib.hid (show isLetter 48 = false by decide)
  have HD := Lib.hid (show isDigit 48 = true by decide)
  have HK := Lib.hid (show isKey 48 = true by decide)
  have HN := Lib.hid (next_eq (p := p) (q := q) (show (48 : Int) ≠ 59 by decide) HL.out HD.out HK.out)
  have hp7 : p = 0 ∨ p = 1 ∨ p = 2 ∨ p = 3 ∨ p = 4 ∨ p = 5 ∨ p = 6 := by omega
  clear h2 h3
  go_enter Tryd.func63, Tryd.ntmps63
  ·
    rcases hp7 with rfl | rfl | rfl | rfl | rfl | rfl | rfl
    all_goals
      go_wp2_with (first
        | (go_at_call 75; refine (letter_any _ _).mono ?_; rw [HL.out]; rintro e w1 ⟨rfl, rfl⟩)
        | (go_at_call 77; refine (digit_any _ _).mono ?_; rw [HD.out]; rintro e w1 ⟨rfl, rfl⟩)
        | (go_at_call 76; refine (key_any _ _).mono ?_; rw [HK.out]; rintro e w1 ⟨rfl, rfl⟩))
      all_goals first | (go_ret; done) | (rename_i hk; refine hk _ _ ?_; go_wp2; go_ret) | go_ret
      all_goals
        have hn := HN.out
        simp at hn
      all_goals first
        | with_reducible refine stepped_none H.out (Below.refl _ _) ?_ hn
        | with_reducible refine stepped_some H.out (Below.refl _ _) ?_ hn
        | with_reducible refine stepped_some (set_one H.out) (below_one _ _ _) ?_ hn
        | with_reducible refine stepped_some (set_two H.out) (below_two _ _ _ _) ?_ hn
        | with_reducible refine stepped_some (set_both H.out) (below_both _ _ _ _) ?_ hn
      all_goals rfl
set_option maxRecDepth 100000 in
set_option maxHeartbeats 40000000 in
theorem next_46 (p q : Int) (g : Nat) (w : World)  (h1 : 0 ≤ q) (h2 : 0 ≤ p) (h3 : p ≤ 6) (hp : q ≤ 140737488351232) (hg : AtRd w g ⟨p, q⟩) :
    Calls Tryd.prog 63 #[.pointer (some ⟨g, 0, none⟩), .int .u8 46] w (Stepped ⟨p, q⟩ 46 g w) := by
  have hl := hg.lt
  have H := Lib.hid hg
  obtain ⟨⟨q0, q1⟩, qf⟩ := cells2 hg
  clear hg
  have HL := Lib.hid (show isLetter 46 = false by decide)
  have HD := Lib.hid (show isDigit 46 = false by decide)
  have HK := Lib.hid (show isKey 46 = false by decide)
  have HN := Lib.hid (next_eq (p := p) (q := q) (show (46 : Int) ≠ 59 by decide) HL.out HD.out HK.out)
  have hp7 : p = 0 ∨ p = 1 ∨ p = 2 ∨ p = 3 ∨ p = 4 ∨ p = 5 ∨ p = 6 := by omega
  clear h2 h3
  go_enter Tryd.func63, Tryd.ntmps63
  ·
    rcases hp7 with rfl | rfl | rfl | rfl | rfl | rfl | rfl
    all_goals
      go_wp2_with (first
        | (go_at_call 75; refine (letter_any _ _).mono ?_; rw [HL.out]; rintro e w1 ⟨rfl, rfl⟩)
        | (go_at_call 77; refine (digit_any _ _).mono ?_; rw [HD.out]; rintro e w1 ⟨rfl, rfl⟩)
        | (go_at_call 76; refine (key_any _ _).mono ?_; rw [HK.out]; rintro e w1 ⟨rfl, rfl⟩))
      all_goals first | (go_ret; done) | (rename_i hk; refine hk _ _ ?_; go_wp2; go_ret) | go_ret
      all_goals
        have hn := HN.out
        simp at hn
      all_goals first
        | with_reducible refine stepped_none H.out (Below.refl _ _) ?_ hn
        | with_reducible refine stepped_some H.out (Below.refl _ _) ?_ hn
        | with_reducible refine stepped_some (set_one H.out) (below_one _ _ _) ?_ hn
        | with_reducible refine stepped_some (set_two H.out) (below_two _ _ _ _) ?_ hn
        | with_reducible refine stepped_some (set_both H.out) (below_both _ _ _ _) ?_ hn
      all_goals rfl
set_option maxRecDepth 100000 in
set_option maxHeartbeats 40000000 in
theorem next_else (p q c : Int) (g : Nat) (w : World) (h59 : c ≠ 59) (h48 : c ≠ 48) (h46 : c ≠ 46) (h1 : 0 ≤ q) (h2 : 0 ≤ p) (h3 : p ≤ 6) (hp : q ≤ 140737488351232) (hg : AtRd w g ⟨p, q⟩) :
    Calls Tryd.prog 63 #[.pointer (some ⟨g, 0, none⟩), .int .u8 c] w (Stepped ⟨p, q⟩ c g w) := by
  have hl := hg.lt
  have H := Lib.hid hg
  obtain ⟨⟨q0, q1⟩, qf⟩ := cells2 hg
  clear hg
  obtain ⟨bl, hbl⟩ : ∃ b, isLetter c = b := ⟨_, rfl⟩
  obtain ⟨bd, hbd⟩ : ∃ b, isDigit c = b := ⟨_, rfl⟩
  obtain ⟨bk, hbk⟩ : ∃ b, isKey c = b := ⟨_, rfl⟩
  have HL := Lib.hid hbl
  have HD := Lib.hid hbd
  have HK := Lib.hid hbk
  have hn := next_eq (p := p) (q := q) h59 hbl hbd hbk
  rw [if_neg h48] at hn
  simp only [h46, and_false, if_false] at hn
  have HN := Lib.hid hn
  clear hbl hbd hbk hn
  have hp7 : p = 0 ∨ p = 1 ∨ p = 2 ∨ p = 3 ∨ p = 4 ∨ p = 5 ∨ p = 6 := by omega
  clear h2 h3
  go_enter Tryd.func63, Tryd.ntmps63
  rcases hp7 with rfl | rfl | rfl | rfl | rfl | rfl | rfl
  · cases bl <;> cases bd
    all_goals
      go_wp2_with (first
        | (go_at_call 75; refine (letter_any _ _).mono ?_; rw [HL.out]; rintro e w1 ⟨rfl, rfl⟩)
        | (go_at_call 77; refine (digit_any _ _).mono ?_; rw [HD.out]; rintro e w1 ⟨rfl, rfl⟩)
        | (go_at_call 76; refine (key_any _ _).mono ?_; rw [HK.out]; rintro e w1 ⟨rfl, rfl⟩))
      all_goals first | (go_ret; done) | (rename_i hk; refine hk _ _ ?_; go_wp2; go_ret) | go_ret
      all_goals
        have hn := HN.out
        simp at hn
      all_goals first
        | with_reducible refine stepped_none H.out (Below.refl _ _) ?_ hn
        | with_reducible refine stepped_some H.out (Below.refl _ _) ?_ hn
        | with_reducible refine stepped_some (set_one H.out) (below_one _ _ _) ?_ hn
        | with_reducible refine stepped_some (set_two H.out) (below_two _ _ _ _) ?_ hn
        | with_reducible refine stepped_some (set_both H.out) (below_both _ _ _ _) ?_ hn
      all_goals rfl
  · cases bk
    all_goals
      go_wp2_with (first
        | (go_at_call 75; refine (letter_any _ _).mono ?_; rw [HL.out]; rintro e w1 ⟨rfl, rfl⟩)
        | (go_at_call 77; refine (digit_any _ _).mono ?_; rw [HD.out]; rintro e w1 ⟨rfl, rfl⟩)
        | (go_at_call 76; refine (key_any _ _).mono ?_; rw [HK.out]; rintro e w1 ⟨rfl, rfl⟩))
      all_goals first | (go_ret; done) | (rename_i hk; refine hk _ _ ?_; go_wp2; go_ret) | go_ret
      all_goals
        have hn := HN.out
        simp at hn
      all_goals first
        | with_reducible refine stepped_none H.out (Below.refl _ _) ?_ hn
        | with_reducible refine stepped_some H.out (Below.refl _ _) ?_ hn
        | with_reducible refine stepped_some (set_one H.out) (below_one _ _ _) ?_ hn
        | with_reducible refine stepped_some (set_two H.out) (below_two _ _ _ _) ?_ hn
        | with_reducible refine stepped_some (set_both H.out) (below_both _ _ _ _) ?_ hn
      all_goals rfl
  · all_goals
      go_wp2_with (first
        | (go_at_call 75; refine (letter_any _ _).mono ?_; rw [HL.out]; rintro e w1 ⟨rfl, rfl⟩)
        | (go_at_call 77; refine (digit_any _ _).mono ?_; rw [HD.out]; rintro e w1 ⟨rfl, rfl⟩)
        | (go_at_call 76; refine (key_any _ _).mono ?_; rw [HK.out]; rintro e w1 ⟨rfl, rfl⟩))
      all_goals first | (go_ret; done) | (rename_i hk; refine hk _ _ ?_; go_wp2; go_ret) | go_ret
      all_goals
        have hn := HN.out
        simp at hn
      all_goals first
        | with_reducible refine stepped_none H.out (Below.refl _ _) ?_ hn
        | with_reducible refine stepped_some H.out (Below.refl _ _) ?_ hn
        | with_reducible refine stepped_some (set_one H.out) (below_one _ _ _) ?_ hn
        | with_reducible refine stepped_some (set_two H.out) (below_two _ _ _ _) ?_ hn
        | with_reducible refine stepped_some (set_both H.out) (below_both _ _ _ _) ?_ hn
      all_goals rfl
  · cases bd
    all_goals
      go_wp2_with (first
        | (go_at_call 75; refine (letter_any _ _).mono ?_; rw [HL.out]; rintro e w1 ⟨rfl, rfl⟩)
        | (go_at_call 77; refine (digit_any _ _).mono ?_; rw [HD.out]; rintro e w1 ⟨rfl, rfl⟩)
        | (go_at_call 76; refine (key_any _ _).mono ?_; rw [HK.out]; rintro e w1 ⟨rfl, rfl⟩))
      all_goals first | (go_ret; done) | (rename_i hk; refine hk _ _ ?_; go_wp2; go_ret) | go_ret
      all_goals
        have hn := HN.out
        simp at hn
      all_goals first
        | with_reducible refine stepped_none H.out (Below.refl _ _) ?_ hn
        | with_reducible refine stepped_some H.out (Below.refl _ _) ?_ hn
        | with_reducible refine stepped_some (set_one H.out) (below_one _ _ _) ?_ hn
        | with_reducible refine stepped_some (set_two H.out) (below_two _ _ _ _) ?_ hn
        | with_reducible refine stepped_some (set_both H.out) (below_both _ _ _ _) ?_ hn
      all_goals rfl
  · cases bd
    all_goals
      go_wp2_with (first
        | (go_at_call 75; refine (letter_any _ _).mono ?_; rw [HL.out]; rintro e w1 ⟨rfl, rfl⟩)
        | (go_at_call 77; refine (digit_any _ _).mono ?_; rw [HD.out]; rintro e w1 ⟨rfl, rfl⟩)
        | (go_at_call 76; refine (key_any _ _).mono ?_; rw [HK.out]; rintro e w1 ⟨rfl, rfl⟩))
      all_goals first | (go_ret; done) | (rename_i hk; refine hk _ _ ?_; go_wp2; go_ret) | go_ret
      all_goals
        have hn := HN.out
        simp at hn
      all_goals first
        | with_reducible refine stepped_none H.out (Below.refl _ _) ?_ hn
        | with_reducible refine stepped_some H.out (Below.refl _ _) ?_ hn
        | with_reducible refine stepped_some (set_one H.out) (below_one _ _ _) ?_ hn
        | with_reducible refine stepped_some (set_two H.out) (below_two _ _ _ _) ?_ hn
        | with_reducible refine stepped_some (set_both H.out) (below_both _ _ _ _) ?_ hn
      all_goals rfl
  · cases bk
    all_goals
      go_wp2_with (first
        | (go_at_call 75; refine (letter_any _ _).mono ?_; rw [HL.out]; rintro e w1 ⟨rfl, rfl⟩)
        | (go_at_call 77; refine (digit_any _ _).mono ?_; rw [HD.out]; rintro e w1 ⟨rfl, rfl⟩)
        | (go_at_call 76; refine (key_any _ _).mono ?_; rw [HK.out]; rintro e w1 ⟨rfl, rfl⟩))
      all_goals first | (go_ret; done) | (rename_i hk; refine hk _ _ ?_; go_wp2; go_ret) | go_ret
      all_goals
        have hn := HN.out
        simp at hn
      all_goals first
        | with_reducible refine stepped_none H.out (Below.refl _ _) ?_ hn
        | with_reducible refine stepped_some H.out (Below.refl _ _) ?_ hn
        | with_reducible refine stepped_some (set_one H.out) (below_one _ _ _) ?_ hn
        | with_reducible refine stepped_some (set_two H.out) (below_two _ _ _ _) ?_ hn
        | with_reducible refine stepped_some (set_both H.out) (below_both _ _ _ _) ?_ hn
      all_goals rfl
  · cases bk
    all_goals
      go_wp2_with (first
        | (go_at_call 75; refine (letter_any _ _).mono ?_; rw [HL.out]; rintro e w1 ⟨rfl, rfl⟩)
        | (go_at_call 77; refine (digit_any _ _).mono ?_; rw [HD.out]; rintro e w1 ⟨rfl, rfl⟩)
        | (go_at_call 76; refine (key_any _ _).mono ?_; rw [HK.out]; rintro e w1 ⟨rfl, rfl⟩))
      all_goals first | (go_ret; done) | (rename_i hk; refine hk _ _ ?_; go_wp2; go_ret) | go_ret
      all_goals
        have hn := HN.out
        simp at hn
      all_goals first
        | with_reducible refine stepped_none H.out (Below.refl _ _) ?_ hn
        | with_reducible refine stepped_some H.out (Below.refl _ _) ?_ hn
        | with_reducible refine stepped_some (set_one H.out) (below_one _ _ _) ?_ hn
        | with_reducible refine stepped_some (set_two H.out) (below_two _ _ _ _) ?_ hn
        | with_reducible refine stepped_some (set_both H.out) (below_both _ _ _ _) ?_ hn
      all_goals rfl
theorem next_any (r : St) (c : Int) (g : Nat) (w : World) (hr : r.ok) (hp : r.pts ≤ 140737488351232) (hg : AtRd w g r) :
    Calls Tryd.prog 63 #[.pointer (some ⟨g, 0, none⟩), .int .u8 c] w (Stepped r c g w) := by
  obtain ⟨p, q⟩ := r
  obtain ⟨h1, h2, h3, h4⟩ := hr
  by_cases h59 : c = 59
  · subst h59
    exact next_59 _ g w hg
  by_cases h48 : c = 48
  · subst h48
    exact next_48 p q g w h1 h2 h3 hp hg
  by_cases h46 : c = 46
  · subst h46
    exact next_46 p q g w h1 h2 h3 hp hg
  exact next_else p q c g w h59 h48 h46 h1 h2 h3 hp hg
end Go.Proofs.YtdonopoijbokiaaDoor
