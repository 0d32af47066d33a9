/- attr.copied; rosterlaw04.same and sameRow of equal things; attr.Find and rosterref04.Find. -/
import Derived.Test.YtdonopoijbokiaaDoorRowsB
import Derived.Test.YtdonopoijbokiaaDoorFold
namespace Go.Proofs.YtdonopoijbokiaaDoor
open Go.RowKit Go.Proofs.YtdonopoijbokiaaDoorW.PrintWords

theorem below_of_grown_nil {W w1 : World} (hg : W.grownBy w1 (Value.slice none 0 0).ownBlock) : Below W.heap.size W w1 :=
  (Below.refl _ W).grown hg (Nat.le_refl _) (fun k e => by simp [Value.ownBlock] at e)

theorem two_below (w : World) (o o' : Obj) : Below w.heap.size w ((w.alloc o).alloc o') := ((Below.refl _ w).alloc (Nat.le_refl _) _).alloc (by simp) _

set_option maxRecDepth 100000 in
set_option maxHeartbeats 1000000 in
theorem copied_any (a b s : ByteArray) (A : Option Addr) (c : Nat) (xs : List ByteArray) (x y : Int) (w : World) (hC : Kd.C Kd.string w A xs.length xs) (hn : xs.length * 16 ≤ 140737488355328) :
    Calls Tryd.prog 43 #[.agg #[.string a, .slice A xs.length c, .string b, .string s, .int .i64 x, .int .i64 y]] w fun e w' => ∃ v, e = .returned (.agg #[.string a, v, .string b, .string s, .int .i64 x, .int .i64 y]) ∧ Kd.R Kd.string 9 w' w.heap.size (fun _ => True) v xs ∧ Below w.heap.size w w' := by
  have HC := Lib.hid hC
  clear hC
  go_enter Tryd.func43, Tryd.ntmps43
  go_wp2_with (at_builtin; refine Kd.R_append_row (w0 := w) Value.string ByteArray.empty (h1 := fun _ => rfl) w.heap.size rfl (.const (.slice none 0 0)) (.tmp 4) 28 9 (.string ⟨#[]⟩) 16 rfl Tryd.underlying28 info9 rfl (by omega) (.slice none 0 0) [] xs A xs.length c (fun b => w.heap.size + 2 ≤ b) rfl rfl (fun k hk => by simp at hk; omega) (Kd.R_nil _ _ _ _ _) (Kd.C_below HC.out (two_below w _ _)) (two_below w _ _) (by simp; omega) (by simpa using hn) ?_; intro v1 w1 hR hB hg _; have hb := Lib.hid (below_of_grown_nil hg); have h0 := (hb.out.block w.heap.size (by simp; omega)).trans (heap_alloc2_old w _ _); have h1 := (hb.out.block (w.heap.size + 1) (by simp)).trans (heap_alloc2_new w _ _); obtain ⟨A1, c1, rfl⟩ := Kd.R_slice hR; have HR := Lib.hid hR; have HB := Lib.hid hB; have H0 := Lib.hid h0; have H1 := Lib.hid h1; clear hR hB hg hb; obtain ⟨⟨q0, q1, q2, q3, q4, q5⟩, qf⟩ := cells6 h0; obtain ⟨⟨z0, z1, z2, z3, z4, z5⟩, zf⟩ := cells6 h1; clear h0 h1)
  refine bodyPost_ret (results_cell_row rfl _ _ (w.heap.size + 1) 32 #[.string a, .slice A1 xs.length c1, .string b, .string s, .int .i64 x, .int .i64 y] (0, 0) _ rfl
    (six_block ((heap_setCell_other _ _ _ _ (by simp)).trans H1.out) _ _ _ _ _ _) Tryd.underlying32 rfl (by kernel_rfl)) rfl ⟨.slice A1 xs.length c1, rfl, ?_, ?_⟩
  · refine Kd.R_mono (ok := fun b => w.heap.size + 2 ≤ b) ?_ (fun _ _ => trivial)
    iterate 7 (first | (with_reducible refine Kd.R_far ?_ (fun b hb => (?_ : b ≠ _)) _; rotate_left; (· simp; omega)) | skip)
    exact HR.out
  · repeat (first | (with_reducible exact HB.out) | (with_reducible refine Below.setCell ?_ (by simp) _))

/-! ### same, sameRow: of equal things -/
set_option maxRecDepth 100000 in
set_option maxHeartbeats 1000000 in
theorem same_eq (A B : Option Addr) (c d : Nat) (xs : List ByteArray) (w : World) (hA : Kd.C Kd.string w A xs.length xs) (hB : Kd.C Kd.string w B xs.length xs) (hn : xs.length ≤ 140737488355328) :
    Calls Tryd.prog 26 #[.slice A xs.length c, .slice B xs.length d] w fun e w' => e = .returned (.bool true) ∧ Drawn0 w w' := by
  have HA := Lib.hid hA
  have HB := Lib.hid hB
  clear hA hB
  obtain ⟨n, hx⟩ : ∃ n, xs.length = n := ⟨_, rfl⟩
  rw [hx] at HA HB hn ⊢
  clear hx
  go_enter Tryd.func26, Tryd.ntmps26
  go_wp2
  go_loopw [5] (fun i wr => ∃ x : Int, 0 ≤ x ∧ x ≤ n ∧ i = .int .i64 x ∧ Drawn0 w wr) (fun i wr => n - (intOf i).toNat)
  case atStart => exact ⟨0, Int.le_refl _, by omega, rfl, Drawn0.refl _⟩
  case round =>
    obtain ⟨x, hx0, hx1, rfl, ⟨m, rfl⟩⟩ := hrel
    by_cases hlt : x < n
    · obtain ⟨ad1, e1, hc1⟩ := Kd.at_string HA.out x hx0 hlt
      obtain ⟨ad2, e2, hc2⟩ := Kd.at_string HB.out x hx0 hlt
      cases e1
      cases e2
      go_wp2
      repeat (go_quiet (fail); try go_wp2)
      go_roundw
      case rel => exact ⟨x + 1, by omega, by omega, by go_num, Drawn0.step (Drawn0.refl _) _⟩
      case measure => simp [intOf]; omega
    · go_wp2
      go_ret
      exact ⟨rfl, Drawn0.step (Drawn0.refl _) _⟩

set_option maxRecDepth 100000 in
set_option maxHeartbeats 1000000 in
theorem sameRow_eq (a b s : ByteArray) (x y : Int) (A B : Option Addr) (c d : Nat) (xs : List ByteArray) (w : World) (hA : Kd.C Kd.string w A xs.length xs) (hB : Kd.C Kd.string w B xs.length xs) (hn : xs.length ≤ 140737488355328) :
    Calls Tryd.prog 17 #[.agg #[.string a, .slice A xs.length c, .string b, .string s, .int .i64 x, .int .i64 y], .agg #[.string a, .slice B xs.length d, .string b, .string s, .int .i64 x, .int .i64 y]] w fun e w' => e = .returned (.bool true) ∧ Below w.heap.size w w' := by
  have HA := Lib.hid hA
  have HB := Lib.hid hB
  clear hA hB
  go_enter Tryd.func17, Tryd.ntmps17
  go_wp2_with (go_at_call 26; refine (same_eq _ _ _ _ xs _ (Kd.C_below HA.out (two_below w _ _)) (Kd.C_below HB.out (two_below w _ _)) hn).mono ?_; rintro e w' ⟨rfl, hD⟩)
  go_ret
  exact ⟨rfl, (two_below w _ _).trans (hD.below.mono (by simp; omega))⟩
end Go.Proofs.YtdonopoijbokiaaDoor
