/- attr.canonical, rosterref04.canon: the canonical type of a type's text. -/
import Derived.Test.YtdonopoijbokiaaDoorFinds
namespace Go.Proofs.YtdonopoijbokiaaDoor
open Go.RowKit Go.Proofs.YtdonopoijbokiaaDoorW.PrintWords

theorem field_name (a b c d e f : Value) (w : World) : (Instr.field 32 (.agg #[a, b, c, d, e, f]) 0).run Tryd.prog w = .ok a w := by kernel_rfl
theorem field_super (a b c d e f : Value) (w : World) : (Instr.field 32 (.agg #[a, b, c, d, e, f]) 3).run Tryd.prog w = .ok d w := by kernel_rfl
theorem field_syntax (a b c d e f : Value) (w : World) : (Instr.field 32 (.agg #[a, b, c, d, e, f]) 4).run Tryd.prog w = .ok e w := by kernel_rfl
/-- The row's first name, or the text folded. -/
noncomputable def canonB (t : ByteArray) : ByteArray := if rowR t < 0 then foldB t else nameAt (rowR t).toNat 0

set_option maxRecDepth 100000 in
set_option maxHeartbeats 1000000 in
theorem canonical_any (s : ByteArray) (w : World) (hs : s.size ≤ 140737488351232) :
    Calls Tryd.prog 49 #[.string s] w fun e w' => e = .returned (.string (canonB s)) ∧ Below w.heap.size w w' := by
  rcases rowR_range s with hr | ⟨h0, h62⟩
  · have hl : look (foldB s) (earlyT ++ lateT) = none := by rw [byName_is, if_pos hr]
    have e1 : noOf (look (foldB s) (earlyT ++ lateT)) = 0 := by rw [hl]; rfl
    have e2 : isOf (look (foldB s) (earlyT ++ lateT)) = false := by rw [hl]; rfl
    go_enter Tryd.func49, Tryd.ntmps49
    go_wp2_with (first | (go_at_call 33; refine (fold_any _ _ hs).mono ?_; rintro e w1 ⟨rfl, hb1⟩) | (go_at_call 45; refine (byName_any _ _).mono ?_; rw [e1, e2]; rintro e w2 ⟨rfl, rfl⟩))
    all_goals go_ret
    exact ⟨by rw [canonB, if_pos hr]; rfl, hb1⟩
  · obtain ⟨k, hk⟩ : ∃ k : Nat, rowR s = k := ⟨_, (Int.toNat_of_nonneg h0).symm⟩
    rw [hk] at h62
    have e1 : noOf (look (foldB s) (earlyT ++ lateT)) = k := by rw [byName_is, if_neg (by omega), hk]; rfl
    have e2 : isOf (look (foldB s) (earlyT ++ lateT)) = true := by rw [byName_is, if_neg (by omega)]; rfl
    have HK := Lib.hid hk
    clear hk h0
    have h62' : k < 62 := by omega
    have hfd := fun a b c d e f w => field_name a b c d e f w
    go_enter Tryd.func49, Tryd.ntmps49
    go_wp2_with (first | (go_at_call 33; refine (fold_any _ _ hs).mono ?_; rintro e w1 ⟨rfl, hb1⟩) | (go_at_call 45; refine (byName_any _ _).mono ?_; rw [e1, e2]; rintro e w2 ⟨rfl, rfl⟩) | (go_at_call 44; refine (rows_row k _ h62').mono ?_; rintro e w2 ⟨v, rfl, hR, hb2⟩; obtain ⟨A, c, rfl, hlc, hC⟩ := Kd.R_reads hR; have HC := Lib.hid hC; clear hC hR; rw [rowCells]))
    all_goals go_ret
    exact ⟨by rw [canonB, if_neg (by rw [HK.out]; omega), HK.out]; rfl, hb1.trans (hb2.mono hb1.size)⟩

set_option maxRecDepth 100000 in
set_option maxHeartbeats 1000000 in
theorem canon_any (s : ByteArray) (w : World) (hs : s.size ≤ 140737488351232) :
    Calls Tryd.prog 70 #[.string s] w fun e w' => e = .returned (.string (canonB s)) ∧ Below w.heap.size w w' := by
  obtain ⟨nv, hnv⟩ : ∃ nv, nv = namesL.toArray := ⟨_, rfl⟩
  rcases rowR_range s with hr | ⟨h0, h62⟩
  · go_enter Tryd.func70, Tryd.ntmps70
    go_wp2_with (first | (go_at_call 46; refine (row_any _ _ hs).mono ?_; rintro e w1 ⟨rfl, hb1⟩; have HB1 := Lib.hid hb1; clear hb1) | (go_at_call 52; refine (fold01_any _ _ hs).mono ?_; rintro e w2 ⟨rfl, hb2⟩))
    all_goals go_ret
    exact ⟨by rw [canonB, if_pos hr]; rfl, HB1.out.trans (hb2.mono HB1.out.size)⟩
  · obtain ⟨k, hk⟩ : ∃ k : Nat, rowR s = k := ⟨_, (Int.toNat_of_nonneg h0).symm⟩
    rw [hk] at h62
    have hrow := row_any s w hs
    rw [hk] at hrow
    have HK := Lib.hid hk
    clear hk h0
    have h62' : k < 62 := by omega
    go_enter Tryd.func70, Tryd.ntmps70
    go_wp2_with (first | (go_at_call 46; refine hrow.mono ?_; rintro e w1 ⟨rfl, hb1⟩) | (go_at_call 53; refine (names_any _).mono ?_; rw [← hnv]; rintro e w2 ⟨rfl, hb2⟩; rw [hnv]) | (refine wpList_store_names rfl _ _ rfl rfl rfl ?_; intro W3 hN hb3; have hB3 := (hb1.trans (hb2.mono hb1.size)).trans (hb3.mono (Nat.le_trans hb1.size hb2.size)); have HN := Lib.hid hN; generalize w2.heap.size = g at HN ⊢; clear hb1 hb2 hb3 hN hnv; have c0 : W3.cell? ⟨g, k * 3, none⟩ = some (.string (nameAt k 0)) := HN.out.cell k 0 (by omega)))
    all_goals go_ret
    exact ⟨by rw [canonB, if_neg (by rw [HK.out]; omega), HK.out]; rfl, hB3⟩
end Go.Proofs.YtdonopoijbokiaaDoor
