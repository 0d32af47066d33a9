/- AttrFinds: for every name attr.Find answers what the document's Find answers. No condition beside the row's own list of the table kinds. -/
import Derived.Test.YtdonopoijbokiaaDoorFinds
namespace Go.Proofs.YtdonopoijbokiaaDoor
open Go.RowKit Go.Proofs.YtdonopoijbokiaaDoorW.PrintWords

theorem findAlias_length (r : Int) : (findAlias r).length ≤ 1 := by
  unfold findAlias
  split
  · simp
  · exact aliasAt_length _
theorem C_of_R {w : World} {base e : Nat} {ok : Nat → Prop} {A : Option Addr} {c : Nat} {xs : List ByteArray} (h : Kd.R Kd.string e w base ok (.slice A xs.length c) xs) : Kd.C Kd.string w A xs.length xs := by
  obtain ⟨A', c', he, _, hC⟩ := Kd.R_reads h
  injection he with e1 _ _
  subst e1
  exact hC
theorem findCells_form (r : Int) : ∃ (a b t : ByteArray) (x y : Int), ∀ v, findCells r v = #[.string a, v, .string b, .string t, .int .i64 x, .int .i64 y] := by
  by_cases h : r < 0
  · exact ⟨_, _, _, _, _, fun v => by rw [findCells, if_pos h]⟩
  · exact ⟨_, _, _, _, _, fun v => by rw [findCells, if_neg h, rowCells]⟩

set_option maxRecDepth 100000 in
set_option maxHeartbeats 1000000 in
theorem attrFinds_walk (s : ByteArray) (w : World) (hs : s.size ≤ 140737488351232) (hG : KindsAt w) :
    Calls Tryd.prog 4 #[.string s] w fun e w' => e = .returned (.bool true) ∧ Below w.heap.size w w' := by
  have HG := Lib.hid hG
  clear hG
  obtain ⟨a, b, t, x, y, hf⟩ := findCells_form (rowR s)
  have HF := Lib.hid hf
  obtain ⟨bo, hbo⟩ : ∃ bo, decide (0 ≤ rowR s) = bo := ⟨_, rfl⟩
  have HO := Lib.hid hbo
  obtain ⟨l, hal⟩ : ∃ l, findAlias (rowR s) = l := ⟨_, rfl⟩
  have hll : l.length ≤ 1 := by rw [← hal]; exact findAlias_length _
  have HA := Lib.hid hal
  clear hf hbo hal
  go_enter Tryd.func4, Tryd.ntmps4
  go_wp2_with (go_at_call 19; refine (find_any _ _ hs).mono ?_; rw [HO.out, HA.out]; rintro e w1 ⟨v1, rfl, hR1, hb1⟩; rw [HF.out]; obtain ⟨A1, c1, rfl⟩ := Kd.R_slice hR1; have HR1 := Lib.hid hR1; have HB1 := Lib.hid hb1; clear hR1 hb1)
  refine (findR_any _ _ hs (HG.out.below (HB1.out.trans (((Below.refl w1.heap.size w1).alloc (Nat.le_refl _) _).mono HB1.out.size)))).mono ?_
  rw [HO.out, HA.out]
  rintro e w2 ⟨v2, rfl, hR2, hb2⟩
  rw [HF.out]
  obtain ⟨A2, c2, rfl⟩ := Kd.R_slice hR2
  have hlt : w1.heap.size < w2.heap.size := by
    have := hb2.size
    simp at this
    omega
  obtain ⟨⟨q0, q1, q2, q3, q4, q5⟩, qf⟩ := cells6 ((hb2.block w1.heap.size (by simp)).trans (heap_alloc_new w1 _))
  have hC1 := Kd.C_below (C_of_R HR1.out) (alloc_then hb2)
  have hC2 := C_of_R hR2
  have HC1 := Lib.hid hC1
  have HC2 := Lib.hid hC2
  have HB2 := Lib.hid hb2
  clear hR2 hb2 hC1 hC2
  go_wp2_with (go_at_call 17; refine (sameRow_eq _ _ _ _ _ _ _ _ _ l _ (Kd.C_below HC1.out ((Below.refl _ w2).alloc (Nat.le_refl _) _)) (Kd.C_below HC2.out ((Below.refl _ w2).alloc (Nat.le_refl _) _)) (by omega)).mono ?_; rintro e w3 ⟨rfl, hb3⟩)
  go_ret
  exact ⟨rfl, HB1.out.trans ((alloc_then HB2.out).trans ((alloc_then hb3).mono (Nat.le_of_lt hlt)) |>.mono HB1.out.size)⟩
end Go.Proofs.YtdonopoijbokiaaDoor
