/- rosterref04.row: the number of the row that a text names; -1: none. -/
import Derived.Test.YtdonopoijbokiaaDoorNames
import Derived.Test.YtdonopoijbokiaaDoorFold01
namespace Go.Proofs.YtdonopoijbokiaaDoor
open Go.RowKit Go.Proofs.YtdonopoijbokiaaDoorW.PrintWords

def strOf : Value → ByteArray
  | .string s => s
  | _ => .empty
/-- The table of names: row i's text j. -/
noncomputable def nameAt (i j : Nat) : ByteArray := strOf (namesL.getD (i * 3 + j) undef)
theorem names_strs : (namesL.all fun v => match v with | .string _ => true | _ => false) = true := by kernel_rfl
theorem nameAt_is (i j : Nat) (h : i * 3 + j < 186) : namesL[i * 3 + j]? = some (.string (nameAt i j)) := by
  have h' : i * 3 + j < namesL.length := by rw [namesL_length]; exact h
  have hm := List.all_eq_true.1 names_strs _ (List.getElem_mem h')
  unfold nameAt
  rw [List.getD_eq_getElem?_getD, List.getElem?_eq_getElem h', Option.getD_some]
  generalize namesL[i * 3 + j] = v at hm ⊢
  cases v <;> first | rfl | exact absurd hm (by simp)

/-- The row's names meet the folded text. -/
noncomputable def rowMeets (t : ByteArray) (i : Nat) : Bool := t.toList == (nameAt i 0).toList || (t.toList == (nameAt i 1).toList && !t.toList.isEmpty) || t.toList == (nameAt i 2).toList
/-- The row that a folded text names. -/
noncomputable def rowFrom (t : ByteArray) : Nat → Nat → Int
  | 0, _ => -1
  | n + 1, i => if rowMeets t i then i else rowFrom t n (i + 1)
noncomputable def rowR (s : ByteArray) : Int := rowFrom (foldB s) 62 0

/-- A variable that holds the table of names. -/
structure NamesAt (w : World) (g : Nat) : Prop where
  lt : g < w.heap.size
  cell : ∀ i j, i * 3 + j < 186 → w.cell? ⟨g, i * 3 + j, none⟩ = some (.string (nameAt i j))
theorem NamesAt.below {w w' : World} {g : Nat} (h : NamesAt w g) (hb : Below w.heap.size w w') : NamesAt w' g :=
  ⟨Nat.lt_of_lt_of_le h.lt hb.size, fun i j hk => (hb.cell (p := ⟨g, i * 3 + j, none⟩) h.lt).trans (h.cell i j hk)⟩
theorem names_size : (Tryd.prog.info? 79).map (·.size) = some namesL.toArray.size := by kernel_rfl
theorem names_zero : Tryd.zeroCells79.size = namesL.toArray.size := by kernel_rfl
theorem names_one : namesL.toArray.all (·.oneCell') = true := by kernel_rfl
/-- What names answers, stored into a new variable. -/
theorem wpList_store_names {ops : Array Oper} {rest : List Oper} {o : Oper} {a : Act} {W : World} {Q : Exit → Act → World → Prop} (hgd : o.guard = none) (x y : Operand) (ho : o.op = .store 79 x y)
    (hx : a.eval x = .pointer (some ⟨W.heap.size, 0, none⟩)) (hy : a.eval y = .agg namesL.toArray)
    (h : ∀ W', NamesAt W' W.heap.size → Below W.heap.size W W' → wpList Tryd.prog ops Q rest (a.put o.dst undef) W') :
    wpList Tryd.prog ops Q (o :: rest) a (W.alloc (.cells Tryd.zeroCells79 79)) := by
  have hg := heap_alloc_new W (.cells Tryd.zeroCells79 79)
  refine wpList_store_row hgd 79 x y ho W.heap.size namesL.toArray hx hy 79 Tryd.zeroCells79 hg names_size names_zero names_one (h _ ⟨by simp, fun i j hk => ?_⟩ ?_)
  · rw [cell_setRow_same _ _ _ _ _ _ _ hg, ← nameAt_is i j hk]
    simp
  · exact ⟨rfl, rfl, rfl, by simp, fun i hi => by rw [setRow_other _ _ _ _ (by omega)]; exact ((Below.refl _ W).alloc (Nat.le_refl _) _).block i hi⟩

theorem row_hit {r : Int} {t : ByteArray} {k : Nat} (h1 : r = rowFrom t 62 0) (h2 : rowFrom t 62 0 = rowFrom t (62 - k) k) (h3 : rowMeets t k = true) (hk : k < 62) : Ending.returned (.int .i64 k) = Ending.returned (.int .i64 r) := by
  rw [h1, h2, show 62 - k = (61 - k) + 1 by omega, rowFrom, if_pos h3]
theorem row_miss {t : ByteArray} {k : Nat} (h2 : rowFrom t 62 0 = rowFrom t (62 - k) k) (h3 : rowMeets t k = false) (hk : k < 62) : rowFrom t 62 0 = rowFrom t (62 - (k + 1)) (k + 1) := by
  rw [h2, show 62 - k = (62 - (k + 1)) + 1 by omega, rowFrom, if_neg (by rw [h3]; decide)]
set_option maxRecDepth 100000 in
set_option maxHeartbeats 1000000 in
theorem row_any (s : ByteArray) (w : World) (hs : s.size ≤ 140737488351232) :
    Calls Tryd.prog 46 #[.string s] w fun e w' => e = .returned (.int .i64 (rowR s)) ∧ Below w.heap.size w w' := by
  obtain ⟨nv, hnv⟩ : ∃ nv, nv = namesL.toArray := ⟨_, rfl⟩
  go_enter Tryd.func46, Tryd.ntmps46
  go_wp2_with (first | (go_at_call 52; refine (fold01_any _ _ hs).mono ?_; rintro e w1 ⟨rfl, hb1⟩) | (go_at_call 53; refine (names_any _).mono ?_; rw [← hnv]; rintro e w2 ⟨rfl, hb2⟩; rw [hnv]) | (refine wpList_store_names rfl _ _ rfl rfl rfl ?_; intro W3 hN hb3; have hB3 := (hb1.trans (hb2.mono hb1.size)).trans (hb3.mono (Nat.le_trans hb1.size hb2.size)); have HN := Lib.hid hN; generalize w2.heap.size = g at HN ⊢; clear hb1 hb2 hb3 hN hnv))
  obtain ⟨t, ht⟩ : ∃ t, foldB s = t := ⟨_, rfl⟩
  rw [ht]
  have hr : rowR s = rowFrom t 62 0 := by rw [rowR, ht]
  have HQ := Lib.hid hr
  clear hr ht
  go_loop [5] (fun i => ∃ k : Nat, k ≤ 62 ∧ i = .int .i64 k ∧ Hid (rowFrom t 62 0 = rowFrom t (62 - k) k)) (fun i => 62 - (intOf i).toNat)
  case atStart => exact ⟨0, by omega, rfl, Lib.hid rfl⟩
  case round =>
    obtain ⟨k, hk, rfl, HF⟩ := hrel
    by_cases hlt : k < 62
    · have c0 : W3.cell? ⟨g, k * 3, none⟩ = some (.string (nameAt k 0)) := HN.out.cell k 0 (by omega)
      have c1 := HN.out.cell k 1 (by omega)
      have c2 := HN.out.cell k 2 (by omega)
      have hm : rowMeets t k = (t.toList == (nameAt k 0).toList || (t.toList == (nameAt k 1).toList && !t.toList.isEmpty) || t.toList == (nameAt k 2).toList) := rfl
      cases b0 : (t.toList == (nameAt k 0).toList) with
      | true =>
        have HM := Lib.hid (show rowMeets t k = true by rw [hm, b0]; rfl)
        clear hm
        go_wp2
        go_ret
        exact ⟨row_hit HQ.out HF.out HM.out hlt, hB3⟩
      | false =>
        cases b1 : (t.toList == (nameAt k 1).toList) <;> cases b2 : t.toList.isEmpty <;> cases b3 : (t.toList == (nameAt k 2).toList)
        all_goals
          have HM := Lib.hid (hm.trans (by rw [b0, b1, b2, b3]))
          clear hm
          go_wp2
          first
          | (go_ret; exact ⟨row_hit HQ.out HF.out HM.out hlt, hB3⟩)
          | (go_round
             case rel => exact ⟨k + 1, by omega, by go_num, row_miss HF.out HM.out hlt⟩
             case measure => simp [intOf]; omega)
    · go_wp2
      go_ret
      exact ⟨by rw [HQ.out, HF.out, show 62 - k = 0 by omega]; rfl, hB3⟩
end Go.Proofs.YtdonopoijbokiaaDoor
