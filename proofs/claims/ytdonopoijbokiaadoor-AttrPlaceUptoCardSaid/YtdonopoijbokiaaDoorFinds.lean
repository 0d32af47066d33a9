/- The row that a text names, told alike by both sides; attr.Find, rosterref04.Find. -/
import Derived.Test.YtdonopoijbokiaaDoorCopied
namespace Go.Proofs.YtdonopoijbokiaaDoor
open Go.RowKit Go.Proofs.YtdonopoijbokiaaDoorW.PrintWords

/-! ### The two tables are one -/
noncomputable def constsAt (i : Nat) : List ByteArray := if (nameAt i 1).toList.isEmpty then [nameAt i 0, nameAt i 2] else [nameAt i 0, nameAt i 1, nameAt i 2]
theorem table_is : earlyT ++ lateT = (List.range' 0 62).map fun (i : Nat) => (constsAt i, (i : Int)) := by kernel_rfl
theorem hit_meets (t : ByteArray) (i : Nat) : hit t (constsAt i) = rowMeets t i := by
  unfold constsAt rowMeets hit
  cases he : (nameAt i 1).toList.isEmpty
  · simp only [Bool.false_eq_true, if_false, List.any_cons, List.any_nil, Bool.or_false]
    cases ht : t.toList.isEmpty
    · simp [Bool.or_assoc]
    · have e1 : t.toList = [] := by simpa using ht
      have e2 : (t.toList == (nameAt i 1).toList) = false := by
        rw [e1]
        cases hx : (nameAt i 1).toList with
        | nil => simp [hx] at he
        | cons b l => rfl
      simp [e2]
  · have e1 : (nameAt i 1).toList = [] := by simpa using he
    simp only [if_true, List.any_cons, List.any_nil, Bool.or_false, e1]
    cases ht : t.toList <;> simp
theorem look_rows (t : ByteArray) : ∀ (n i : Nat), look t ((List.range' i n).map fun (i : Nat) => (constsAt i, (i : Int))) = if rowFrom t n i < 0 then none else some (rowFrom t n i)
  | 0, i => rfl
  | n + 1, i => by
    rw [List.range'_succ, List.map_cons, look, rowFrom, hit_meets]
    cases rowMeets t i
    · simpa using look_rows t n (i + 1)
    · simp
theorem rowFrom_range (t : ByteArray) : ∀ (n i : Nat), rowFrom t n i < 0 ∨ (i ≤ rowFrom t n i ∧ rowFrom t n i < i + n)
  | 0, i => .inl (by rw [rowFrom]; decide)
  | n + 1, i => by
    rw [rowFrom]
    split
    · exact .inr ⟨by omega, by omega⟩
    · rcases rowFrom_range t n (i + 1) with h | h
      · exact .inl h
      · exact .inr ⟨by omega, by omega⟩
theorem rowR_range (s : ByteArray) : rowR s < 0 ∨ (0 ≤ rowR s ∧ rowR s < 62) := by
  have := rowFrom_range (foldB s) 62 0
  simpa [rowR] using this
theorem byName_is (s : ByteArray) : look (foldB s) (earlyT ++ lateT) = if rowR s < 0 then none else some (rowR s) := by
  rw [table_is, look_rows]
  rfl

/-! ### What Find answers -/
noncomputable def findCells (r : Int) (v : Value) : Array Value := if r < 0 then #[.string ⟨#[]⟩, v, .string ⟨#[]⟩, .string ⟨#[]⟩, .int .i64 0, .int .i64 0] else rowCells r.toNat v
noncomputable def findAlias (r : Int) : List ByteArray := if r < 0 then [] else aliasAt r.toNat
theorem aliasAt_length (i : Nat) : (aliasAt i).length ≤ 1 := by
  unfold aliasAt
  split <;> simp

/-- A struct in a variable, and a slot. -/
theorem results_row_tmp {P : Program} {fn : Func} {p u : Tmp} {ty : TypeId} (h : fn.results = #[.cell p ty, .tmp u]) (tmps : Array Value) (w : World) (g : Nat) (t : TypeId) (cs : Array Value) (fr : Nat × Nat) (d : TypeDesc)
    (hp : tmps.getD p undef = .pointer (some ⟨g, 0, none⟩)) (hg : w.heap[g]? = some (.cells cs t fr))
    (hu : P.underlying ty = some d) (hd : (match d with | .struct _ | .array _ _ => true | _ => false) = true) (hi : (P.info? ty).map (·.size) = some cs.size) :
    (results fn tmps).run P w = .ok (.tuple #[.agg cs, tmps.getD u undef]) w := by
  rw [results_cell_tmp h, hp]
  simp [asAddr, run_loadVar_row w g t ty cs fr d hg hu hd hi]

theorem setRow_below {w0 w : World} {g : Nat} (h : Below w0.heap.size w0 w) (hg : w0.heap.size ≤ g) (c : Array Value) : Below w0.heap.size w0 (w.setRow g c) :=
  ⟨h.os, h.tape, h.output, by rw [size_setRow]; exact h.size, fun i hi => by rw [setRow_other _ _ _ _ (by omega)]; exact h.block i hi⟩
theorem alloc_then {w w' : World} {o : Obj} (h : Below (w.alloc o).heap.size (w.alloc o) w') : Below w.heap.size w w' := ((Below.refl _ w).alloc (Nat.le_refl _) _).trans (h.mono (by simp))
/-- What was made behind block g, and what it holds, is not touched by a row stored into g. -/
theorem R_setRow {w : World} {base g e : Nat} {v : Value} {xs : List ByteArray} (h : Kd.R Kd.string e w (g + 1) (fun _ => True) v xs) (hb : base ≤ g + 1) (c : Array Value) : Kd.R Kd.string e (w.setRow g c) base (fun _ => True) v xs :=
  Kd.R_mono (ok := fun b => True ∧ b ≠ g) (Kd.R_move (Kd.R_lower (Kd.R_mono (Kd.R_bound h) (fun b hb' => ⟨trivial, by have := hb'.2.1; omega⟩)) hb) (fun b hb' => setRow_other _ _ _ _ hb'.2)) (fun _ _ => trivial)

def zeroRow : Array Value := #[.string ⟨#[]⟩, .slice none 0 0, .string ⟨#[]⟩, .string ⟨#[]⟩, .int .i64 0, .int .i64 0]
theorem zeroRow_one : zeroRow.all (·.oneCell') = true := by simp [zeroRow, Value.oneCell']

set_option maxRecDepth 100000 in
set_option maxHeartbeats 1000000 in
theorem find_any (s : ByteArray) (w : World) (hs : s.size ≤ 140737488351232) :
    Calls Tryd.prog 19 #[.string s] w fun e w' => ∃ v, e = .returned (.tuple #[.agg (findCells (rowR s) v), .bool (decide (0 ≤ rowR s))]) ∧ Kd.R Kd.string 9 w' w.heap.size (fun _ => True) v (findAlias (rowR s)) ∧ Below w.heap.size w w' := by
  rcases rowR_range s with hr | ⟨h0, h62⟩
  · have hl : look (foldB s) (earlyT ++ lateT) = none := by rw [byName_is, if_pos hr]
    have e1 : noOf (look (foldB s) (earlyT ++ lateT)) = 0 := by rw [hl]; rfl
    have e2 : isOf (look (foldB s) (earlyT ++ lateT)) = false := by rw [hl]; rfl
    go_enter Tryd.func19, Tryd.ntmps19
    go_wp2_with (first | (go_at_call 33; refine (fold_any _ _ hs).mono ?_; rintro e w1 ⟨rfl, hb1⟩) | (go_at_call 45; refine (byName_any _ _).mono ?_; rw [e1, e2]; rintro e w2 ⟨rfl, rfl⟩) | (refine wpList_store_row rfl 32 (.tmp 2) (.tmp 14) rfl w.heap.size zeroRow rfl rfl 32 _ (newKept hb1) size32 rfl zeroRow_one ?_))
    (try simp only [Exit.inBlock, Exit.then])
    refine bodyPost_ret (results_row_tmp rfl _ _ w.heap.size 32 zeroRow (0, 0) _ rfl (setRow_heap _ _ _ _ _ _ (newKept hb1)) Tryd.underlying32 rfl (by kernel_rfl)) rfl ⟨.slice none 0 0, ?_, ?_, setRow_below (alloc_then hb1) (Nat.le_refl _) _⟩
    · rw [findCells, if_pos hr, decide_eq_false (by omega)]
      rfl
    · rw [findAlias, if_pos hr]
      exact Kd.R_nil _ _ _ _ _
  · obtain ⟨k, hk⟩ : ∃ k : Nat, rowR s = k := ⟨_, (Int.toNat_of_nonneg h0).symm⟩
    rw [hk] at h62
    have e1 : noOf (look (foldB s) (earlyT ++ lateT)) = k := by rw [byName_is, if_neg (by omega), hk]; rfl
    have e2 : isOf (look (foldB s) (earlyT ++ lateT)) = true := by rw [byName_is, if_neg (by omega)]; rfl
    have HK := Lib.hid hk
    clear hk h0
    have h62' : k < 62 := by omega
    go_enter Tryd.func19, Tryd.ntmps19
    go_wp2_with (first | (go_at_call 33; refine (fold_any _ _ hs).mono ?_; rintro e w1 ⟨rfl, hb1⟩) | (go_at_call 45; refine (byName_any _ _).mono ?_; rw [e1, e2]; rintro e w2 ⟨rfl, rfl⟩) | (go_at_call 44; refine (rows_row k _ h62').mono ?_; rintro e w2 ⟨v, rfl, hR, hb2⟩; obtain ⟨A, c, rfl, hlc, hC⟩ := Kd.R_reads hR; have HC := Lib.hid hC; clear hC hR) | (go_at_call 43; refine (copied_any _ _ _ A c (aliasAt k) _ _ _ HC.out (by have := aliasAt_length k; omega)).mono ?_; rintro e w3 ⟨v3, rfl, hR3, hb3⟩) | (refine wpList_store_row rfl 32 (.tmp 2) (.tmp 17) rfl w.heap.size (rowCells k v3) rfl rfl 32 _ (newKept (hb1.trans ((hb2.mono hb1.size).trans (hb3.mono (Nat.le_trans hb1.size hb2.size))))) size32 rfl (one_of_R hR3) ?_))
    (try simp only [Exit.inBlock, Exit.then])
    have hb13 := hb1.trans ((hb2.mono hb1.size).trans (hb3.mono (Nat.le_trans hb1.size hb2.size)))
    have hlt : w.heap.size < w2.heap.size := by
      have h1 := hb1.size
      have h2 := hb2.size
      simp at h1
      omega
    refine bodyPost_ret (results_row_tmp rfl _ _ w.heap.size 32 (rowCells k v3) (0, 0) _ rfl (setRow_heap _ _ _ _ _ _ (newKept hb13)) Tryd.underlying32 rfl (by kernel_rfl)) rfl ⟨v3, ?_, ?_, setRow_below (alloc_then hb13) (Nat.le_refl _) _⟩
    · rw [findCells, HK.out, if_neg (by omega), decide_eq_true (show (0 : Int) ≤ (k : Int) by omega)]
      rfl
    · rw [findAlias, HK.out, if_neg (by omega)]
      exact R_setRow (Kd.R_lower hR3 hlt) (by omega) _

set_option maxRecDepth 100000 in
set_option maxHeartbeats 1000000 in
theorem findR_any (s : ByteArray) (w : World) (hs : s.size ≤ 140737488351232) (hG : KindsAt w) :
    Calls Tryd.prog 20 #[.string s] w fun e w' => ∃ v, e = .returned (.tuple #[.agg (findCells (rowR s) v), .bool (decide (0 ≤ rowR s))]) ∧ Kd.R Kd.string 9 w' w.heap.size (fun _ => True) v (findAlias (rowR s)) ∧ Below w.heap.size w w' := by
  have HG := Lib.hid hG
  clear hG
  rcases rowR_range s with hr | ⟨h0, h62⟩
  · go_enter Tryd.func20, Tryd.ntmps20
    go_wp2_with (first | (go_at_call 46; refine (row_any _ _ hs).mono ?_; rintro e w1 ⟨rfl, hb1⟩) | (refine wpList_store_row rfl 32 (.tmp 2) (.tmp 9) rfl w.heap.size zeroRow rfl rfl 32 _ (newKept hb1) size32 rfl zeroRow_one ?_))
    (try simp only [Exit.inBlock, Exit.then])
    refine bodyPost_ret (results_row_tmp rfl _ _ w.heap.size 32 zeroRow (0, 0) _ rfl (setRow_heap _ _ _ _ _ _ (newKept hb1)) Tryd.underlying32 rfl (by kernel_rfl)) rfl ⟨.slice none 0 0, ?_, ?_, setRow_below (alloc_then hb1) (Nat.le_refl _) _⟩
    · rw [findCells, if_pos hr, decide_eq_false (by omega)]
      rfl
    · rw [findAlias, if_pos hr]
      exact Kd.R_nil _ _ _ _ _
  · obtain ⟨k, hk⟩ : ∃ k : Nat, rowR s = k := ⟨_, (Int.toNat_of_nonneg h0).symm⟩
    have hrow := row_any s (w.alloc (.cells zeroRow 32)) hs
    rw [hk] at h62 hrow
    have HK := Lib.hid hk
    clear hk h0
    have h62' : k < 62 := by omega
    go_enter Tryd.func20, Tryd.ntmps20
    go_wp2_with (first | (go_at_call 46; refine hrow.mono ?_; rintro e w1 ⟨rfl, hb1⟩) | (go_at_call 41; refine (rowOf_any k _ h62' (HG.out.below (alloc_then hb1))).mono ?_; rintro e w2 ⟨v3, rfl, hR3, hb2⟩) | (refine wpList_store_row rfl 32 (.tmp 2) (.tmp 11) rfl w.heap.size (rowCells k v3) rfl rfl 32 _ (newKept (hb1.trans (hb2.mono hb1.size))) size32 rfl (one_of_R hR3) ?_))
    (try simp only [Exit.inBlock, Exit.then])
    have hb13 := hb1.trans (hb2.mono hb1.size)
    have hlt : w.heap.size < w1.heap.size := by
      have h1 := hb1.size
      simp at h1
      omega
    refine bodyPost_ret (results_row_tmp rfl _ _ w.heap.size 32 (rowCells k v3) (0, 0) _ rfl (setRow_heap _ _ _ _ _ _ (newKept hb13)) Tryd.underlying32 rfl (by kernel_rfl)) rfl ⟨v3, ?_, ?_, setRow_below (alloc_then hb13) (Nat.le_refl _) _⟩
    · rw [findCells, HK.out, if_neg (by omega), decide_eq_true (show (0 : Int) ≤ (k : Int) by omega)]
      rfl
    · rw [findAlias, HK.out, if_neg (by omega)]
      exact R_setRow (Kd.R_lower hR3 hlt) (by omega) _
end Go.Proofs.YtdonopoijbokiaaDoor
