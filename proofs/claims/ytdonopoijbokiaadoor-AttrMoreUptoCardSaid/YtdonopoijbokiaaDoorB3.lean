/- text.Fold: what it answers. rosterref01.Fold: what it answers. rosterref04.row: the number of the row that a text names; -1: none. rosterref04.Row: what is told of a row. -/
import Derived.Test.YtdonopoijbokiaaDoorB2
import Derived.Test.YtdonopoijbokiaaDoorB1
import Derived.Deep.RegionHeld3
import Derived.Deep.RegionLaw
import Derived.Deep.AppendLies
set_option linter.unusedVariables false
set_option linter.unusedSimpArgs false

/-! ### Fold -/
namespace Go.Proofs.YtdonopoijbokiaaDoor
open Go.RowKit Go.Proofs.YtdonopoijbokiaaDoorW.PrintWords

/-- A block whose first n cells are bytes, none of them frozen. -/
structure ByteRow (w : World) (g n : Nat) (f : Nat → Int) : Prop where
  lt : g < w.heap.size
  cell : ∀ j, j < n → w.cell? ⟨g, j, none⟩ = some (.int .u8 (f j))
  free : ∀ j, j < n → w.frozen? ⟨g, j, none⟩ = false

theorem ByteRow.drewN {w : World} {g n : Nat} {f : Nat → Int} (h : ByteRow w g n f) (m : Nat) : ByteRow (w.drewN m) g n f := ⟨h.lt, h.cell, h.free⟩
theorem ByteRow.congr {w : World} {g n : Nat} {f f' : Nat → Int} (h : ByteRow w g n f) (e : ∀ j, j < n → f j = f' j) : ByteRow w g n f' :=
  ⟨h.lt, fun j hj => by rw [← e j hj]; exact h.cell j hj, h.free⟩
theorem ByteRow.set {w : World} {g n : Nat} {f : Nat → Int} (h : ByteRow w g n f) (i : Nat) (c : Int) : ByteRow (w.setCell ⟨g, i, none⟩ (.int .u8 c)) g n (fun j => if j = i then c else f j) := by
  refine ⟨by simpa using h.lt, fun j hj => ?_, fun j hj => by rw [World.frozen?_setCell]; exact h.free j hj⟩
  by_cases e : j = i
  · subst e
    simp only [if_pos]
    exact World.cell?_setCell_same' _ _ _ (by rw [h.cell j hj]; rfl)
  · simp only [if_neg e]
    rw [World.cell?_setCell_other]
    · exact h.cell j hj
    · intro h'
      injection h' with _ h' _
      exact e h'.symm

theorem foldConv (w : World) (s : ByteArray) : ByteRow (Lib.bytesWorld w 5 s) w.heap.size s.size (fun j => (nb s).getD j 0) := by
  refine ⟨by rw [Lib.bytesWorld_size]; omega, fun j hj => ?_, fun j hj => ?_⟩
  · rw [Lib.bytesWorld_cell _ _ _ _ hj]
    congr 1
    have hj' : j < s.data.toList.length := by rw [Array.length_toList]; exact hj
    simp only [nb, List.getD_eq_getElem?_getD, List.getElem?_map, List.getElem?_eq_getElem hj', Option.map_some, Option.getD_some]
  · simp only [World.frozen?, Lib.bytesWorld_at_new]
    have : s.size ≤ (Lib.bytesCells w 5 s).size := by simp [Lib.bytesCells]
    simp
    omega
theorem foldBelow (w : World) (s : ByteArray) : Below w.heap.size w (Lib.bytesWorld w 5 s) :=
  ⟨rfl, rfl, rfl, by rw [Lib.bytesWorld_size]; omega, fun i hi => Lib.bytesWorld_at_old w _ s i hi⟩

theorem step_yes {wr : World} {g n k : Nat} {s : ByteArray} {c : Int} (hR : ByteRow wr g n (fun j => if j < k then lowI ((nb s).getD j 0) else (nb s).getD j 0)) (hc : c = (nb s).getD k 0) (h65 : 65 ≤ c) (h90 : c ≤ 90) {d : Int} (hd : d = c + 32) :
    ByteRow (wr.setCell ⟨g, k, none⟩ (.int .u8 d)) g n (fun j => if j < k + 1 then lowI ((nb s).getD j 0) else (nb s).getD j 0) := by
  refine (hR.set k d).congr fun j _ => ?_
  by_cases e : j = k
  · subst e
    simp only [if_pos, if_pos (Nat.lt_succ_self j), ← hc, lowI_yes h65 h90, hd]
  · rw [if_neg e]
    by_cases hlt : j < k
    · rw [if_pos hlt, if_pos (by omega)]
    · rw [if_neg hlt, if_neg (by omega)]
theorem step_no {wr : World} {g n k : Nat} {s : ByteArray} {c : Int} (hR : ByteRow wr g n (fun j => if j < k then lowI ((nb s).getD j 0) else (nb s).getD j 0)) (hc : c = (nb s).getD k 0) (h : ¬ (65 ≤ c ∧ c ≤ 90)) :
    ByteRow wr g n (fun j => if j < k + 1 then lowI ((nb s).getD j 0) else (nb s).getD j 0) := by
  refine hR.congr fun j _ => ?_
  by_cases e : j = k
  · subst e
    rw [if_neg (Nat.lt_irrefl j), if_pos (Nat.lt_succ_self j), ← hc, lowI_no h]
  · by_cases hlt : j < k
    · rw [if_pos hlt, if_pos (by omega)]
    · rw [if_neg hlt, if_neg (by omega)]
theorem back {W : World} {g k C : Nat} {s : ByteArray} (hR : ByteRow W g s.size (fun j => if j < k then lowI ((nb s).getD j 0) else (nb s).getD j 0)) (h : s.size ≤ k) :
    (convert 49 9 (.slice (some ⟨g, 0, none⟩) s.size C)).run Tryd.prog W = .ok (.string (foldB s)) W := by
  refine run_convert_bytes_arg W 49 5 Tryd.underlying49 Tryd.underlying5 g 0 s.size C ((nb s).map lowI) (by rw [List.length_map, nb_length]) (fun i hi => ?_) 9 Tryd.underlying9
  rw [Nat.zero_add, hR.cell i hi, if_pos (by omega)]
  have hi' : i < (nb s).length := by rw [nb_length]; exact hi
  rw [List.getD_eq_getElem?_getD, List.getD_eq_getElem?_getD, List.getElem?_map, List.getElem?_eq_getElem hi']
  rfl

set_option maxHeartbeats 1000000 in
theorem fold_any (s : ByteArray) (w : World) (hs : s.size ≤ 140737488351232) :
    Calls Tryd.prog 33 #[.string s] w fun e w' => e = .returned (.string (foldB s)) ∧ Below w.heap.size w w' := by
  have hconv := fun (w : World) => Lib.run_convert_string_bytes (P := Tryd.prog) w 9 49 5 s Tryd.underlying9 Tryd.underlying49 Tryd.underlying5
  have hrow := foldConv w s
  have hbel := foldBelow w s
  generalize hW : Lib.bytesWorld w 5 s = W at hrow hbel
  generalize hC : grownCap w s.size 0 5 = C
  have hc := hconv w
  rw [hW, hC] at hc
  clear hconv hW hC
  go_enter Tryd.func33, Tryd.ntmps33
  go_wp2
  go_loopw [10] (fun i wr => ∃ k : Nat, k ≤ s.size ∧ i = .int .i64 k ∧ ByteRow wr w.heap.size s.size (fun j => if j < k then lowI ((nb s).getD j 0) else (nb s).getD j 0) ∧ Below w.heap.size w wr) (fun i wr => s.size - (intOf i).toNat)
  case atStart => exact ⟨0, Nat.zero_le _, rfl, hrow.congr (fun j _ => by simp), hbel⟩
  case round =>
    obtain ⟨k, hk, rfl, hR, hB⟩ := hrel
    clear hrow hbel hc
    by_cases hlt : k < s.size
    · obtain ⟨c, hcd⟩ : ∃ c, c = (nb s).getD k 0 := ⟨_, rfl⟩
      have hcr : 0 ≤ c ∧ c ≤ 255 := by rw [hcd]; exact nb_range s k
      have hcell : wr.cell? ⟨w.heap.size, k, none⟩ = some (.int .u8 c) := by rw [hR.cell k hlt, hcd, if_neg (Nat.lt_irrefl k)]
      have hfree := hR.free k hlt
      have HR := Lib.hid hR
      have HC := Lib.hid hcd
      clear hR hcd
      obtain ⟨hc0, hc1⟩ := hcr
      by_cases h65 : 65 ≤ c
      · by_cases h90 : c ≤ 90
        · go_wp2
          go_roundw
          case rel => exact ⟨k + 1, by omega, by go_num, step_yes HR.out HC.out h65 h90 (by omega), hB.setCell (p := ⟨w.heap.size, k, none⟩) (Nat.le_refl _) _⟩
          case measure => simp [intOf]; omega
        · go_wp2
          go_roundw
          case rel => exact ⟨k + 1, by omega, by go_num, step_no HR.out HC.out (by omega), hB⟩
          case measure => simp [intOf]; omega
      · go_wp2
        go_roundw
        case rel => exact ⟨k + 1, by omega, by go_num, step_no HR.out HC.out (by omega), hB⟩
        case measure => simp [intOf]; omega
    · have hback := back (W := wr) (C := C) hR (by omega)
      clear hR
      go_wp2
      go_ret
      exact ⟨rfl, hB⟩
end Go.Proofs.YtdonopoijbokiaaDoor

/-! ### Fold01 -/
namespace Go.Proofs.YtdonopoijbokiaaDoor
open Go.RowKit Go.Proofs.YtdonopoijbokiaaDoorW.PrintWords

theorem take_snoc' {α : Type} (l : List α) (d : α) (k : Nat) (h : k < l.length) : l.take (k + 1) = l.take k ++ [l.getD k d] := by
  rw [List.take_add_one, List.getElem?_eq_getElem h, List.getD_eq_getElem?_getD, List.getElem?_eq_getElem h]
  rfl
theorem getD_map {l : List Int} (f : Int → Int) (k : Nat) (h : k < l.length) : (l.map f).getD k 0 = f (l.getD k 0) := by
  rw [List.getD_eq_getElem?_getD, List.getD_eq_getElem?_getD, List.getElem?_map, List.getElem?_eq_getElem h]
  rfl
theorem bt_nb (s : ByteArray) (x : Int) : bt s x = (nb s).getD x.toNat 0 := by
  unfold bt
  split
  · rename_i h
    have h' : x.toNat < s.data.toList.length := by rw [Array.length_toList]; exact h
    rw [List.getD_eq_getElem?_getD, nb, List.getElem?_map, List.getElem?_eq_getElem h']
    rfl
  · rename_i h
    rw [List.getD_eq_getElem?_getD, List.getElem?_eq_none (by rw [nb_length]; omega)]
    rfl
theorem step01 {w1 : World} {B : Nat} {e : TypeId} {v : Value} {s : ByteArray} {x c : Int} (h : w1.ownsRow B e 1 v ((((nb s).map lowI).take x.toNat) ++ [c]).length (nums .u8 ((((nb s).map lowI).take x.toNat) ++ [c]))) (h0 : 0 ≤ x) (h1 : x < s.size) (hc : c = lowI (bt s x)) :
    w1.ownsRow B e 1 v (((nb s).map lowI).take (x + 1).toNat).length (nums .u8 (((nb s).map lowI).take (x + 1).toNat)) := by
  have hl : x.toNat < (nb s).length := by rw [nb_length]; omega
  have : ((nb s).map lowI).take (x + 1).toNat = ((nb s).map lowI).take x.toNat ++ [c] := by
    rw [show (x + 1).toNat = x.toNat + 1 by omega, take_snoc' _ 0 _ (by rw [List.length_map]; exact hl), getD_map lowI _ hl, hc, bt_nb]
  rw [this]
  exact h
theorem len01 {s : ByteArray} {x : Int} (hs : s.size ≤ 140737488351232) (h0 : 0 ≤ x) (h1 : x ≤ s.size) : ((((nb s).map lowI).take x.toNat).length + 1) * 1 ≤ 140737488355328 := by
  rw [List.length_take, List.length_map, nb_length]
  omega
theorem back01 {W : World} {B : Nat} {v : Value} {s : ByteArray} {x : Int} (h : W.ownsRow B 5 1 v (((nb s).map lowI).take x.toNat).length (nums .u8 (((nb s).map lowI).take x.toNat))) (hx : s.size ≤ x) :
    (convert 49 9 v).run Tryd.prog W = .ok (.string (foldB s)) W := by
  have e : ((nb s).map lowI).take x.toNat = (nb s).map lowI := List.take_of_length_le (by rw [List.length_map, nb_length]; omega)
  rw [e] at h
  exact own_string Tryd.underlying49 Tryd.underlying5 Tryd.underlying9 h

set_option maxRecDepth 100000 in
set_option maxHeartbeats 1000000 in
theorem fold01_any (s : ByteArray) (w : World) (hs : s.size ≤ 140737488351232) :
    Calls Tryd.prog 52 #[.string s] w fun e w' => e = .returned (.string (foldB s)) ∧ Below w.heap.size w w' := by
  go_enter Tryd.func52, Tryd.ntmps52
  go_wp2
  go_loopw [3, 4] (fun v i wr => ∃ x : Int, 0 ≤ x ∧ x ≤ s.size ∧ i = .int .i64 x ∧ wr.ownsRow w.heap.size 5 1 v (((nb s).map lowI).take x.toNat).length (nums .u8 (((nb s).map lowI).take x.toNat)) ∧ Below w.heap.size w wr) (fun _ i wr => s.size - (intOf i).toNat)
  case atStart => exact ⟨0, Int.le_refl _, by omega, rfl, own_nil _ _ _ _, Below.refl _ _⟩
  case round =>
    obtain ⟨x, hx0, hx1, rfl, hR, hB⟩ := hrel
    by_cases hlt : x < s.size
    · have hby := bt_at s x
      obtain ⟨hc0, hc1⟩ := bt_range s x
      have HR := Lib.hid hR
      clear hR
      by_cases h65 : 65 ≤ bt s x
      · by_cases h90 : bt s x ≤ 90
        · go_wp2_with (at_builtin; refine print_append_num w.heap.size rfl (.tmp 23) (.tmp 25) 49 5 .u8 1 rfl Tryd.underlying49 info5 (by decide) _ _ _ rfl rfl HR.out hB hB.size (len01 hs hx0 hx1) ?_; intro v1 w1 ho hb _ _; have HO := Lib.hid ho; have HB := Lib.hid hb; clear ho hb)
          go_roundw
          case rel => exact ⟨x + 1, by omega, by omega, by go_num, step01 HO.out hx0 hlt (by rw [lowI_yes h65 h90]), HB.out⟩
          case measure => simp [intOf]; omega
        · go_wp2_with (at_builtin; refine print_append_num w.heap.size rfl (.tmp 23) (.tmp 25) 49 5 .u8 1 rfl Tryd.underlying49 info5 (by decide) _ _ _ rfl rfl HR.out hB hB.size (len01 hs hx0 hx1) ?_; intro v1 w1 ho hb _ _; have HO := Lib.hid ho; have HB := Lib.hid hb; clear ho hb)
          go_roundw
          case rel => exact ⟨x + 1, by omega, by omega, by go_num, step01 HO.out hx0 hlt (by rw [lowI_no (by omega)]), HB.out⟩
          case measure => simp [intOf]; omega
      · go_wp2_with (at_builtin; refine print_append_num w.heap.size rfl (.tmp 23) (.tmp 25) 49 5 .u8 1 rfl Tryd.underlying49 info5 (by decide) _ _ _ rfl rfl HR.out hB hB.size (len01 hs hx0 hx1) ?_; intro v1 w1 ho hb _ _; have HO := Lib.hid ho; have HB := Lib.hid hb; clear ho hb)
        go_roundw
        case rel => exact ⟨x + 1, by omega, by omega, by go_num, step01 HO.out hx0 hlt (by rw [lowI_no (by omega)]), HB.out⟩
        case measure => simp [intOf]; omega
    · have hback := back01 hR (by omega)
      go_wp2
      go_ret
      exact ⟨rfl, hB⟩
end Go.Proofs.YtdonopoijbokiaaDoor

/-! ### Row -/
namespace Go.Proofs.YtdonopoijbokiaaDoor
open Go.RowKit Go.Proofs.YtdonopoijbokiaaDoorW.PrintWords

def strOf : Value → ByteArray
  | .string s => s
  | _ => .empty
/-- The table of names: row i's text j. -/
noncomputable def nameAt (i j : Nat) : ByteArray := strOf (namesL.getD (i * 3 + j) undef)
theorem names_strs : (namesL.all fun v => match v with | .string _ => true | _ => false) = true := by kernel_rfl
theorem nameAt_is (i j : Nat) (h : i * 3 + j < 186) : namesL[i * 3 + j]? = some (.string (nameAt i j)) := by
  have h' : i * 3 + j < namesL.length := by rw [namesL_length]; exact h
  have hm := List.all_eq_true.1 names_strs _ (List.getElem_mem h')
  unfold nameAt
  rw [List.getD_eq_getElem?_getD, List.getElem?_eq_getElem h', Option.getD_some]
  generalize namesL[i * 3 + j] = v at hm ⊢
  cases v <;> first | rfl | exact absurd hm (by simp)

/-- The row's names meet the folded text. -/
noncomputable def rowMeets (t : ByteArray) (i : Nat) : Bool := t.toList == (nameAt i 0).toList || (t.toList == (nameAt i 1).toList && !t.toList.isEmpty) || t.toList == (nameAt i 2).toList
/-- The row that a folded text names. -/
noncomputable def rowFrom (t : ByteArray) : Nat → Nat → Int
  | 0, _ => -1
  | n + 1, i => if rowMeets t i then i else rowFrom t n (i + 1)
noncomputable def rowR (s : ByteArray) : Int := rowFrom (foldB s) 62 0

/-- A variable that holds the table of names. -/
structure NamesAt (w : World) (g : Nat) : Prop where
  lt : g < w.heap.size
  cell : ∀ i j, i * 3 + j < 186 → w.cell? ⟨g, i * 3 + j, none⟩ = some (.string (nameAt i j))
theorem NamesAt.below {w w' : World} {g : Nat} (h : NamesAt w g) (hb : Below w.heap.size w w') : NamesAt w' g :=
  ⟨Nat.lt_of_lt_of_le h.lt hb.size, fun i j hk => (hb.cell (p := ⟨g, i * 3 + j, none⟩) h.lt).trans (h.cell i j hk)⟩
theorem names_size : (Tryd.prog.info? 79).map (·.size) = some namesL.toArray.size := by kernel_rfl
theorem names_zero : Tryd.zeroCells79.size = namesL.toArray.size := by kernel_rfl
theorem names_one : namesL.toArray.all (·.oneCell') = true := by kernel_rfl
/-- What names answers, stored into a new variable. -/
theorem wpList_store_names {ops : Array Oper} {rest : List Oper} {o : Oper} {a : Act} {W : World} {Q : Exit → Act → World → Prop} (hgd : o.guard = none) (x y : Operand) (ho : o.op = .store 79 x y)
    (hx : a.eval x = .pointer (some ⟨W.heap.size, 0, none⟩)) (hy : a.eval y = .agg namesL.toArray)
    (h : ∀ W', NamesAt W' W.heap.size → Below W.heap.size W W' → wpList Tryd.prog ops Q rest (a.put o.dst undef) W') :
    wpList Tryd.prog ops Q (o :: rest) a (W.alloc (.cells Tryd.zeroCells79 79)) := by
  have hg := heap_alloc_new W (.cells Tryd.zeroCells79 79)
  refine wpList_store_row hgd 79 x y ho W.heap.size namesL.toArray hx hy 79 Tryd.zeroCells79 hg names_size names_zero names_one (h _ ⟨by simp, fun i j hk => ?_⟩ ?_)
  · rw [cell_setRow_same _ _ _ _ _ _ _ hg, ← nameAt_is i j hk]
    simp
  · exact ⟨rfl, rfl, rfl, by simp, fun i hi => by rw [setRow_other _ _ _ _ (by omega)]; exact ((Below.refl _ W).alloc (Nat.le_refl _) _).block i hi⟩

theorem row_hit {r : Int} {t : ByteArray} {k : Nat} (h1 : r = rowFrom t 62 0) (h2 : rowFrom t 62 0 = rowFrom t (62 - k) k) (h3 : rowMeets t k = true) (hk : k < 62) : Ending.returned (.int .i64 k) = Ending.returned (.int .i64 r) := by
  rw [h1, h2, show 62 - k = (61 - k) + 1 by omega, rowFrom, if_pos h3]
theorem row_miss {t : ByteArray} {k : Nat} (h2 : rowFrom t 62 0 = rowFrom t (62 - k) k) (h3 : rowMeets t k = false) (hk : k < 62) : rowFrom t 62 0 = rowFrom t (62 - (k + 1)) (k + 1) := by
  rw [h2, show 62 - k = (62 - (k + 1)) + 1 by omega, rowFrom, if_neg (by rw [h3]; decide)]
set_option maxRecDepth 100000 in
set_option maxHeartbeats 1000000 in
theorem row_any (s : ByteArray) (w : World) (hs : s.size ≤ 140737488351232) :
    Calls Tryd.prog 46 #[.string s] w fun e w' => e = .returned (.int .i64 (rowR s)) ∧ Below w.heap.size w w' := by
  obtain ⟨nv, hnv⟩ : ∃ nv, nv = namesL.toArray := ⟨_, rfl⟩
  go_enter Tryd.func46, Tryd.ntmps46
  go_wp2_with (first | (go_at_call 52; refine (fold01_any _ _ hs).mono ?_; rintro e w1 ⟨rfl, hb1⟩) | (go_at_call 53; refine (names_any _).mono ?_; rw [← hnv]; rintro e w2 ⟨rfl, hb2⟩; rw [hnv]) | (refine wpList_store_names rfl _ _ rfl rfl rfl ?_; intro W3 hN hb3; have hB3 := (hb1.trans (hb2.mono hb1.size)).trans (hb3.mono (Nat.le_trans hb1.size hb2.size)); have HN := Lib.hid hN; generalize w2.heap.size = g at HN ⊢; clear hb1 hb2 hb3 hN hnv))
  obtain ⟨t, ht⟩ : ∃ t, foldB s = t := ⟨_, rfl⟩
  rw [ht]
  have hr : rowR s = rowFrom t 62 0 := by rw [rowR, ht]
  have HQ := Lib.hid hr
  clear hr ht
  go_loop [5] (fun i => ∃ k : Nat, k ≤ 62 ∧ i = .int .i64 k ∧ Hid (rowFrom t 62 0 = rowFrom t (62 - k) k)) (fun i => 62 - (intOf i).toNat)
  case atStart => exact ⟨0, by omega, rfl, Lib.hid rfl⟩
  case round =>
    obtain ⟨k, hk, rfl, HF⟩ := hrel
    by_cases hlt : k < 62
    · have c0 : W3.cell? ⟨g, k * 3, none⟩ = some (.string (nameAt k 0)) := HN.out.cell k 0 (by omega)
      have c1 := HN.out.cell k 1 (by omega)
      have c2 := HN.out.cell k 2 (by omega)
      have hm : rowMeets t k = (t.toList == (nameAt k 0).toList || (t.toList == (nameAt k 1).toList && !t.toList.isEmpty) || t.toList == (nameAt k 2).toList) := rfl
      cases b0 : (t.toList == (nameAt k 0).toList) with
      | true =>
        have HM := Lib.hid (show rowMeets t k = true by rw [hm, b0]; rfl)
        clear hm
        go_wp2
        go_ret
        exact ⟨row_hit HQ.out HF.out HM.out hlt, hB3⟩
      | false =>
        cases b1 : (t.toList == (nameAt k 1).toList) <;> cases b2 : t.toList.isEmpty <;> cases b3 : (t.toList == (nameAt k 2).toList)
        all_goals
          have HM := Lib.hid (hm.trans (by rw [b0, b1, b2, b3]))
          clear hm
          go_wp2
          first
          | (go_ret; exact ⟨row_hit HQ.out HF.out HM.out hlt, hB3⟩)
          | (go_round
             case rel => exact ⟨k + 1, by omega, by go_num, row_miss HF.out HM.out hlt⟩
             case measure => simp [intOf]; omega)
    · go_wp2
      go_ret
      exact ⟨by rw [HQ.out, HF.out, show 62 - k = 0 by omega]; rfl, hB3⟩
end Go.Proofs.YtdonopoijbokiaaDoor

/-! ### RowOf -/
namespace Go.Proofs.YtdonopoijbokiaaDoor
open Go.RowKit Go.Proofs.YtdonopoijbokiaaDoorW.PrintWords

/-- A row's other names. -/
noncomputable def aliasAt (i : Nat) : List ByteArray := if (nameAt i 1).toList.isEmpty then [] else [nameAt i 1]
/-- Its super type's first name. -/
noncomputable def superAt (i : Nat) : ByteArray := if 0 ≤ kindAt i 0 then nameAt (kindAt i 0).toNat 0 else ⟨#[]⟩

theorem cells6 {W : World} {B : Nat} {a b c d e f : Value} {t : TypeId} (h : W.heap[B]? = some (.cells #[a, b, c, d, e, f] t (0, 0))) :
    (W.cell? ⟨B, 0, none⟩ = some a ∧ W.cell? ⟨B, 1, none⟩ = some b ∧ W.cell? ⟨B, 2, none⟩ = some c ∧ W.cell? ⟨B, 3, none⟩ = some d ∧ W.cell? ⟨B, 4, none⟩ = some e ∧ W.cell? ⟨B, 5, none⟩ = some f) ∧ ∀ j, W.frozen? ⟨B, j, none⟩ = false :=
  ⟨⟨cell_of_row _ _ _ _ _ _ h, cell_of_row _ _ _ _ _ _ h, cell_of_row _ _ _ _ _ _ h, cell_of_row _ _ _ _ _ _ h, cell_of_row _ _ _ _ _ _ h, cell_of_row _ _ _ _ _ _ h⟩, fun j => frozen_of_row _ _ _ _ _ h⟩

theorem NamesAt.far {w : World} {g : Nat} (h : NamesAt w g) {a : Addr} (ha : a.block ≠ g) (v : Value) : NamesAt (w.setCell a v) g :=
  ⟨by simpa using h.lt, fun i j hk => by
    rw [World.cell?_setCell_other _ _ _ _ (fun e => ha (by rw [e]))]
    exact h.cell i j hk⟩
theorem KindsAt.far {w : World} (h : KindsAt w) {a : Addr} (ha : a.block ≠ 1) (v : Value) : KindsAt (w.setCell a v) :=
  ⟨by simpa using h.lt, fun i j hk => by
    rw [World.cell?_setCell_other _ _ _ _ (fun e => ha (by rw [e]))]
    exact h.cell i j hk⟩
theorem below_grown_nil {W w1 : World} {o : Obj} (h : Below W.heap.size W (W.alloc o)) (hg : (W.alloc o).drew.grownBy w1 (Value.slice none 0 0).ownBlock) : Below W.heap.size W w1 :=
  (below_drew h).grown hg (by simp) (fun k e => by simp [Value.ownBlock] at e)
theorem six_block {W : World} {B : Nat} {a0 b0 c0 d0 e0 f0 : Value} {t : TypeId} (h : W.heap[B]? = some (.cells #[a0, b0, c0, d0, e0, f0] t (0, 0))) (a b c d e f : Value) :
    ((((((W.setCell ⟨B, 0, none⟩ a).setCell ⟨B, 1, none⟩ b).setCell ⟨B, 2, none⟩ c).setCell ⟨B, 3, none⟩ d).setCell ⟨B, 4, none⟩ e).setCell ⟨B, 5, none⟩ f).heap[B]? = some (.cells #[a, b, c, d, e, f] t (0, 0)) :=
  heap_setCell_same _ B 5 _ t f (heap_setCell_same _ B 4 _ t e (heap_setCell_same _ B 3 _ t d (heap_setCell_same _ B 2 _ t c (heap_setCell_same _ B 1 _ t b (heap_setCell_same W B 0 _ t a h)))))

set_option maxRecDepth 100000 in
set_option maxHeartbeats 2000000 in
theorem rowOf_any (k : Nat) (w : World) (hk : k < 62) (hG : KindsAt w) :
    Calls Tryd.prog 41 #[.int .i64 k] w fun e w' => ∃ v, e = .returned (.agg #[.string (nameAt k 0), v, .string (nameAt k 2), .string (superAt k), .int .i64 (kindAt k 1), .int .i64 (kindAt k 2)]) ∧ Kd.R Kd.string 9 w' w.heap.size (fun _ => True) v (aliasAt k) ∧ Below w.heap.size w w' := by
  obtain ⟨nv, hnv⟩ : ∃ nv, nv = namesL.toArray := ⟨_, rfl⟩
  go_enter Tryd.func41, Tryd.ntmps41
  go_upto_region 3 with (first | (go_at_call 53; refine (names_any _).mono ?_; rw [← hnv]; rintro e w2 ⟨rfl, hb2⟩; rw [hnv]) | (refine wpList_store_names rfl _ _ rfl rfl rfl ?_; intro W3 hN hb3))
  simp only [World.size_alloc] at hb2
  have hb : Below (w.heap.size + 2) _ W3 := hb2.trans (hb3.mono (by have := hb2.size; simp at this; omega))
  have h0 := (hb.block w.heap.size (by omega)).trans (heap_alloc2_old w _ _)
  have h1 := (hb.block (w.heap.size + 1) (by omega)).trans (heap_alloc2_new w _ _)
  have hB : Below w.heap.size w W3 := (((Below.refl _ w).alloc (Nat.le_refl _) _).alloc (by simp) _).trans (hb.mono (by omega))
  have hg : w.heap.size + 1 < w2.heap.size := by have := hb2.size; simp at this; omega
  have HN := Lib.hid hN
  have HK := Lib.hid (hG.below hB)
  have hG1 := hG.lt
  have HB := Lib.hid hB
  have H0 := Lib.hid h0
  generalize w2.heap.size = g at HN hg ⊢
  clear hb2 hb3 hb hN hB hG h0 hnv
  obtain ⟨⟨q0, q1, q2, q3, q4, q5⟩, qf⟩ := cells6 h1
  have e0 : W3.cell? ⟨g, k * 3, none⟩ = some (.string (nameAt k 0)) := HN.out.cell k 0 (by omega)
  have e1 := HN.out.cell k 1 (by omega)
  have e2 := HN.out.cell k 2 (by omega)
  have m0 : W3.cell? ⟨1, k * 3, none⟩ = some (.int .i64 (kindAt k 0)) := HK.out.cell k 0 (by omega)
  have m1 := HK.out.cell k 1 (by omega)
  have m2 := HK.out.cell k 2 (by omega)
  have hg1 : 1 < w.heap.size := hG1
  obtain ⟨z0, z1, z2, z3, z4, z5⟩ := (cells6 H0.out).1
  have zf := (cells6 H0.out).2
  obtain ⟨sp, hsp⟩ : ∃ sp, superAt k = sp := ⟨_, rfl⟩
  obtain ⟨al, hal⟩ : ∃ al, aliasAt k = al := ⟨_, rfl⟩
  have HS := Lib.hid hsp
  have HA := Lib.hid hal
  clear hsp hal
  have hsr := super_range k hk
  cases hae : (nameAt k 1).toList.isEmpty with
  | true =>
    by_cases hp : 0 ≤ kindAt k 0
    · obtain ⟨p, hpk⟩ : ∃ p : Nat, kindAt k 0 = p := ⟨_, (Int.toNat_of_nonneg hp).symm⟩
      rw [hpk] at m0 hsr hp
      have HP := Lib.hid hpk
      clear hpk
      have e3 : W3.cell? ⟨g, p * 3, none⟩ = some (.string (nameAt p 0)) := HN.out.cell p 0 (by omega)
      go_wp2
      refine bodyPost_ret (results_cell_row rfl _ _ w.heap.size 32 #[.string (nameAt k 0), .slice none 0 0, .string (nameAt k 2), .string (nameAt p 0), .int .i64 (kindAt k 1), .int .i64 (kindAt k 2)] (0, 0) _ rfl
        (six_block (by (iterate 5 (first | (with_reducible refine (heap_setCell_other _ _ _ _ ?_).trans ?_; (· simp)) | skip)); exact H0.out) _ _ _ _ _ _) Tryd.underlying32 rfl (by kernel_rfl)) rfl ⟨.slice none 0 0, ?_, ?_, ?_⟩
      · rw [superAt, if_pos (by rw [HP.out]; exact hp), HP.out]
        rfl
      · rw [aliasAt, if_pos hae]
        exact Kd.R_nil _ _ _ _ _
      · repeat (first | (with_reducible exact HB.out) | (with_reducible refine Below.setCell ?_ (by simp) _))
    · go_wp2
      refine bodyPost_ret (results_cell_row rfl _ _ w.heap.size 32 #[.string (nameAt k 0), .slice none 0 0, .string (nameAt k 2), .string ⟨#[]⟩, .int .i64 (kindAt k 1), .int .i64 (kindAt k 2)] (0, 0) _ rfl
        (six_block (by (iterate 5 (first | (with_reducible refine (heap_setCell_other _ _ _ _ ?_).trans ?_; (· simp)) | skip)); exact H0.out) _ _ _ _ _ _) Tryd.underlying32 rfl (by kernel_rfl)) rfl ⟨.slice none 0 0, ?_, ?_, ?_⟩
      · rw [superAt, if_neg (by omega)]
      · rw [aliasAt, if_pos hae]
        exact Kd.R_nil _ _ _ _ _
      · repeat (first | (with_reducible exact HB.out) | (with_reducible refine Below.setCell ?_ (by simp) _))
  | false =>
    go_upto_region 5 with (fail)
    have k1 := heap_setCell_same W3 (w.heap.size + 1) 0 _ _ (.string (nameAt k 0)) h1
    have k0 : (W3.setCell ⟨w.heap.size + 1, 0, none⟩ (.string (nameAt k 0))).heap[w.heap.size]? = _ := (heap_setCell_other _ _ _ _ (by simp)).trans H0.out
    have kB := HB.out.setCell (p := ⟨w.heap.size + 1, 0, none⟩) (by simp) (.string (nameAt k 0))
    have kN := HN.out.far (a := ⟨w.heap.size + 1, 0, none⟩) (Nat.ne_of_lt hg) (.string (nameAt k 0))
    have kK := HK.out.far (a := ⟨w.heap.size + 1, 0, none⟩) (show w.heap.size + 1 ≠ 1 by omega) (.string (nameAt k 0))
    generalize W3.setCell ⟨w.heap.size + 1, 0, none⟩ (.string (nameAt k 0)) = W4 at k0 k1 kB kN kK ⊢
    clear h1 H0 HB HN HK q0 q1 q2 q3 q4 q5 qf e0 e1 e2 m0 m1 m2 z0 z1 z2 z3 z4 z5 zf
    obtain ⟨⟨q0, q1, q2, q3, q4, q5⟩, qf⟩ := cells6 k1
    have e1 := kN.cell k 1 (by omega)
    have KN := Lib.hid kN
    have KB := Lib.hid kB
    have K0 := Lib.hid k0
    have K1 := Lib.hid k1
    have KK := Lib.hid kK
    have lt1 : w.heap.size + 1 < W4.heap.size := by have := kN.lt; omega
    have ltg := kN.lt
    clear kN kB k0 k1 kK
    obtain ⟨i0, hi0, hz0, hz1, hz2⟩ := info_parts info9
    have hal1 := (Below.refl W4.heap.size W4).alloc (Nat.le_refl _) (.cells #[.string (nameAt k 1)] 9)
    have hal1 := Lib.hid hal1
    have hk0 : (0 : Int) ≤ (k : Int) := Int.natCast_nonneg _
    have hk1 : (k : Int) < (62 : Int) := by omega
    go_region_law (first | (refine step_append_lies _ (by rfl) _ _ _ (by rfl) w.heap.size 9 i0 _ 1 16 Tryd.underlying28 hi0 hz0 hz1 hz2 rfl (by omega) (.slice none 0 0) 0 [] (by rfl) (own_nil _ _ _ _) ⟨W4.heap.size, 0, none⟩ 1 1 [.string (nameAt k 1)] (by rfl) (by rfl) (World.news_of_block (cs := #[.string (nameAt k 1)]) (t := 9) (fr := (0, 0)) (heap_alloc_new W4 _)) (by simp [Value.oneCell']) (by omega) (by unfold maxLen; omega) (by omega) (by simp; omega) (W4.heap.size + 1) (by simp) ?_; intro gg cap w1 hown1 hgrow hat hlt; have hb1 := Lib.hid (below_grown_nil hal1.out hgrow); have x1 := (hb1.out.cell (p := ⟨w.heap.size + 1, 1, none⟩) lt1).trans q1; have xf := (hb1.out.frozen (p := ⟨w.heap.size + 1, 1, none⟩) lt1).trans (qf 1)) | go_simp)
    all_goals
      have k1 := heap_setCell_same w1 (w.heap.size + 1) 1 _ _ (.slice (some ⟨gg, 0, none⟩) 1 cap) ((hb1.out.block (w.heap.size + 1) lt1).trans K1.out)
      have k0 := (heap_setCell_other w1 ⟨w.heap.size + 1, 1, none⟩ w.heap.size (.slice (some ⟨gg, 0, none⟩) 1 cap) (by simp)).trans ((hb1.out.block w.heap.size (by omega)).trans K0.out)
      have kB := (KB.out.trans (hb1.out.mono (by omega))).setCell (p := ⟨w.heap.size + 1, 1, none⟩) (by simp) (.slice (some ⟨gg, 0, none⟩) 1 cap)
      have kN := (KN.out.below hb1.out).far (a := ⟨w.heap.size + 1, 1, none⟩) (Nat.ne_of_lt hg) (.slice (some ⟨gg, 0, none⟩) 1 cap)
      have kK := (KK.out.below hb1.out).far (a := ⟨w.heap.size + 1, 1, none⟩) (show w.heap.size + 1 ≠ 1 by omega) (.slice (some ⟨gg, 0, none⟩) 1 cap)
      have hgg : w.heap.size + 1 < gg := by
        rcases hat with hat | hat
        · simp [Value.ownBlock] at hat
        · omega
      have kR : Kd.R Kd.string 9 w1 w.heap.size (fun b => b = gg) (.slice (some ⟨gg, 0, none⟩) 1 cap) [nameAt k 1] := Kd.R_of_own hown1 (fun b hb => by simpa [Value.ownBlock] using hb.symm)
      have kR := Kd.R_far (p := ⟨w.heap.size + 1, 1, none⟩) kR (fun b hb => by simp; omega) (.slice (some ⟨gg, 0, none⟩) 1 cap)
      generalize w1.setCell ⟨w.heap.size + 1, 1, none⟩ (.slice (some ⟨gg, 0, none⟩) 1 cap) = W5 at k0 k1 kB kN kK kR ⊢
      clear hown1 hgrow hat hlt hb1 x1 xf hal1 q0 q1 q2 q3 q4 q5 qf e1 K0 K1 KB KN KK
      obtain ⟨⟨q0, q1, q2, q3, q4, q5⟩, qf⟩ := cells6 k1
      obtain ⟨⟨z0, z1, z2, z3, z4, z5⟩, zf⟩ := cells6 k0
      have e2 := kN.cell k 2 (by omega)
      have m0 : W5.cell? ⟨1, k * 3, none⟩ = some (.int .i64 (kindAt k 0)) := kK.cell k 0 (by omega)
      have m1 := kK.cell k 1 (by omega)
      have m2 := kK.cell k 2 (by omega)
      have KN := Lib.hid kN
      have KB := Lib.hid kB
      have K0 := Lib.hid k0
      have KR := Lib.hid kR
      clear kN kB k0 k1 kK kR
      by_cases hp : 0 ≤ kindAt k 0
      · obtain ⟨p, hpk⟩ : ∃ p : Nat, kindAt k 0 = p := ⟨_, (Int.toNat_of_nonneg hp).symm⟩
        rw [hpk] at m0 hsr hp
        have HP := Lib.hid hpk
        clear hpk
        have e3 : W5.cell? ⟨g, p * 3, none⟩ = some (.string (nameAt p 0)) := KN.out.cell p 0 (by omega)
        go_wp2
        refine bodyPost_ret (results_cell_row rfl _ _ w.heap.size 32 #[.string (nameAt k 0), .slice (some ⟨gg, 0, none⟩) 1 cap, .string (nameAt k 2), .string (nameAt p 0), .int .i64 (kindAt k 1), .int .i64 (kindAt k 2)] (0, 0) _ rfl
          (six_block (by (iterate 5 (first | (with_reducible refine (heap_setCell_other _ _ _ _ ?_).trans ?_; (· simp)) | skip)); exact K0.out) _ _ _ _ _ _) Tryd.underlying32 rfl (by kernel_rfl)) rfl ⟨.slice (some ⟨gg, 0, none⟩) 1 cap, ?_, ?_, ?_⟩
        · rw [superAt, if_pos (by rw [HP.out]; exact hp), HP.out]
          rfl
        · rw [aliasAt, if_neg (by rw [hae]; decide)]
          refine Kd.R_mono (ok := fun b => b = gg) ?_ (fun _ _ => trivial)
          iterate 11 (first | (with_reducible refine Kd.R_far ?_ (fun b hb => (?_ : b ≠ _)) _; rotate_left; (· rw [hb]; simp; omega)) | skip)
          exact KR.out
        · repeat (first | (with_reducible exact KB.out) | (with_reducible refine Below.setCell ?_ (by simp) _))
      · go_wp2
        refine bodyPost_ret (results_cell_row rfl _ _ w.heap.size 32 #[.string (nameAt k 0), .slice (some ⟨gg, 0, none⟩) 1 cap, .string (nameAt k 2), .string ⟨#[]⟩, .int .i64 (kindAt k 1), .int .i64 (kindAt k 2)] (0, 0) _ rfl
          (six_block (by (iterate 5 (first | (with_reducible refine (heap_setCell_other _ _ _ _ ?_).trans ?_; (· simp)) | skip)); exact K0.out) _ _ _ _ _ _) Tryd.underlying32 rfl (by kernel_rfl)) rfl ⟨.slice (some ⟨gg, 0, none⟩) 1 cap, ?_, ?_, ?_⟩
        · rw [superAt, if_neg (by omega)]
        · rw [aliasAt, if_neg (by rw [hae]; decide)]
          refine Kd.R_mono (ok := fun b => b = gg) ?_ (fun _ _ => trivial)
          iterate 11 (first | (with_reducible refine Kd.R_far ?_ (fun b hb => (?_ : b ≠ _)) _; rotate_left; (· rw [hb]; simp; omega)) | skip)
          exact KR.out
        · repeat (first | (with_reducible exact KB.out) | (with_reducible refine Below.setCell ?_ (by simp) _))
end Go.Proofs.YtdonopoijbokiaaDoor
