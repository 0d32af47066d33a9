/- text.Fold: what it answers. -/
import Derived.Test.YtdonopoijbokiaaDoorBase
import Derived.Test.YtdonopoijbokiaaDoorPlain
namespace Go.Proofs.YtdonopoijbokiaaDoor
open Go.RowKit Go.Proofs.YtdonopoijbokiaaDoorW.PrintWords

/-- A block whose first n cells are bytes, none of them frozen. -/
structure ByteRow (w : World) (g n : Nat) (f : Nat → Int) : Prop where
  lt : g < w.heap.size
  cell : ∀ j, j < n → w.cell? ⟨g, j, none⟩ = some (.int .u8 (f j))
  free : ∀ j, j < n → w.frozen? ⟨g, j, none⟩ = false

theorem ByteRow.drewN {w : World} {g n : Nat} {f : Nat → Int} (h : ByteRow w g n f) (m : Nat) : ByteRow (w.drewN m) g n f := ⟨h.lt, h.cell, h.free⟩
theorem ByteRow.congr {w : World} {g n : Nat} {f f' : Nat → Int} (h : ByteRow w g n f) (e : ∀ j, j < n → f j = f' j) : ByteRow w g n f' :=
  ⟨h.lt, fun j hj => by rw [← e j hj]; exact h.cell j hj, h.free⟩
theorem ByteRow.set {w : World} {g n : Nat} {f : Nat → Int} (h : ByteRow w g n f) (i : Nat) (c : Int) : ByteRow (w.setCell ⟨g, i, none⟩ (.int .u8 c)) g n (fun j => if j = i then c else f j) := by
  refine ⟨by simpa using h.lt, fun j hj => ?_, fun j hj => by rw [World.frozen?_setCell]; exact h.free j hj⟩
  by_cases e : j = i
  · subst e
    simp only [if_pos]
    exact World.cell?_setCell_same' _ _ _ (by rw [h.cell j hj]; rfl)
  · simp only [if_neg e]
    rw [World.cell?_setCell_other]
    · exact h.cell j hj
    · intro h'
      injection h' with _ h' _
      exact e h'.symm

theorem foldConv (w : World) (s : ByteArray) : ByteRow (Lib.bytesWorld w 5 s) w.heap.size s.size (fun j => (nb s).getD j 0) := by
  refine ⟨by rw [Lib.bytesWorld_size]; omega, fun j hj => ?_, fun j hj => ?_⟩
  · rw [Lib.bytesWorld_cell _ _ _ _ hj]
    congr 1
    have hj' : j < s.data.toList.length := by rw [Array.length_toList]; exact hj
    simp only [nb, List.getD_eq_getElem?_getD, List.getElem?_map, List.getElem?_eq_getElem hj', Option.map_some, Option.getD_some]
  · simp only [World.frozen?, Lib.bytesWorld_at_new]
    have : s.size ≤ (Lib.bytesCells w 5 s).size := by simp [Lib.bytesCells]
    simp
    omega
theorem foldBelow (w : World) (s : ByteArray) : Below w.heap.size w (Lib.bytesWorld w 5 s) :=
  ⟨rfl, rfl, rfl, by rw [Lib.bytesWorld_size]; omega, fun i hi => Lib.bytesWorld_at_old w _ s i hi⟩

theorem step_yes {wr : World} {g n k : Nat} {s : ByteArray} {c : Int} (hR : ByteRow wr g n (fun j => if j < k then lowI ((nb s).getD j 0) else (nb s).getD j 0)) (hc : c = (nb s).getD k 0) (h65 : 65 ≤ c) (h90 : c ≤ 90) {d : Int} (hd : d = c + 32) :
    ByteRow (wr.setCell ⟨g, k, none⟩ (.int .u8 d)) g n (fun j => if j < k + 1 then lowI ((nb s).getD j 0) else (nb s).getD j 0) := by
  refine (hR.set k d).congr fun j _ => ?_
  by_cases e : j = k
  · subst e
    simp only [if_pos, if_pos (Nat.lt_succ_self j), ← hc, lowI_yes h65 h90, hd]
  · rw [if_neg e]
    by_cases hlt : j < k
    · rw [if_pos hlt, if_pos (by omega)]
    · rw [if_neg hlt, if_neg (by omega)]
theorem step_no {wr : World} {g n k : Nat} {s : ByteArray} {c : Int} (hR : ByteRow wr g n (fun j => if j < k then lowI ((nb s).getD j 0) else (nb s).getD j 0)) (hc : c = (nb s).getD k 0) (h : ¬ (65 ≤ c ∧ c ≤ 90)) :
    ByteRow wr g n (fun j => if j < k + 1 then lowI ((nb s).getD j 0) else (nb s).getD j 0) := by
  refine hR.congr fun j _ => ?_
  by_cases e : j = k
  · subst e
    rw [if_neg (Nat.lt_irrefl j), if_pos (Nat.lt_succ_self j), ← hc, lowI_no h]
  · by_cases hlt : j < k
    · rw [if_pos hlt, if_pos (by omega)]
    · rw [if_neg hlt, if_neg (by omega)]
theorem back {W : World} {g k C : Nat} {s : ByteArray} (hR : ByteRow W g s.size (fun j => if j < k then lowI ((nb s).getD j 0) else (nb s).getD j 0)) (h : s.size ≤ k) :
    (convert 49 9 (.slice (some ⟨g, 0, none⟩) s.size C)).run Tryd.prog W = .ok (.string (foldB s)) W := by
  refine run_convert_bytes_arg W 49 5 Tryd.underlying49 Tryd.underlying5 g 0 s.size C ((nb s).map lowI) (by rw [List.length_map, nb_length]) (fun i hi => ?_) 9 Tryd.underlying9
  rw [Nat.zero_add, hR.cell i hi, if_pos (by omega)]
  have hi' : i < (nb s).length := by rw [nb_length]; exact hi
  rw [List.getD_eq_getElem?_getD, List.getD_eq_getElem?_getD, List.getElem?_map, List.getElem?_eq_getElem hi']
  rfl

set_option maxHeartbeats 1000000 in
theorem fold_any (s : ByteArray) (w : World) (hs : s.size ≤ 140737488351232) :
    Calls Tryd.prog 33 #[.string s] w fun e w' => e = .returned (.string (foldB s)) ∧ Below w.heap.size w w' := by
  have hconv := fun (w : World) => Lib.run_convert_string_bytes (P := Tryd.prog) w 9 49 5 s Tryd.underlying9 Tryd.underlying49 Tryd.underlying5
  have hrow := foldConv w s
  have hbel := foldBelow w s
  generalize hW : Lib.bytesWorld w 5 s = W at hrow hbel
  generalize hC : grownCap w s.size 0 5 = C
  have hc := hconv w
  rw [hW, hC] at hc
  clear hconv hW hC
  go_enter Tryd.func33, Tryd.ntmps33
  go_wp2
  go_loopw [10] (fun i wr => ∃ k : Nat, k ≤ s.size ∧ i = .int .i64 k ∧ ByteRow wr w.heap.size s.size (fun j => if j < k then lowI ((nb s).getD j 0) else (nb s).getD j 0) ∧ Below w.heap.size w wr) (fun i wr => s.size - (intOf i).toNat)
  case atStart => exact ⟨0, Nat.zero_le _, rfl, hrow.congr (fun j _ => by simp), hbel⟩
  case round =>
    obtain ⟨k, hk, rfl, hR, hB⟩ := hrel
    clear hrow hbel hc
    by_cases hlt : k < s.size
    · obtain ⟨c, hcd⟩ : ∃ c, c = (nb s).getD k 0 := ⟨_, rfl⟩
      have hcr : 0 ≤ c ∧ c ≤ 255 := by rw [hcd]; exact nb_range s k
      have hcell : wr.cell? ⟨w.heap.size, k, none⟩ = some (.int .u8 c) := by rw [hR.cell k hlt, hcd, if_neg (Nat.lt_irrefl k)]
      have hfree := hR.free k hlt
      have HR := Lib.hid hR
      have HC := Lib.hid hcd
      clear hR hcd
      obtain ⟨hc0, hc1⟩ := hcr
      by_cases h65 : 65 ≤ c
      · by_cases h90 : c ≤ 90
        · go_wp2
          go_roundw
          case rel => exact ⟨k + 1, by omega, by go_num, step_yes HR.out HC.out h65 h90 (by omega), hB.setCell (p := ⟨w.heap.size, k, none⟩) (Nat.le_refl _) _⟩
          case measure => simp [intOf]; omega
        · go_wp2
          go_roundw
          case rel => exact ⟨k + 1, by omega, by go_num, step_no HR.out HC.out (by omega), hB⟩
          case measure => simp [intOf]; omega
      · go_wp2
        go_roundw
        case rel => exact ⟨k + 1, by omega, by go_num, step_no HR.out HC.out (by omega), hB⟩
        case measure => simp [intOf]; omega
    · have hback := back (W := wr) (C := C) hR (by omega)
      clear hR
      go_wp2
      go_ret
      exact ⟨rfl, hB⟩
end Go.Proofs.YtdonopoijbokiaaDoor
