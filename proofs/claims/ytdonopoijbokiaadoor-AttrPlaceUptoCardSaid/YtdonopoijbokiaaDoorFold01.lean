/- rosterref01.Fold: what it answers. -/
import Derived.Test.YtdonopoijbokiaaDoorBase
import Derived.Test.YtdonopoijbokiaaDoorPlain
namespace Go.Proofs.YtdonopoijbokiaaDoor
open Go.RowKit Go.Proofs.YtdonopoijbokiaaDoorW.PrintWords

theorem take_snoc' {α : Type} (l : List α) (d : α) (k : Nat) (h : k < l.length) : l.take (k + 1) = l.take k ++ [l.getD k d] := by
  rw [List.take_add_one, List.getElem?_eq_getElem h, List.getD_eq_getElem?_getD, List.getElem?_eq_getElem h]
  rfl
theorem getD_map {l : List Int} (f : Int → Int) (k : Nat) (h : k < l.length) : (l.map f).getD k 0 = f (l.getD k 0) := by
  rw [List.getD_eq_getElem?_getD, List.getD_eq_getElem?_getD, List.getElem?_map, List.getElem?_eq_getElem h]
  rfl
theorem bt_nb (s : ByteArray) (x : Int) : bt s x = (nb s).getD x.toNat 0 := by
  unfold bt
  split
  · rename_i h
    have h' : x.toNat < s.data.toList.length := by rw [Array.length_toList]; exact h
    rw [List.getD_eq_getElem?_getD, nb, List.getElem?_map, List.getElem?_eq_getElem h']
    rfl
  · rename_i h
    rw [List.getD_eq_getElem?_getD, List.getElem?_eq_none (by rw [nb_length]; omega)]
    rfl
theorem step01 {w1 : World} {B : Nat} {e : TypeId} {v : Value} {s : ByteArray} {x c : Int} (h : w1.ownsRow B e 1 v ((((nb s).map lowI).take x.toNat) ++ [c]).length (nums .u8 ((((nb s).map lowI).take x.toNat) ++ [c]))) (h0 : 0 ≤ x) (h1 : x < s.size) (hc : c = lowI (bt s x)) :
    w1.ownsRow B e 1 v (((nb s).map lowI).take (x + 1).toNat).length (nums .u8 (((nb s).map lowI).take (x + 1).toNat)) := by
  have hl : x.toNat < (nb s).length := by rw [nb_length]; omega
  have : ((nb s).map lowI).take (x + 1).toNat = ((nb s).map lowI).take x.toNat ++ [c] := by
    rw [show (x + 1).toNat = x.toNat + 1 by omega, take_snoc' _ 0 _ (by rw [List.length_map]; exact hl), getD_map lowI _ hl, hc, bt_nb]
  rw [this]
  exact h
theorem len01 {s : ByteArray} {x : Int} (hs : s.size ≤ 140737488351232) (h0 : 0 ≤ x) (h1 : x ≤ s.size) : ((((nb s).map lowI).take x.toNat).length + 1) * 1 ≤ 140737488355328 := by
  rw [List.length_take, List.length_map, nb_length]
  omega
theorem back01 {W : World} {B : Nat} {v : Value} {s : ByteArray} {x : Int} (h : W.ownsRow B 5 1 v (((nb s).map lowI).take x.toNat).length (nums .u8 (((nb s).map lowI).take x.toNat))) (hx : s.size ≤ x) :
    (convert 49 9 v).run Tryd.prog W = .ok (.string (foldB s)) W := by
  have e : ((nb s).map lowI).take x.toNat = (nb s).map lowI := List.take_of_length_le (by rw [List.length_map, nb_length]; omega)
  rw [e] at h
  exact own_string Tryd.underlying49 Tryd.underlying5 Tryd.underlying9 h

set_option maxRecDepth 100000 in
set_option maxHeartbeats 1000000 in
theorem fold01_any (s : ByteArray) (w : World) (hs : s.size ≤ 140737488351232) :
    Calls Tryd.prog 52 #[.string s] w fun e w' => e = .returned (.string (foldB s)) ∧ Below w.heap.size w w' := by
  go_enter Tryd.func52, Tryd.ntmps52
  go_wp2
  go_loopw [3, 4] (fun v i wr => ∃ x : Int, 0 ≤ x ∧ x ≤ s.size ∧ i = .int .i64 x ∧ wr.ownsRow w.heap.size 5 1 v (((nb s).map lowI).take x.toNat).length (nums .u8 (((nb s).map lowI).take x.toNat)) ∧ Below w.heap.size w wr) (fun _ i wr => s.size - (intOf i).toNat)
  case atStart => exact ⟨0, Int.le_refl _, by omega, rfl, own_nil _ _ _ _, Below.refl _ _⟩
  case round =>
    obtain ⟨x, hx0, hx1, rfl, hR, hB⟩ := hrel
    by_cases hlt : x < s.size
    · have hby := bt_at s x
      obtain ⟨hc0, hc1⟩ := bt_range s x
      have HR := Lib.hid hR
      clear hR
      by_cases h65 : 65 ≤ bt s x
      · by_cases h90 : bt s x ≤ 90
        · go_wp2_with (at_builtin; refine print_append_num w.heap.size rfl (.tmp 23) (.tmp 25) 49 5 .u8 1 rfl Tryd.underlying49 info5 (by decide) _ _ _ rfl rfl HR.out hB hB.size (len01 hs hx0 hx1) ?_; intro v1 w1 ho hb _ _; have HO := Lib.hid ho; have HB := Lib.hid hb; clear ho hb)
          go_roundw
          case rel => exact ⟨x + 1, by omega, by omega, by go_num, step01 HO.out hx0 hlt (by rw [lowI_yes h65 h90]), HB.out⟩
          case measure => simp [intOf]; omega
        · go_wp2_with (at_builtin; refine print_append_num w.heap.size rfl (.tmp 23) (.tmp 25) 49 5 .u8 1 rfl Tryd.underlying49 info5 (by decide) _ _ _ rfl rfl HR.out hB hB.size (len01 hs hx0 hx1) ?_; intro v1 w1 ho hb _ _; have HO := Lib.hid ho; have HB := Lib.hid hb; clear ho hb)
          go_roundw
          case rel => exact ⟨x + 1, by omega, by omega, by go_num, step01 HO.out hx0 hlt (by rw [lowI_no (by omega)]), HB.out⟩
          case measure => simp [intOf]; omega
      · go_wp2_with (at_builtin; refine print_append_num w.heap.size rfl (.tmp 23) (.tmp 25) 49 5 .u8 1 rfl Tryd.underlying49 info5 (by decide) _ _ _ rfl rfl HR.out hB hB.size (len01 hs hx0 hx1) ?_; intro v1 w1 ho hb _ _; have HO := Lib.hid ho; have HB := Lib.hid hb; clear ho hb)
        go_roundw
        case rel => exact ⟨x + 1, by omega, by omega, by go_num, step01 HO.out hx0 hlt (by rw [lowI_no (by omega)]), HB.out⟩
        case measure => simp [intOf]; omega
    · have hback := back01 hR (by omega)
      go_wp2
      go_ret
      exact ⟨rfl, hB⟩
end Go.Proofs.YtdonopoijbokiaaDoor
