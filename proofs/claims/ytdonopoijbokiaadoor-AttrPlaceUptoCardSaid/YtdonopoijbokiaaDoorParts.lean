/- rosterref04.parts: what it answers. -/
import Derived.Test.YtdonopoijbokiaaDoorCut
import Derived.Test.YtdonopoijbokiaaDoorFinds
namespace Go.Proofs.YtdonopoijbokiaaDoor
open Go.RowKit Go.Proofs.YtdonopoijbokiaaDoorW.PrintWords

/-- What stands in the list so far, and what is to come. -/
def PartsAt (s : ByteArray) (c x y : Int) (done : List ByteArray) : Prop := partsB s c = done ++ cutB s c (s.size - x.toNat) y.toNat x.toNat
theorem parts_start (s : ByteArray) (c : Int) : PartsAt s c 0 0 [] := rfl
theorem parts_hit {s : ByteArray} {c x y : Int} {done : List ByteArray} (h : PartsAt s c x y done) (h0 : 0 ≤ x) (hx : x < s.size) (e : bt s x = c) : PartsAt s c (x + 1) (x + 1) (done ++ [s.extract y.toNat x.toNat]) := by
  unfold PartsAt at *
  rw [h, show s.size - x.toNat = (s.size - (x + 1).toNat) + 1 by omega, cutB, if_pos (by rw [← bt_nb]; exact e), show (x + 1).toNat = x.toNat + 1 by omega]
  simp
theorem parts_miss {s : ByteArray} {c x y : Int} {done : List ByteArray} (h : PartsAt s c x y done) (h0 : 0 ≤ x) (hx : x < s.size) (e : ¬ bt s x = c) : PartsAt s c (x + 1) y done := by
  unfold PartsAt at *
  rw [h, show s.size - x.toNat = (s.size - (x + 1).toNat) + 1 by omega, cutB, if_neg (by rw [← bt_nb]; exact e), show (x + 1).toNat = x.toNat + 1 by omega]
theorem parts_end {s : ByteArray} {c x y : Int} {done : List ByteArray} (h : PartsAt s c x y done) (hx : s.size ≤ x) : partsB s c = done ++ [s.extract y.toNat s.size] := by
  unfold PartsAt at h
  rw [h, show s.size - x.toNat = 0 by omega, cutB]
theorem parts_len {s : ByteArray} {c x y : Int} {done : List ByteArray} (h : PartsAt s c x y done) : done.length ≤ s.size + 1 := by
  have h1 := cutB_length s c s.size 0 0
  have h2 := congrArg List.length (show partsB s c = _ from h)
  rw [List.length_append] at h2
  unfold partsB at h2
  omega

set_option maxRecDepth 100000 in
set_option maxHeartbeats 1000000 in
theorem parts_any (s : ByteArray) (c : Int) (w : World) (hs : s.size ≤ 4294967000) (hc : 0 ≤ c) (hc1 : c ≤ 255) :
    Calls Tryd.prog 69 #[.string s, .int .u8 c] w fun e w' => ∃ v, e = .returned v ∧ Kd.R Kd.string 9 w' w.heap.size (fun _ => True) v (partsB s c) ∧ Below w.heap.size w w' := by
  go_enter Tryd.func69, Tryd.ntmps69
  go_wp2
  go_loopw [5, 6, 7] (fun v lo i wr => ∃ (x y : Int) (done : List ByteArray), lo = .int .i64 y ∧ i = .int .i64 x ∧ 0 ≤ y ∧ y ≤ x ∧ x ≤ s.size ∧ PartsAt s c x y done ∧ Kd.R Kd.string 9 wr w.heap.size (fun _ => True) v done ∧ Below w.heap.size w wr) (fun _ _ i _ => s.size - (intOf i).toNat)
  case atStart => exact ⟨0, 0, [], rfl, rfl, Int.le_refl _, Int.le_refl _, by omega, parts_start s c, Kd.R_nil _ _ _ _ _, Below.refl _ _⟩
  case round =>
    obtain ⟨x, y, done, rfl, rfl, hy0, hyx, hx1, hP, hR, hB⟩ := hrel
    have HP := Lib.hid hP
    have HR := Lib.hid hR
    have HB := Lib.hid hB
    clear hP hR hB
    by_cases hlt : x < s.size
    · have hby := bt_at s x
      obtain ⟨hc0, hc1⟩ := bt_range s x
      by_cases hcc : bt s x = c
      · have HC := Lib.hid hcc
        go_wp2_with (at_builtin; refine Kd.R_append Kd.string (w0 := w) w.heap.size rfl (.tmp 19) (.tmp 24) 28 9 (.string ⟨#[]⟩) 16 rfl Tryd.underlying28 info9 rfl (by decide) (by decide) _ done (s.extract y.toNat x.toNat) [.string (s.extract y.toNat x.toNat)] (fun _ => True) (fun _ => False) rfl rfl rfl (fun _ hk => hk.elim) (fun _ _ => trivial) HR.out HB.out HB.out.size (by have := parts_len HP.out; omega) ?_; intro v1 w1 hR1 hb1 _ _; have HR1 := Lib.hid hR1; have HB1 := Lib.hid hb1; clear hR1 hb1)
        go_roundw
        case rel => exact ⟨x + 1, x + 1, _, by go_num, by go_num, by omega, by omega, by omega, parts_hit HP.out (by omega) hlt HC.out, HR1.out, HB1.out⟩
        case measure => simp [intOf]; omega
      · have HC := Lib.hid hcc
        go_wp2
        go_roundw
        case rel => exact ⟨x + 1, y, _, rfl, by go_num, by omega, by omega, by omega, parts_miss HP.out (by omega) hlt HC.out, HR.out, HB.out⟩
        case measure => simp [intOf]; omega
    · go_wp2_with (at_builtin; refine Kd.R_append Kd.string (w0 := w) w.heap.size rfl (.tmp 28) (.tmp 32) 28 9 (.string ⟨#[]⟩) 16 rfl Tryd.underlying28 info9 rfl (by decide) (by decide) _ done (s.extract y.toNat s.size) [.string (s.extract y.toNat s.size)] (fun _ => True) (fun _ => False) rfl rfl rfl (fun _ hk => hk.elim) (fun _ _ => trivial) HR.out HB.out HB.out.size (by have := parts_len HP.out; omega) ?_; intro v1 w1 hR1 hb1 _ _; have HR1 := Lib.hid hR1; have HB1 := Lib.hid hb1; clear hR1 hb1)
      go_ret
      exact ⟨_, rfl, by rw [parts_end HP.out (by omega)]; exact HR1.out, HB1.out⟩
end Go.Proofs.YtdonopoijbokiaaDoor
