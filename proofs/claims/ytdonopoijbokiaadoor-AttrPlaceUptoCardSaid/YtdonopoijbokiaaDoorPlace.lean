/- rosterref04.place: what it answers. -/
import Derived.Test.YtdonopoijbokiaaDoorGoes
namespace Go.Proofs.YtdonopoijbokiaaDoor
open Go.RowKit Go.Proofs.YtdonopoijbokiaaDoorW.PrintWords

theorem place_at {s : ByteArray} {b : Bool} {p : Int} {k : Nat} (hp : (((scanL b (nb s)).2 : Nat) : Int) = p) (hk : k ≤ s.size) : goesL b (nb (s.extract 0 k)) = decide ((k : Int) ≤ p) := by
  rw [nb_extract, List.drop_zero, Nat.sub_zero, goes_place _ _ _ (by rw [nb_length]; exact hk), ← hp]
  exact decide_eq_decide.2 (by omega)

set_option maxRecDepth 100000 in
set_option maxHeartbeats 1000000 in
theorem place_any (s : ByteArray) (alone : Bool) (w : World) (hs : s.size ≤ 4294966000) :
    Calls Tryd.prog 68 #[.string s, .bool alone] w fun e w' => e = .returned (.int .i64 (scanL alone (nb s)).2) ∧ Below w.heap.size w w' := by
  obtain ⟨p, hp⟩ : ∃ p : Int, (((scanL alone (nb s)).2 : Nat) : Int) = p := ⟨_, rfl⟩
  have hp0 : 0 ≤ p := by omega
  have hp1 : p ≤ s.size := by have := scanL_le alone (nb s); rw [nb_length] at this; omega
  have HP := Lib.hid hp
  rw [hp]
  clear hp
  go_enter Tryd.func68, Tryd.ntmps68
  go_wp2
  go_loopw [5, 6] (fun lo hi wr => ∃ x y : Int, lo = .int .i64 x ∧ hi = .int .i64 y ∧ 0 ≤ x ∧ x ≤ p ∧ p ≤ y ∧ y ≤ s.size ∧ Hid (Below w.heap.size w wr)) (fun lo hi _ => (intOf hi).toNat - (intOf lo).toNat)
  case atStart => exact ⟨0, s.size, rfl, rfl, by omega, hp0, hp1, by omega, Lib.hid (Below.refl _ _)⟩
  case round =>
    obtain ⟨x, y, rfl, rfl, hx0, hxp, hpy, hy, HB⟩ := hrel
    by_cases hlt : x < y
    · obtain ⟨mid, hm⟩ : ∃ mid, (x + y + 1) / 2 = mid := ⟨_, rfl⟩
      have hm0 : x < mid ∧ mid ≤ y := by omega
      obtain ⟨k, rfl⟩ : ∃ k : Nat, mid = k := ⟨mid.toNat, by omega⟩
      have hk : k ≤ s.size := by omega
      have hsk : (s.extract 0 k).size ≤ 4294966000 := by rw [ByteArray.size_extract]; omega
      have HG := Lib.hid (place_at HP.out hk)
      by_cases hkp : (k : Int) ≤ p
      · rw [decide_eq_true hkp] at HG
        go_wp2_with (go_at_call 84; refine (goes_any _ _ _ hsk).mono ?_; rw [HG.out]; rintro e w2 ⟨rfl, hb2⟩)
        go_roundw
        case rel => exact ⟨k, y, rfl, rfl, by omega, hkp, hpy, hy, Lib.hid (HB.out.trans (hb2.mono HB.out.size))⟩
        case measure => simp [intOf]; omega
      · rw [decide_eq_false hkp] at HG
        go_wp2_with (go_at_call 84; refine (goes_any _ _ _ hsk).mono ?_; rw [HG.out]; rintro e w2 ⟨rfl, hb2⟩)
        go_roundw
        case rel => exact ⟨x, k - 1, rfl, by go_num, by omega, hxp, by omega, by omega, Lib.hid (HB.out.trans (hb2.mono HB.out.size))⟩
        case measure => simp [intOf]; omega
    · obtain rfl : x = p := by omega
      go_wp2
      go_ret
      exact ⟨rfl, HB.out⟩
end Go.Proofs.YtdonopoijbokiaaDoor
