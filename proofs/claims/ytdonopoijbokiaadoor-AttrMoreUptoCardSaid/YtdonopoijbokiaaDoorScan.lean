/- attr.scan: what it answers. -/
import Derived.Test.YtdonopoijbokiaaDoorNext
import Derived.Test.YtdonopoijbokiaaDoorB3
set_option linter.unusedVariables false
set_option linter.unusedSimpArgs false
namespace Go.Proofs.YtdonopoijbokiaaDoor
open Go.RowKit Go.Proofs.YtdonopoijbokiaaDoorW.PrintWords

theorem drop_at {s : ByteArray} {k : Nat} (h : k < s.size) : (nb s).drop k = bt s k :: (nb s).drop (k + 1) := by
  have h' : k < (nb s).length := by rw [nb_length]; exact h
  rw [List.drop_eq_getElem_cons h', bt_nb, List.getD_eq_getElem?_getD, Int.toNat_natCast, List.getElem?_eq_getElem h']
  rfl
/-- The loop's word: where the reader stands tells the answer. -/
structure Scans (s : ByteArray) (bare : Bool) (x : Int) (r : St) : Prop where
  ok : r.ok
  pts : r.pts ≤ x
  is : scanFrom bare r ((nb s).drop x.toNat) x.toNat = scanL bare (nb s)
theorem scans_start (s : ByteArray) (bare : Bool) : Scans s bare 0 ⟨0, 0⟩ := ⟨ok_begins, Int.le_refl _, rfl⟩
theorem scans_end {s : ByteArray} {bare : Bool} {x : Int} {r : St} (h : Scans s bare x r) (hk : x = s.size) : Ending.returned (.tuple #[.bool r.whole, .int .i64 s.size]) = .returned (.tuple #[.bool (scanL bare (nb s)).1, .int .i64 (scanL bare (nb s)).2]) := by
  rw [← h.is, List.drop_of_length_le (by rw [nb_length]; omega), hk]
  rfl
theorem scans_stop {s : ByteArray} {bare : Bool} {x : Int} {r : St} (h : Scans s bare x r) (h0 : 0 ≤ x) (hk : x < s.size) (e : r.step bare (bt s x) = none) : Ending.returned (.tuple #[.bool false, .int .i64 x]) = .returned (.tuple #[.bool (scanL bare (nb s)).1, .int .i64 (scanL bare (nb s)).2]) := by
  obtain ⟨k, rfl⟩ := Int.eq_ofNat_of_zero_le h0
  rw [← h.is, Int.toNat_natCast, drop_at (by omega), scanFrom, e]
theorem scans_next {s : ByteArray} {bare : Bool} {x : Int} {r r' : St} (h : Scans s bare x r) (h0 : 0 ≤ x) (hk : x < s.size) (e : r.step bare (bt s x) = some r') : Scans s bare (x + 1) r' := by
  obtain ⟨h1, h2⟩ := ok_step h.ok e
  have := h.pts
  refine ⟨h1, by omega, ?_⟩
  obtain ⟨k, rfl⟩ := Int.eq_ofNat_of_zero_le h0
  have hi := h.is
  rw [Int.toNat_natCast, drop_at (by omega), scanFrom, e] at hi
  exact hi
theorem step_on {bare : Bool} {r : St} {c : Int} (h : ¬ (bare = true ∧ c = 59)) : r.step bare c = r.next c := if_neg h
theorem step_off {r : St} : r.step true 59 = none := if_pos ⟨rfl, rfl⟩

set_option maxRecDepth 100000 in
set_option maxHeartbeats 4000000 in
theorem scan_any (s : ByteArray) (bare : Bool) (w : World) (hs : s.size ≤ 140737488351232) :
    Calls Tryd.prog 47 #[.string s, .bool bare] w fun e w' => e = .returned (.tuple #[.bool (scanL bare (nb s)).1, .int .i64 (scanL bare (nb s)).2]) ∧ Below w.heap.size w w' := by
  go_enter Tryd.func47, Tryd.ntmps47
  go_wp2
  go_loopw [11] (fun i wr => ∃ (x : Int) (r : St), i = .int .i64 x ∧ 0 ≤ x ∧ x ≤ s.size ∧ Scans s bare x r ∧ AtRd wr w.heap.size r ∧ Below w.heap.size w wr) (fun i wr => s.size - (intOf i).toNat)
  case atStart => exact ⟨0, ⟨0, 0⟩, rfl, Int.le_refl _, by omega, scans_start s bare, heap_alloc_new w _, (Below.refl _ w).alloc (Nat.le_refl _) _⟩
  case round =>
    obtain ⟨x, r, rfl, hx0, hx1, hS, hA, hB⟩ := hrel
    have HS := Lib.hid hS
    have HB := Lib.hid hB
    have HA := Lib.hid hA
    obtain ⟨⟨q0, q1⟩, qf⟩ := cells2 hA
    have hp : r.pts ≤ 140737488351232 := by have := hS.pts; omega
    clear hS hB hA
    by_cases hlt : x < s.size
    · have hby := bt_at s x
      obtain ⟨hc0, hc1⟩ := bt_range s x
      by_cases h59 : bt s x = 59
      · have H59 := Lib.hid h59
        cases bare
        · obtain ⟨o, ho⟩ : ∃ o, r.next 59 = o := ⟨_, rfl⟩
          have HO := Lib.hid ho
          clear ho
          cases o
          · go_wp2_with (go_at_call 63; refine (next_any r _ _ _ HS.out.ok hp HA.out).mono ?_; rintro e w1 ⟨rfl, hA1, hb1⟩; rw [HO.out])
            (try simp only [Exit.inBlock, Exit.then])
            go_ret2
            exact ⟨scans_stop HS.out hx0 hlt (by rw [H59.out, step_on (by simp), HO.out]), HB.out.trans hb1⟩
          · go_wp2_with (go_at_call 63; refine (next_any r _ _ _ HS.out.ok hp HA.out).mono ?_; rintro e w1 ⟨rfl, hA1, hb1⟩; rw [HO.out] at hA1 ⊢; simp only [Option.getD_some] at hA1)
            go_roundw
            case rel => exact ⟨x + 1, _, by go_num, by omega, by omega, scans_next HS.out hx0 hlt (by rw [H59.out, step_on (by simp), HO.out]), hA1, HB.out.trans hb1⟩
            case measure => simp [intOf]; omega
        · go_wp2
          (try simp only [Exit.inBlock, Exit.then])
          go_ret2
          exact ⟨scans_stop HS.out hx0 hlt (by rw [H59.out, step_off]), HB.out⟩
      · obtain ⟨o, ho⟩ : ∃ o, r.next (bt s x) = o := ⟨_, rfl⟩
        have HO := Lib.hid ho
        have H59 := Lib.hid h59
        clear ho
        cases o
        · cases bare
          all_goals
            go_wp2_with (go_at_call 63; refine (next_any r _ _ _ HS.out.ok hp HA.out).mono ?_; rintro e w1 ⟨rfl, hA1, hb1⟩; rw [HO.out])
            (try simp only [Exit.inBlock, Exit.then])
            go_ret2
            exact ⟨scans_stop HS.out hx0 hlt (by rw [step_on (fun h => H59.out h.2), HO.out]), HB.out.trans hb1⟩
        · cases bare
          all_goals
            go_wp2_with (go_at_call 63; refine (next_any r _ _ _ HS.out.ok hp HA.out).mono ?_; rintro e w1 ⟨rfl, hA1, hb1⟩; rw [HO.out] at hA1 ⊢; simp only [Option.getD_some] at hA1)
            go_roundw
            case rel => exact ⟨x + 1, _, by go_num, by omega, by omega, scans_next HS.out hx0 hlt (by rw [step_on (fun h => H59.out h.2), HO.out]), hA1, HB.out.trans hb1⟩
            case measure => simp [intOf]; omega
    · go_wp2_with (go_at_call 64; refine (whole_any r _).mono ?_; rintro e w1 ⟨rfl, hb1⟩)
      (try simp only [Exit.inBlock, Exit.then])
      go_ret2
      exact ⟨scans_end HS.out (by omega), HB.out.trans (hb1.mono HB.out.size)⟩
end Go.Proofs.YtdonopoijbokiaaDoor
