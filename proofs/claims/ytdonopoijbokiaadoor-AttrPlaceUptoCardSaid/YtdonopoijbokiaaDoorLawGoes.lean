/- rosterlaw04.num and rosterlaw04.goes: what they answer. -/
import Derived.Test.YtdonopoijbokiaaDoorParseNo
import Derived.Test.YtdonopoijbokiaaDoorPlace
namespace Go.Proofs.YtdonopoijbokiaaDoor
open Go.RowKit Go.Proofs.YtdonopoijbokiaaDoorW.PrintWords

set_option maxRecDepth 100000 in
theorem num_zero (w : World) : Calls Tryd.prog 23 #[.int .i64 0] w fun e w' => e = .returned (.int .i64 0) ∧ w' = w := by
  go_enter Tryd.func23, Tryd.ntmps23
  go_wp2
  go_ret
  exact ⟨rfl, rfl⟩
set_option maxRecDepth 100000 in
theorem num_forty (w : World) : Calls Tryd.prog 23 #[.int .i64 40] w fun e w' => e = .returned (.int .i64 40) ∧ w' = w := by
  go_enter Tryd.func23, Tryd.ntmps23
  go_wp2
  go_ret
  exact ⟨rfl, rfl⟩

/-- The description's type and options. -/
noncomputable def typeB (s : ByteArray) : ByteArray := canonB (rdOf ByteArray.empty (partsB s 59) 0)
def optB (s : ByteArray) : List ByteArray := optsB (partsB s 59)
theorem parse_ok (s : ByteArray) (w : World) (hs : s.size ≤ 4294967000) (hM : MaxAt w) (hok : acc false begins (nb s) = true) :
    Calls Tryd.prog 22 #[.string s] w fun e w' => ∃ A c, e = .returned (.tuple #[.agg #[.string (typeB s), .slice A (optB s).length c], .int .i64 0, .int .i64 s.size]) ∧ Kd.R Kd.string 9 w' w.heap.size (fun _ => True) (.slice A (optB s).length c) (optB s) ∧ Below w.heap.size w w' := by
  refine (parse_any s w hs hM hok).mono ?_
  rintro e w' ⟨v, rfl, hR, hb⟩
  obtain ⟨A, c, rfl⟩ := Kd.R_slice hR
  exact ⟨A, c, rfl, hR, hb⟩

set_option maxRecDepth 100000 in
set_option maxHeartbeats 1000000 in
theorem lawGoes_any (s : ByteArray) (w : World) (hs : s.size ≤ 4294966000) (hM : MaxAt w) :
    Calls Tryd.prog 21 #[.string s] w fun e w' => e = .returned (.bool (goesL false (nb s))) ∧ Below w.heap.size w w' := by
  go_enter Tryd.func21, Tryd.ntmps21
  go_wp2
  go_loopw [4] (fun i wr => ∃ k : Nat, i = .int .i64 k ∧ k ≤ 4 ∧ Hid (∀ j, j < k → acc false begins (nb s ++ endsL.getD j []) = false) ∧ Hid (wr.heap[w.heap.size]? = some (.cells endsC 71 (0, 0))) ∧ Hid (Below w.heap.size w wr) ∧ w.heap.size < wr.heap.size) (fun i _ => 4 - (intOf i).toNat)
  case atStart => exact ⟨0, rfl, by omega, Lib.hid (fun j hj => by omega), Lib.hid (heap_alloc_new w _), Lib.hid ((Below.refl _ w).alloc (Nat.le_refl _) _), by simp⟩
  case round =>
    obtain ⟨k, rfl, hk, HA, HE, HB, hlt⟩ := hrel
    by_cases hk4 : k < 4
    · obtain ⟨ee, hc, hne, hse⟩ := ends_at HE.out k hk4
      have hst : (s ++ ee).size ≤ 4294967000 := by rw [ByteArray.size_append]; omega
      obtain ⟨b, hb⟩ : ∃ b, acc false begins (nb s ++ endsL.getD k []) = b := ⟨_, rfl⟩
      have hb' := hb
      rw [← hne, ← nb_append] at hb'
      have HB' := Lib.hid hb
      clear hb hne
      have HK := Lib.hid hb'
      clear hb'
      cases b
      · go_wp2_with (first | (go_at_call 22; refine (parse_no _ _ hst HK.out).mono ?_; rintro e w2 ⟨rfl, hb2⟩; have hb2 := hb2.alloc hb2.size (.cells #[.string ⟨#[]⟩, .slice none 0 0] 40)) | (go_at_call 23; refine (num_forty _).mono ?_; rintro e w3 ⟨rfl, rfl⟩))
        go_roundw
        case rel => exact ⟨k + 1, by go_num, by omega, Lib.hid (upto_nat (P := fun j => acc _ begins (nb s ++ endsL.getD j []) = false) HA.out HB'.out), Lib.hid ((hb2.block _ hlt).trans HE.out), Lib.hid (HB.out.trans (hb2.mono HB.out.size)), Nat.lt_of_lt_of_le hlt hb2.size⟩
        case measure => simp [intOf]; omega
      · go_wp2_with (first | (go_at_call 22; refine (parse_ok _ _ hst (hM.below HB.out) HK.out).mono ?_; rintro e w2 ⟨A, c, rfl, -, hb2⟩; have hb2 := hb2.alloc hb2.size (.cells #[.string (typeB (s ++ ee)), .slice A (optB (s ++ ee)).length c] 40)) | (go_at_call 23; refine (num_zero _).mono ?_; rintro e w3 ⟨rfl, rfl⟩))
        go_ret
        exact ⟨by rw [goes_yes hk4 HB'.out]; rfl, HB.out.trans (hb2.mono HB.out.size)⟩
    · obtain rfl : k = 4 := by omega
      go_wp2
      go_ret
      exact ⟨by rw [goes_no HA.out]; rfl, HB.out⟩
end Go.Proofs.YtdonopoijbokiaaDoor
