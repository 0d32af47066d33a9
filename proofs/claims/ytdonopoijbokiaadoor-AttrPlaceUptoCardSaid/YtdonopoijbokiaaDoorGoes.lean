/- rosterref04.goes: what it answers. -/
import Derived.Test.YtdonopoijbokiaaDoorIsDesc
namespace Go.Proofs.YtdonopoijbokiaaDoor
open Go.RowKit Go.Proofs.YtdonopoijbokiaaDoorW.PrintWords

theorem nb_append (s t : ByteArray) : nb (s ++ t) = nb s ++ nb t := by
  have e : (s ++ t).data.toList = s.data.toList ++ t.data.toList := by simp [ByteArray.data_append]
  unfold nb
  rw [e, List.map_append]
def endsC : Array Value := #[.string ⟨#[]⟩, .string ⟨#[97]⟩, .string ⟨#[49]⟩, .string ⟨#[46, 49]⟩]
theorem ends_at {w : World} {B : Nat} {t : TypeId} (h : w.heap[B]? = some (.cells endsC t (0, 0))) (k : Nat) (hk : k < 4) : ∃ e : ByteArray, w.cell? ⟨B, k, none⟩ = some (.string e) ∧ nb e = endsL.getD k [] ∧ e.size ≤ 2 := by
  have : k = 0 ∨ k = 1 ∨ k = 2 ∨ k = 3 := by omega
  rcases this with rfl | rfl | rfl | rfl
  · exact ⟨⟨#[]⟩, cell_of_row _ _ _ _ _ _ h, rfl, by decide⟩
  · exact ⟨⟨#[97]⟩, cell_of_row _ _ _ _ _ _ h, rfl, by decide⟩
  · exact ⟨⟨#[49]⟩, cell_of_row _ _ _ _ _ _ h, rfl, by decide⟩
  · exact ⟨⟨#[46, 49]⟩, cell_of_row _ _ _ _ _ _ h, rfl, by decide⟩
theorem upto_nat {P : Nat → Prop} {k : Nat} (h : ∀ j, j < k → P j) (hk : P k) : ∀ j, j < k + 1 → P j := fun j hj => by
  by_cases e : j = k
  · rw [e]; exact hk
  · exact h j (by omega)
theorem goes_yes {l : List Int} {b : Bool} {k : Nat} (hk : k < 4) (h : acc b begins (l ++ endsL.getD k []) = true) : goesL b l = true := by
  have : k = 0 ∨ k = 1 ∨ k = 2 ∨ k = 3 := by omega
  unfold goesL
  rcases this with rfl | rfl | rfl | rfl <;> simp_all [endsL]
theorem goes_no {l : List Int} {b : Bool} (h : ∀ j, j < 4 → acc b begins (l ++ endsL.getD j []) = false) : goesL b l = false := by
  have h0 := h 0 (by omega)
  have h1 := h 1 (by omega)
  have h2 := h 2 (by omega)
  have h3 := h 3 (by omega)
  unfold goesL
  simp_all [endsL]

set_option maxRecDepth 100000 in
set_option maxHeartbeats 1000000 in
theorem goes_any (s : ByteArray) (alone : Bool) (w : World) (hs : s.size ≤ 4294966000) :
    Calls Tryd.prog 84 #[.string s, .bool alone] w fun e w' => e = .returned (.bool (goesL alone (nb s))) ∧ Below w.heap.size w w' := by
  go_enter Tryd.func84, Tryd.ntmps84
  go_wp2
  go_loopw [6] (fun i wr => ∃ k : Nat, i = .int .i64 k ∧ k ≤ 4 ∧ Hid (∀ j, j < k → acc alone begins (nb s ++ endsL.getD j []) = false) ∧ Hid (wr.heap[w.heap.size]? = some (.cells endsC 71 (0, 0))) ∧ Hid (Below w.heap.size w wr) ∧ w.heap.size < wr.heap.size) (fun i _ => 4 - (intOf i).toNat)
  case atStart => exact ⟨0, rfl, by omega, Lib.hid (fun j hj => by omega), Lib.hid (heap_alloc_new w _), Lib.hid ((Below.refl _ w).alloc (Nat.le_refl _) _), by simp⟩
  case round =>
    obtain ⟨k, rfl, hk, HA, HE, HB, hlt⟩ := hrel
    by_cases hk4 : k < 4
    · obtain ⟨ee, hc, hne, hse⟩ := ends_at HE.out k hk4
      have hst : (s ++ ee).size ≤ 4294967000 := by rw [ByteArray.size_append]; omega
      obtain ⟨b, hb⟩ : ∃ b, acc alone begins (nb s ++ endsL.getD k []) = b := ⟨_, rfl⟩
      have hb' := hb
      rw [← hne, ← nb_append] at hb'
      have HB' := Lib.hid hb
      clear hb hne
      cases alone
      · rw [acc_desc] at hb'
        have HK := Lib.hid hb'
        clear hb'
        cases b
        · go_wp2_with (go_at_call 67; refine (isDesc_any _ _ hst).mono ?_; rw [HK.out]; rintro e w2 ⟨rfl, hb2⟩)
          go_roundw
          case rel => exact ⟨k + 1, by go_num, by omega, Lib.hid (upto_nat (P := fun j => acc _ begins (nb s ++ endsL.getD j []) = false) HA.out HB'.out), Lib.hid ((hb2.block _ hlt).trans HE.out), Lib.hid (HB.out.trans (hb2.mono HB.out.size)), Nat.lt_of_lt_of_le hlt hb2.size⟩
          case measure => simp [intOf]; omega
        · go_wp2_with (go_at_call 67; refine (isDesc_any _ _ hst).mono ?_; rw [HK.out]; rintro e w2 ⟨rfl, hb2⟩)
          go_ret
          exact ⟨by rw [goes_yes hk4 HB'.out]; rfl, HB.out.trans (hb2.mono HB.out.size)⟩
      · rw [acc_type] at hb'
        have HK := Lib.hid hb'
        clear hb'
        cases b
        · go_wp2_with (go_at_call 72; refine (isType_any _ _ hst).mono ?_; rw [HK.out]; rintro e w2 ⟨rfl, hb2⟩)
          go_roundw
          case rel => exact ⟨k + 1, by go_num, by omega, Lib.hid (upto_nat (P := fun j => acc _ begins (nb s ++ endsL.getD j []) = false) HA.out HB'.out), Lib.hid ((hb2.block _ hlt).trans HE.out), Lib.hid (HB.out.trans (hb2.mono HB.out.size)), Nat.lt_of_lt_of_le hlt hb2.size⟩
          case measure => simp [intOf]; omega
        · go_wp2_with (go_at_call 72; refine (isType_any _ _ hst).mono ?_; rw [HK.out]; rintro e w2 ⟨rfl, hb2⟩)
          go_ret
          exact ⟨by rw [goes_yes hk4 HB'.out]; rfl, HB.out.trans (hb2.mono HB.out.size)⟩
    · obtain rfl : k = 4 := by omega
      go_wp2
      go_ret
      exact ⟨by rw [goes_no HA.out]; rfl, HB.out⟩
end Go.Proofs.YtdonopoijbokiaaDoor
