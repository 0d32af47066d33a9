/- rosterref04.IsDesc: what it answers. -/
import Derived.Test.YtdonopoijbokiaaDoorGram
namespace Go.Proofs.YtdonopoijbokiaaDoor
open Go.RowKit Go.Proofs.YtdonopoijbokiaaDoorW.PrintWords

set_option maxRecDepth 100000 in
set_option maxHeartbeats 1000000 in
theorem isDesc_any (s : ByteArray) (w : World) (hs : s.size ≤ 4294967000) :
    Calls Tryd.prog 67 #[.string s] w fun e w' => e = .returned (.bool (isDescP (nb s))) ∧ Below w.heap.size w w' := by
  obtain ⟨xs, hxs⟩ : ∃ xs, partsB s 59 = xs := ⟨_, rfl⟩
  obtain ⟨n, hn⟩ : ∃ n, xs.length = n := ⟨_, rfl⟩
  have HT := Lib.hid (desc_parts hxs)
  have hnl : n ≤ 4294967001 := by have := parts_length hxs; omega
  have hn0 : 0 < n := by have := parts_ne hxs; omega
  have HX := Lib.hid hxs
  have HN := Lib.hid hn
  clear hxs hn
  have hsz : ∀ x : Int, 0 ≤ x → x < n → (rdOf ByteArray.empty xs x).size ≤ 4294967000 := fun x h0 hx => Nat.le_trans (parts_sizes HX.out _ (rd_mem h0 (by rw [HN.out]; exact hx))) hs
  go_enter Tryd.func67, Tryd.ntmps67
  go_wp2_with (go_at_call 69; refine (parts_any _ _ _ hs (by decide) (by decide)).mono ?_; rw [HX.out]; rintro e w1 ⟨v, rfl, hR, hb1⟩; obtain ⟨A, c, rfl, hlc, hC⟩ := Kd.R_reads hR; rw [HN.out] at hC ⊢; have HC := Lib.hid hC; have HB := Lib.hid hb1; clear hR hlc hC hb1)
  go_loopw [4] (fun i wr => ∃ x : Int, i = .int .i64 x ∧ 1 ≤ x ∧ x ≤ n ∧ Hid (∀ y : Int, 1 ≤ y → y < x → keysP (nb (rdOf ByteArray.empty xs y)) = true) ∧ Drawn0 w1 wr) (fun i _ => n - (intOf i).toNat)
  case atStart => exact ⟨1, rfl, Int.le_refl _, by omega, Lib.hid (fun y _ _ => by omega), Drawn0.refl _⟩
  case round =>
    obtain ⟨x, rfl, hx0, hx1, HA, ⟨m, rfl⟩⟩ := hrel
    by_cases hlt : x < n
    · obtain ⟨ad, e1, hcl⟩ := Kd.at_string HC.out x (by omega) hlt
      cases e1
      have hsx := hsz x (by omega) hlt
      obtain ⟨b, hb⟩ : ∃ b, keysP (nb (rdOf ByteArray.empty xs x)) = b := ⟨_, rfl⟩
      have HK := Lib.hid hb
      clear hb hsz
      cases b
      · go_wp2_with (go_at_call 83; refine (keys_any _ _ hsx).mono ?_; rw [HK.out]; rintro e w2 ⟨rfl, hd⟩)
        go_ret
        exact ⟨by rw [HT.out, tail_not (f := fun p => keysP (nb p)) hx0 (by rw [HN.out]; exact hlt) HK.out]; rfl, (HB.out.trans ((Drawn0.step (Drawn0.refl _) _).below.mono HB.out.size)).trans (hd.below.mono (by simp; exact HB.out.size))⟩
      · go_wp2_with (go_at_call 83; refine (keys_any _ _ hsx).mono ?_; rw [HK.out]; rintro e w2 ⟨rfl, ⟨m2, rfl⟩⟩)
        go_roundw
        case rel => exact ⟨x + 1, by go_num, by omega, by omega, Lib.hid (upto_list (f := fun p => keysP (nb p)) HA.out HK.out), Drawn0.step (Drawn0.refl _) _⟩
        case measure => simp [intOf]; omega
    · obtain ⟨ad, e1, hcl⟩ := Kd.at_string HC.out 0 (by omega) (by omega)
      cases e1
      have hcl0 : w1.cell? ad = some (.string (rdOf ByteArray.empty xs 0)) := hcl
      have hs0 := hsz 0 (by omega) (by omega)
      clear hsz hcl
      go_wp2_with (go_at_call 72; refine (isType_any _ _ hs0).mono ?_; rintro e w2 ⟨rfl, hb2⟩)
      go_ret
      exact ⟨by rw [HT.out, tail_all (f := fun p => keysP (nb p)) HA.out (by rw [HN.out]; omega), Bool.true_and]; rfl, (HB.out.trans ((Drawn0.step (Drawn0.refl _) _).below.mono HB.out.size)).trans (hb2.mono (by simp; exact HB.out.size))⟩
end Go.Proofs.YtdonopoijbokiaaDoor
