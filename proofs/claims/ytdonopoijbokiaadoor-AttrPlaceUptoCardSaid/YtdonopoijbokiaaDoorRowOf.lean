/- rosterref04.Row: what is told of a row. -/
import Derived.Test.YtdonopoijbokiaaDoorRow
import Derived.Test.YtdonopoijbokiaaDoorKinds
import Derived.Deep.RegionHeld3
import Derived.Deep.RegionLaw
import Derived.Deep.AppendLies
namespace Go.Proofs.YtdonopoijbokiaaDoor
open Go.RowKit Go.Proofs.YtdonopoijbokiaaDoorW.PrintWords

/-- A row's other names. -/
noncomputable def aliasAt (i : Nat) : List ByteArray := if (nameAt i 1).toList.isEmpty then [] else [nameAt i 1]
/-- Its super type's first name. -/
noncomputable def superAt (i : Nat) : ByteArray := if 0 ≤ kindAt i 0 then nameAt (kindAt i 0).toNat 0 else ⟨#[]⟩

theorem cells6 {W : World} {B : Nat} {a b c d e f : Value} {t : TypeId} (h : W.heap[B]? = some (.cells #[a, b, c, d, e, f] t (0, 0))) :
    (W.cell? ⟨B, 0, none⟩ = some a ∧ W.cell? ⟨B, 1, none⟩ = some b ∧ W.cell? ⟨B, 2, none⟩ = some c ∧ W.cell? ⟨B, 3, none⟩ = some d ∧ W.cell? ⟨B, 4, none⟩ = some e ∧ W.cell? ⟨B, 5, none⟩ = some f) ∧ ∀ j, W.frozen? ⟨B, j, none⟩ = false :=
  ⟨⟨cell_of_row _ _ _ _ _ _ h, cell_of_row _ _ _ _ _ _ h, cell_of_row _ _ _ _ _ _ h, cell_of_row _ _ _ _ _ _ h, cell_of_row _ _ _ _ _ _ h, cell_of_row _ _ _ _ _ _ h⟩, fun j => frozen_of_row _ _ _ _ _ h⟩

theorem NamesAt.far {w : World} {g : Nat} (h : NamesAt w g) {a : Addr} (ha : a.block ≠ g) (v : Value) : NamesAt (w.setCell a v) g :=
  ⟨by simpa using h.lt, fun i j hk => by
    rw [World.cell?_setCell_other _ _ _ _ (fun e => ha (by rw [e]))]
    exact h.cell i j hk⟩
theorem KindsAt.far {w : World} (h : KindsAt w) {a : Addr} (ha : a.block ≠ 1) (v : Value) : KindsAt (w.setCell a v) :=
  ⟨by simpa using h.lt, fun i j hk => by
    rw [World.cell?_setCell_other _ _ _ _ (fun e => ha (by rw [e]))]
    exact h.cell i j hk⟩
theorem below_grown_nil {W w1 : World} {o : Obj} (h : Below W.heap.size W (W.alloc o)) (hg : (W.alloc o).drew.grownBy w1 (Value.slice none 0 0).ownBlock) : Below W.heap.size W w1 :=
  (below_drew h).grown hg (by simp) (fun k e => by simp [Value.ownBlock] at e)
theorem six_block {W : World} {B : Nat} {a0 b0 c0 d0 e0 f0 : Value} {t : TypeId} (h : W.heap[B]? = some (.cells #[a0, b0, c0, d0, e0, f0] t (0, 0))) (a b c d e f : Value) :
    ((((((W.setCell ⟨B, 0, none⟩ a).setCell ⟨B, 1, none⟩ b).setCell ⟨B, 2, none⟩ c).setCell ⟨B, 3, none⟩ d).setCell ⟨B, 4, none⟩ e).setCell ⟨B, 5, none⟩ f).heap[B]? = some (.cells #[a, b, c, d, e, f] t (0, 0)) :=
  heap_setCell_same _ B 5 _ t f (heap_setCell_same _ B 4 _ t e (heap_setCell_same _ B 3 _ t d (heap_setCell_same _ B 2 _ t c (heap_setCell_same _ B 1 _ t b (heap_setCell_same W B 0 _ t a h)))))

set_option maxRecDepth 100000 in
set_option maxHeartbeats 2000000 in
theorem rowOf_any (k : Nat) (w : World) (hk : k < 62) (hG : KindsAt w) :
    Calls Tryd.prog 41 #[.int .i64 k] w fun e w' => ∃ v, e = .returned (.agg #[.string (nameAt k 0), v, .string (nameAt k 2), .string (superAt k), .int .i64 (kindAt k 1), .int .i64 (kindAt k 2)]) ∧ Kd.R Kd.string 9 w' w.heap.size (fun _ => True) v (aliasAt k) ∧ Below w.heap.size w w' := by
  obtain ⟨nv, hnv⟩ : ∃ nv, nv = namesL.toArray := ⟨_, rfl⟩
  go_enter Tryd.func41, Tryd.ntmps41
  go_upto_region 3 with (first | (go_at_call 53; refine (names_any _).mono ?_; rw [← hnv]; rintro e w2 ⟨rfl, hb2⟩; rw [hnv]) | (refine wpList_store_names rfl _ _ rfl rfl rfl ?_; intro W3 hN hb3))
  simp only [World.size_alloc] at hb2
  have hb : Below (w.heap.size + 2) _ W3 := hb2.trans (hb3.mono (by have := hb2.size; simp at this; omega))
  have h0 := (hb.block w.heap.size (by omega)).trans (heap_alloc2_old w _ _)
  have h1 := (hb.block (w.heap.size + 1) (by omega)).trans (heap_alloc2_new w _ _)
  have hB : Below w.heap.size w W3 := (((Below.refl _ w).alloc (Nat.le_refl _) _).alloc (by simp) _).trans (hb.mono (by omega))
  have hg : w.heap.size + 1 < w2.heap.size := by have := hb2.size; simp at this; omega
  have HN := Lib.hid hN
  have HK := Lib.hid (hG.below hB)
  have hG1 := hG.lt
  have HB := Lib.hid hB
  have H0 := Lib.hid h0
  generalize w2.heap.size = g at HN hg ⊢
  clear hb2 hb3 hb hN hB hG h0 hnv
  obtain ⟨⟨q0, q1, q2, q3, q4, q5⟩, qf⟩ := cells6 h1
  have e0 : W3.cell? ⟨g, k * 3, none⟩ = some (.string (nameAt k 0)) := HN.out.cell k 0 (by omega)
  have e1 := HN.out.cell k 1 (by omega)
  have e2 := HN.out.cell k 2 (by omega)
  have m0 : W3.cell? ⟨1, k * 3, none⟩ = some (.int .i64 (kindAt k 0)) := HK.out.cell k 0 (by omega)
  have m1 := HK.out.cell k 1 (by omega)
  have m2 := HK.out.cell k 2 (by omega)
  have hg1 : 1 < w.heap.size := hG1
  obtain ⟨z0, z1, z2, z3, z4, z5⟩ := (cells6 H0.out).1
  have zf := (cells6 H0.out).2
  obtain ⟨sp, hsp⟩ : ∃ sp, superAt k = sp := ⟨_, rfl⟩
  obtain ⟨al, hal⟩ : ∃ al, aliasAt k = al := ⟨_, rfl⟩
  have HS := Lib.hid hsp
  have HA := Lib.hid hal
  clear hsp hal
  have hsr := super_range k hk
  cases hae : (nameAt k 1).toList.isEmpty with
  | true =>
    by_cases hp : 0 ≤ kindAt k 0
    · obtain ⟨p, hpk⟩ : ∃ p : Nat, kindAt k 0 = p := ⟨_, (Int.toNat_of_nonneg hp).symm⟩
      rw [hpk] at m0 hsr hp
      have HP := Lib.hid hpk
      clear hpk
      have e3 : W3.cell? ⟨g, p * 3, none⟩ = some (.string (nameAt p 0)) := HN.out.cell p 0 (by omega)
      go_wp2
      refine bodyPost_ret (results_cell_row rfl _ _ w.heap.size 32 #[.string (nameAt k 0), .slice none 0 0, .string (nameAt k 2), .string (nameAt p 0), .int .i64 (kindAt k 1), .int .i64 (kindAt k 2)] (0, 0) _ rfl
        (six_block (by (iterate 5 (first | (with_reducible refine (heap_setCell_other _ _ _ _ ?_).trans ?_; (· simp)) | skip)); exact H0.out) _ _ _ _ _ _) Tryd.underlying32 rfl (by kernel_rfl)) rfl ⟨.slice none 0 0, ?_, ?_, ?_⟩
      · rw [superAt, if_pos (by rw [HP.out]; exact hp), HP.out]
        rfl
      · rw [aliasAt, if_pos hae]
        exact Kd.R_nil _ _ _ _ _
      · repeat (first | (with_reducible exact HB.out) | (with_reducible refine Below.setCell ?_ (by simp) _))
    · go_wp2
      refine bodyPost_ret (results_cell_row rfl _ _ w.heap.size 32 #[.string (nameAt k 0), .slice none 0 0, .string (nameAt k 2), .string ⟨#[]⟩, .int .i64 (kindAt k 1), .int .i64 (kindAt k 2)] (0, 0) _ rfl
        (six_block (by (iterate 5 (first | (with_reducible refine (heap_setCell_other _ _ _ _ ?_).trans ?_; (· simp)) | skip)); exact H0.out) _ _ _ _ _ _) Tryd.underlying32 rfl (by kernel_rfl)) rfl ⟨.slice none 0 0, ?_, ?_, ?_⟩
      · rw [superAt, if_neg (by omega)]
      · rw [aliasAt, if_pos hae]
        exact Kd.R_nil _ _ _ _ _
      · repeat (first | (with_reducible exact HB.out) | (with_reducible refine Below.setCell ?_ (by simp) _))
  | false =>
    go_upto_region 5 with (fail)
    have k1 := heap_setCell_same W3 (w.heap.size + 1) 0 _ _ (.string (nameAt k 0)) h1
    have k0 : (W3.setCell ⟨w.heap.size + 1, 0, none⟩ (.string (nameAt k 0))).heap[w.heap.size]? = _ := (heap_setCell_other _ _ _ _ (by simp)).trans H0.out
    have kB := HB.out.setCell (p := ⟨w.heap.size + 1, 0, none⟩) (by simp) (.string (nameAt k 0))
    have kN := HN.out.far (a := ⟨w.heap.size + 1, 0, none⟩) (Nat.ne_of_lt hg) (.string (nameAt k 0))
    have kK := HK.out.far (a := ⟨w.heap.size + 1, 0, none⟩) (show w.heap.size + 1 ≠ 1 by omega) (.string (nameAt k 0))
    generalize W3.setCell ⟨w.heap.size + 1, 0, none⟩ (.string (nameAt k 0)) = W4 at k0 k1 kB kN kK ⊢
    clear h1 H0 HB HN HK q0 q1 q2 q3 q4 q5 qf e0 e1 e2 m0 m1 m2 z0 z1 z2 z3 z4 z5 zf
    obtain ⟨⟨q0, q1, q2, q3, q4, q5⟩, qf⟩ := cells6 k1
    have e1 := kN.cell k 1 (by omega)
    have KN := Lib.hid kN
    have KB := Lib.hid kB
    have K0 := Lib.hid k0
    have K1 := Lib.hid k1
    have KK := Lib.hid kK
    have lt1 : w.heap.size + 1 < W4.heap.size := by have := kN.lt; omega
    have ltg := kN.lt
    clear kN kB k0 k1 kK
    obtain ⟨i0, hi0, hz0, hz1, hz2⟩ := info_parts info9
    have hal1 := (Below.refl W4.heap.size W4).alloc (Nat.le_refl _) (.cells #[.string (nameAt k 1)] 9)
    have hal1 := Lib.hid hal1
    have hk0 : (0 : Int) ≤ (k : Int) := Int.natCast_nonneg _
    have hk1 : (k : Int) < (62 : Int) := by omega
    go_region_law (first | (refine step_append_lies _ (by rfl) _ _ _ (by rfl) w.heap.size 9 i0 _ 1 16 Tryd.underlying28 hi0 hz0 hz1 hz2 rfl (by omega) (.slice none 0 0) 0 [] (by rfl) (own_nil _ _ _ _) ⟨W4.heap.size, 0, none⟩ 1 1 [.string (nameAt k 1)] (by rfl) (by rfl) (World.news_of_block (cs := #[.string (nameAt k 1)]) (t := 9) (fr := (0, 0)) (heap_alloc_new W4 _)) (by simp [Value.oneCell']) (by omega) (by unfold maxLen; omega) (by omega) (by simp; omega) (W4.heap.size + 1) (by simp) ?_; intro gg cap w1 hown1 hgrow hat hlt; have hb1 := Lib.hid (below_grown_nil hal1.out hgrow); have x1 := (hb1.out.cell (p := ⟨w.heap.size + 1, 1, none⟩) lt1).trans q1; have xf := (hb1.out.frozen (p := ⟨w.heap.size + 1, 1, none⟩) lt1).trans (qf 1)) | go_simp)
    all_goals
      have k1 := heap_setCell_same w1 (w.heap.size + 1) 1 _ _ (.slice (some ⟨gg, 0, none⟩) 1 cap) ((hb1.out.block (w.heap.size + 1) lt1).trans K1.out)
      have k0 := (heap_setCell_other w1 ⟨w.heap.size + 1, 1, none⟩ w.heap.size (.slice (some ⟨gg, 0, none⟩) 1 cap) (by simp)).trans ((hb1.out.block w.heap.size (by omega)).trans K0.out)
      have kB := (KB.out.trans (hb1.out.mono (by omega))).setCell (p := ⟨w.heap.size + 1, 1, none⟩) (by simp) (.slice (some ⟨gg, 0, none⟩) 1 cap)
      have kN := (KN.out.below hb1.out).far (a := ⟨w.heap.size + 1, 1, none⟩) (Nat.ne_of_lt hg) (.slice (some ⟨gg, 0, none⟩) 1 cap)
      have kK := (KK.out.below hb1.out).far (a := ⟨w.heap.size + 1, 1, none⟩) (show w.heap.size + 1 ≠ 1 by omega) (.slice (some ⟨gg, 0, none⟩) 1 cap)
      have hgg : w.heap.size + 1 < gg := by
        rcases hat with hat | hat
        · simp [Value.ownBlock] at hat
        · omega
      have kR : Kd.R Kd.string 9 w1 w.heap.size (fun b => b = gg) (.slice (some ⟨gg, 0, none⟩) 1 cap) [nameAt k 1] := Kd.R_of_own hown1 (fun b hb => by simpa [Value.ownBlock] using hb.symm)
      have kR := Kd.R_far (p := ⟨w.heap.size + 1, 1, none⟩) kR (fun b hb => by simp; omega) (.slice (some ⟨gg, 0, none⟩) 1 cap)
      generalize w1.setCell ⟨w.heap.size + 1, 1, none⟩ (.slice (some ⟨gg, 0, none⟩) 1 cap) = W5 at k0 k1 kB kN kK kR ⊢
      clear hown1 hgrow hat hlt hb1 x1 xf hal1 q0 q1 q2 q3 q4 q5 qf e1 K0 K1 KB KN KK
      obtain ⟨⟨q0, q1, q2, q3, q4, q5⟩, qf⟩ := cells6 k1
      obtain ⟨⟨z0, z1, z2, z3, z4, z5⟩, zf⟩ := cells6 k0
      have e2 := kN.cell k 2 (by omega)
      have m0 : W5.cell? ⟨1, k * 3, none⟩ = some (.int .i64 (kindAt k 0)) := kK.cell k 0 (by omega)
      have m1 := kK.cell k 1 (by omega)
      have m2 := kK.cell k 2 (by omega)
      have KN := Lib.hid kN
      have KB := Lib.hid kB
      have K0 := Lib.hid k0
      have KR := Lib.hid kR
      clear kN kB k0 k1 kK kR
      by_cases hp : 0 ≤ kindAt k 0
      · obtain ⟨p, hpk⟩ : ∃ p : Nat, kindAt k 0 = p := ⟨_, (Int.toNat_of_nonneg hp).symm⟩
        rw [hpk] at m0 hsr hp
        have HP := Lib.hid hpk
        clear hpk
        have e3 : W5.cell? ⟨g, p * 3, none⟩ = some (.string (nameAt p 0)) := KN.out.cell p 0 (by omega)
        go_wp2
        refine bodyPost_ret (results_cell_row rfl _ _ w.heap.size 32 #[.string (nameAt k 0), .slice (some ⟨gg, 0, none⟩) 1 cap, .string (nameAt k 2), .string (nameAt p 0), .int .i64 (kindAt k 1), .int .i64 (kindAt k 2)] (0, 0) _ rfl
          (six_block (by (iterate 5 (first | (with_reducible refine (heap_setCell_other _ _ _ _ ?_).trans ?_; (· simp)) | skip)); exact K0.out) _ _ _ _ _ _) Tryd.underlying32 rfl (by kernel_rfl)) rfl ⟨.slice (some ⟨gg, 0, none⟩) 1 cap, ?_, ?_, ?_⟩
        · rw [superAt, if_pos (by rw [HP.out]; exact hp), HP.out]
          rfl
        · rw [aliasAt, if_neg (by rw [hae]; decide)]
          refine Kd.R_mono (ok := fun b => b = gg) ?_ (fun _ _ => trivial)
          iterate 11 (first | (with_reducible refine Kd.R_far ?_ (fun b hb => (?_ : b ≠ _)) _; rotate_left; (· rw [hb]; simp; omega)) | skip)
          exact KR.out
        · repeat (first | (with_reducible exact KB.out) | (with_reducible refine Below.setCell ?_ (by simp) _))
      · go_wp2
        refine bodyPost_ret (results_cell_row rfl _ _ w.heap.size 32 #[.string (nameAt k 0), .slice (some ⟨gg, 0, none⟩) 1 cap, .string (nameAt k 2), .string ⟨#[]⟩, .int .i64 (kindAt k 1), .int .i64 (kindAt k 2)] (0, 0) _ rfl
          (six_block (by (iterate 5 (first | (with_reducible refine (heap_setCell_other _ _ _ _ ?_).trans ?_; (· simp)) | skip)); exact K0.out) _ _ _ _ _ _) Tryd.underlying32 rfl (by kernel_rfl)) rfl ⟨.slice (some ⟨gg, 0, none⟩) 1 cap, ?_, ?_, ?_⟩
        · rw [superAt, if_neg (by omega)]
        · rw [aliasAt, if_neg (by rw [hae]; decide)]
          refine Kd.R_mono (ok := fun b => b = gg) ?_ (fun _ _ => trivial)
          iterate 11 (first | (with_reducible refine Kd.R_far ?_ (fun b hb => (?_ : b ≠ _)) _; rotate_left; (· rw [hb]; simp; omega)) | skip)
          exact KR.out
        · repeat (first | (with_reducible exact KB.out) | (with_reducible refine Below.setCell ?_ (by simp) _))
end Go.Proofs.YtdonopoijbokiaaDoor
