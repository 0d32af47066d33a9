/- rosterref04.sorted: what it answers. rosterref04.Parse: what it answers. -/
import Derived.Test.YtdonopoijbokiaaDoorB1
import Derived.Test.YtdonopoijbokiaaDoorB5
import Derived.Sort.Walk0
import Derived.Test.YtdonopoijbokiaaDoorB6
set_option linter.unusedVariables false
set_option linter.unusedSimpArgs false

/-! ### Sorted -/
namespace Go.Proofs.YtdonopoijbokiaaDoor
open Go.RowKit Go.Proofs.YtdonopoijbokiaaDoorW.PrintWords

def SortSays (n : Nat) : Prop := ∀ (w : World) (ok : Nat → Prop) (A : Option Addr) (c : Nat) (xs : List ByteArray), xs.length = n → xs.length ≤ c → Kd.F Kd.string w ok A xs.length xs →
  Calls Tryd.prog 71 #[.slice A xs.length c] w fun e w' => ∃ A' c', e = .returned (.slice A' (sortB xs).length c') ∧ (sortB xs).length ≤ c' ∧ Kd.F Kd.string w' (fun k => ok k ∨ w.heap.size ≤ k) A' (sortB xs).length (sortB xs) ∧ Below w.heap.size w w'

theorem less_yes {p q : ByteArray} (h : tl p < tl q) : Op.bytesLess p.toList q.toList = true := by
  rw [bytesLess_eq, Lib.toList_data, Lib.toList_data]
  exact decide_eq_true h
theorem less_no {p q : ByteArray} (h : ¬ tl p < tl q) : Op.bytesLess p.toList q.toList = false := by
  rw [bytesLess_eq, Lib.toList_data, Lib.toList_data]
  exact decide_eq_false h

set_option maxRecDepth 100000 in
set_option maxHeartbeats 1000000 in
theorem sorted_step (n : Nat) (hn : n ≤ 4294967296) (ih : ∀ m, m < n → SortSays m) : SortSays n := by
  intro w ok A c xs hx hc hC
  by_cases h2 : n < 2
  · rw [sortB_small (by omega)]
    have HC := Lib.hid hC
    clear hC
    go_enter Tryd.func71, Tryd.ntmps71
    go_wp2
    go_ret
    exact ⟨A, c, rfl, hc, Kd.F_mono HC.out (fun k hk => .inl hk), Below.refl _ _⟩
  · obtain ⟨m, hm⟩ : ∃ m, xs.length / 2 = m := ⟨_, rfl⟩
    have hm1 : 1 ≤ m ∧ m < n := by omega
    have ht : (xs.take m).length = m := by rw [List.length_take]; omega
    have hd : (xs.drop m).length = n - m := by rw [List.length_drop]; omega
    have hCt := Kd.F_take hC (m := m) (by omega)
    have hCd := Kd.F_cut hC (m := m) (by omega) hc
    rw [if_neg (by omega), show m * Kd.string.sz = m from Nat.mul_one m] at hCd
    have HT := Lib.hid hCt
    have HD := Lib.hid hCd
    have h1 := ih m (by omega)
    have h3 := ih (n - m) (by omega)
    obtain ⟨ps, has⟩ : ∃ ps, sortB (xs.take m) = ps := ⟨_, rfl⟩
    obtain ⟨qs, hbs⟩ : ∃ qs, sortB (xs.drop m) = qs := ⟨_, rfl⟩
    have hla : ps.length ≤ n := by have := sortB_length (xs.take m); rw [has] at this; omega
    have hlb : qs.length ≤ n := by have := sortB_length (xs.drop m); rw [hbs] at this; omega
    clear hC hCt hCd
    have HX1 := Lib.hid h1
    have HX3 := Lib.hid h3
    clear h1 h3
    obtain ⟨na, hna⟩ : ∃ na, ps.length = na := ⟨_, rfl⟩
    obtain ⟨nb', hnb⟩ : ∃ nb', qs.length = nb' := ⟨_, rfl⟩
    rw [hx] at hm hc ⊢
    clear hx
    have HM := Lib.hid hm
    clear hm
    go_enter Tryd.func71, Tryd.ntmps71
    go_wp2_with (first
      | (go_at_call 71; rw [HM.out]; have hc2 := HX3.out w1 ok (A.map (·.add m)) (c - m) (xs.drop m) hd (by rw [hd]; omega) (Kd.F_below HD.out HB1.out); rw [hd] at hc2; (refine hc2.mono ?_; rw [hbs, hnb]; rintro e w2 ⟨A2, c2, rfl, hl2, hC2, hb2⟩; have HC2 := Lib.hid (Kd.F_now hC2); have HB2 := Lib.hid hb2; have HC1' := Lib.hid (Kd.C_below (Kd.F_now HC1.out) hb2); clear hC2 hb2 hc2))
      | (go_at_call 71; rw [HM.out]; have hc1 := HX1.out w ok A c (xs.take m) ht (by rw [ht]; exact Nat.le_trans (Nat.le_of_lt hm1.2) hc) HT.out; rw [ht] at hc1; (refine hc1.mono ?_; rw [has, hna]; rintro e w1 ⟨A1, c1, rfl, hl1, hC1, hb1⟩; have HC1 := Lib.hid hC1; have HB1 := Lib.hid hb1; clear hC1 hb1 hc1)))
    have hlen : na + nb' ≤ 8589934592 := by omega
    have HNA := Lib.hid hna
    have HNB := Lib.hid hnb
    clear hna hnb hla hlb
    clear HX1 HX3 HT HD ih
    go_loopw [5, 6, 7] (fun v i j wr => ∃ (x y : Int) (done : List ByteArray), i = .int .i64 x ∧ j = .int .i64 y ∧ 0 ≤ x ∧ x ≤ na ∧ 0 ≤ y ∧ y ≤ nb' ∧ Hid (MgAt ps qs x y done) ∧ Kd.R Kd.string 9 wr w2.heap.size (fun _ => True) v done ∧ Below w2.heap.size w2 wr) (fun _ i j _ => (na - (intOf i).toNat) + (nb' - (intOf j).toNat))
    case atStart => exact ⟨0, 0, [], rfl, rfl, Int.le_refl _, by omega, Int.le_refl _, by omega, Lib.hid (mgAt_start ps qs), Kd.R_nil _ _ _ _ _, Below.refl _ _⟩
    case round =>
      obtain ⟨x, y, done, rfl, rfl, hx0, hx1, hy0, hy1, HP, hR, hB⟩ := hrel
      have HR := Lib.hid hR
      have HB := Lib.hid hB
      have hdl : done.length ≤ 8589934592 := by have := mgAt_len HP.out; rw [HNA.out, HNB.out] at this; omega
      have HC1w := Lib.hid (Kd.C_below HC1'.out hB)
      have HC2w := Lib.hid (Kd.C_below HC2.out hB)
      clear hR hB
      by_cases hxa : x < na
      · obtain ⟨ad1, e1, hp1⟩ := Kd.at_string HC1w.out x hx0 (by omega)
        obtain ⟨p, hp⟩ : ∃ p, p = rdOf ByteArray.empty ps x := ⟨_, rfl⟩
        rw [← hp] at hp1
        have HPp := Lib.hid hp
        have hxn : (x == (na : Int)) = false := beq_false_of_ne (by omega)
        clear hp
        cases e1
        by_cases hyb : y < nb'
        · obtain ⟨ad2, e2, hp2⟩ := Kd.at_string HC2w.out y hy0 (by omega)
          obtain ⟨q, hq⟩ : ∃ q, q = rdOf ByteArray.empty qs y := ⟨_, rfl⟩
          rw [← hq] at hp2
          have HPq := Lib.hid hq
          have hyn : (y == (nb' : Int)) = false := beq_false_of_ne (by omega)
          clear hq
          cases e2
          by_cases hl : tl p < tl q
          · have HL := Lib.hid hl
            have hless := less_yes hl
            clear hl
            go_wp2
            go_quiet (fail)
            go_wp2_with (at_builtin; refine Kd.R_append Kd.string (w0 := w2) w2.heap.size rfl (.tmp 58) (.tmp 63) 28 9 (.string ⟨#[]⟩) 16 rfl Tryd.underlying28 info9 rfl (by decide) (by decide) _ done p [.string p] (fun _ => True) (fun _ => False) rfl rfl rfl (fun _ hk => hk.elim) (fun _ _ => trivial) (by repeat (first | exact HR.out | refine Kd.R_drewN ?_ _)) (by repeat (first | exact HB.out | refine pw_below_drewN ?_ _)) (by exact HB.out.size) (by omega) ?_; intro v1 w3 hR1 hb1 _ _; have HR1 := Lib.hid hR1; have HB1 := Lib.hid hb1; clear hR1 hb1)
            go_roundw
            case rel => exact ⟨x + 1, y, _, by go_num, rfl, by omega, by omega, by omega, by omega, Lib.hid (by rw [HPp.out]; exact mgAt_lt HP.out hx0 (by rw [HNA.out]; exact hxa) hy0 (by rw [HNB.out]; exact hyb) (by have := HL.out; rw [HPp.out, HPq.out] at this; exact this)), HR1.out, HB1.out⟩
            case measure => simp [intOf]; omega
          · have HL := Lib.hid hl
            have hless := less_no hl
            clear hl
            by_cases hg : tl q < tl p
            · have HG := Lib.hid hg
              have hless2 := less_yes hg
              clear hg
              go_wp2
              go_quiet (fail)
              go_wp2
              go_quiet (fail)
              go_wp2_with (at_builtin; refine Kd.R_append Kd.string (w0 := w2) w2.heap.size rfl (.tmp 83) (.tmp 88) 28 9 (.string ⟨#[]⟩) 16 rfl Tryd.underlying28 info9 rfl (by decide) (by decide) _ done q [.string q] (fun _ => True) (fun _ => False) rfl rfl rfl (fun _ hk => hk.elim) (fun _ _ => trivial) (by repeat (first | exact HR.out | refine Kd.R_drewN ?_ _)) (by repeat (first | exact HB.out | refine pw_below_drewN ?_ _)) (by exact HB.out.size) (by omega) ?_; intro v1 w3 hR1 hb1 _ _; have HR1 := Lib.hid hR1; have HB1 := Lib.hid hb1; clear hR1 hb1)
              go_roundw
              case rel => exact ⟨x, y + 1, _, rfl, by go_num, by omega, by omega, by omega, by omega, Lib.hid (by rw [HPq.out]; exact mgAt_gt HP.out hx0 (by rw [HNA.out]; exact hxa) hy0 (by rw [HNB.out]; exact hyb) (by have := HG.out; rw [HPp.out, HPq.out] at this; exact this)), HR1.out, HB1.out⟩
              case measure => simp [intOf]; omega
            · have HG := Lib.hid hg
              have hless2 := less_no hg
              clear hg
              go_wp2
              go_quiet (fail)
              go_wp2
              go_quiet (fail)
              go_wp2
              go_roundw
              case rel => exact ⟨x + 1, y, _, by go_num, rfl, by omega, by omega, by omega, by omega, Lib.hid (mgAt_eq HP.out hx0 (by rw [HNA.out]; exact hxa) hy0 (by rw [HNB.out]; exact hyb) (by have := HL.out; rw [HPp.out, HPq.out] at this; exact this) (by have := HG.out; rw [HPp.out, HPq.out] at this; exact this)), (by repeat (first | exact HR.out | refine Kd.R_drewN ?_ _)), (by repeat (first | exact HB.out | refine pw_below_drewN ?_ _))⟩
              case measure => simp [intOf]; omega
        · have hyn : (y == (nb' : Int)) = true := beq_iff_eq.2 (by omega)
          go_wp2
          go_quiet (fail)
          go_wp2_with (at_builtin; refine Kd.R_append Kd.string (w0 := w2) w2.heap.size rfl (.tmp 58) (.tmp 63) 28 9 (.string ⟨#[]⟩) 16 rfl Tryd.underlying28 info9 rfl (by decide) (by decide) _ done p [.string p] (fun _ => True) (fun _ => False) rfl rfl rfl (fun _ hk => hk.elim) (fun _ _ => trivial) (by repeat (first | exact HR.out | refine Kd.R_drewN ?_ _)) (by repeat (first | exact HB.out | refine pw_below_drewN ?_ _)) (by exact HB.out.size) (by omega) ?_; intro v1 w3 hR1 hb1 _ _; have HR1 := Lib.hid hR1; have HB1 := Lib.hid hb1; clear hR1 hb1)
          go_roundw
          case rel => exact ⟨x + 1, y, _, by go_num, rfl, by omega, by omega, by omega, by omega, Lib.hid (by rw [HPp.out]; exact mgAt_a HP.out hx0 (by rw [HNA.out]; exact hxa) (by rw [HNB.out]; omega)), HR1.out, HB1.out⟩
          case measure => simp [intOf]; omega
      · have hxn : (x == (na : Int)) = true := beq_iff_eq.2 (by omega)
        have hxd : decide (x < (na : Int)) = false := decide_eq_false hxa
        by_cases hyb : y < nb'
        · obtain ⟨ad2, e2, hp2⟩ := Kd.at_string HC2w.out y hy0 (by omega)
          obtain ⟨q, hq⟩ : ∃ q, q = rdOf ByteArray.empty qs y := ⟨_, rfl⟩
          rw [← hq] at hp2
          have HPq := Lib.hid hq
          have hyn : (y == (nb' : Int)) = false := beq_false_of_ne (by omega)
          clear hq
          cases e2
          go_wp2
          go_quiet (fail)
          go_wp2
          go_quiet (fail)
          go_wp2_with (at_builtin; refine Kd.R_append Kd.string (w0 := w2) w2.heap.size rfl (.tmp 83) (.tmp 88) 28 9 (.string ⟨#[]⟩) 16 rfl Tryd.underlying28 info9 rfl (by decide) (by decide) _ done q [.string q] (fun _ => True) (fun _ => False) rfl rfl rfl (fun _ hk => hk.elim) (fun _ _ => trivial) (by repeat (first | exact HR.out | refine Kd.R_drewN ?_ _)) (by repeat (first | exact HB.out | refine pw_below_drewN ?_ _)) (by exact HB.out.size) (by omega) ?_; intro v1 w3 hR1 hb1 _ _; have HR1 := Lib.hid hR1; have HB1 := Lib.hid hb1; clear hR1 hb1)
          go_roundw
          case rel => exact ⟨x, y + 1, _, rfl, by go_num, by omega, by omega, by omega, by omega, Lib.hid (by rw [HPq.out]; exact mgAt_b HP.out (by rw [HNA.out]; omega) hy0 (by rw [HNB.out]; exact hyb)), HR1.out, HB1.out⟩
          case measure => simp [intOf]; omega
        · have HE := Lib.hid (mgAt_end (xs := xs.take m) (ys := xs.drop m) (by rw [has, hbs]; exact HP.out) (by rw [has, HNA.out]; omega) (by rw [hbs, HNB.out]; omega))
          obtain ⟨A3, c3, rfl, hl3, _⟩ := Kd.R_reads HR.out
          go_wp2
          go_ret
          rw [List.take_append_drop] at HE
          rw [← HE.out]
          exact ⟨A3, c3, rfl, hl3, Kd.V_F (Kd.V_mono (Kd.R_V (base' := 0) (Kd.R_bound HR.out)) (fun k hk => .inr (Nat.le_trans (HB1.out.trans (HB2.out.mono HB1.out.size)).size hk.2.1))), (HB1.out.trans (HB2.out.mono HB1.out.size)).trans (HB.out.mono (HB1.out.trans (HB2.out.mono HB1.out.size)).size)⟩
theorem sorted_says : ∀ n, n ≤ 4294967296 → SortSays n := fun n => by
  induction n using Nat.strongRecOn with
  | ind n ih => exact fun hn => sorted_step n hn fun m hm => ih m hm (by omega)
end Go.Proofs.YtdonopoijbokiaaDoor

/-! ### RefParse -/
namespace Go.Proofs.YtdonopoijbokiaaDoor
open Go.RowKit Go.Proofs.YtdonopoijbokiaaDoorW.PrintWords

theorem optsB_sort (xs : List ByteArray) : optsB xs = sortB (xs.tail.map foldB) := by
  rw [optsB, sortB, optTexts, List.map_map]
  rfl
theorem fold_next {xs : List ByteArray} {k : Int} (h0 : 1 ≤ k) (hk : k < xs.length) : (xs.tail.map foldB).take k.toNat = (xs.tail.map foldB).take (k - 1).toNat ++ [foldB (rdOf ByteArray.empty xs k)] := by
  have ht : (k - 1).toNat < (xs.tail.map foldB).length := by rw [List.length_map, List.length_tail]; omega
  rw [show k.toNat = (k - 1).toNat + 1 by omega, take_snoc' _ (foldB ByteArray.empty) _ ht]
  congr 2
  rw [rdOf, show k.toNat = (k - 1).toNat + 1 by omega]
  cases xs with
  | nil => simp at hk; omega
  | cons a l =>
    rw [List.tail_cons, List.getD_eq_getElem?_getD, List.getElem?_map, List.getD_eq_getElem?_getD, List.getElem?_cons_succ]
    cases l[(k - 1).toNat]? <;> rfl

theorem addr_zero (a : Addr) : a.add (0 : Int).toNat = a := by unfold Addr.add; cases a; split <;> simp_all

set_option maxRecDepth 100000 in
set_option maxHeartbeats 1000000 in
theorem refParse_no (s : ByteArray) (w : World) (hs : s.size ≤ 4294966000) (hok : acc false begins (nb s) = false) :
    Calls Tryd.prog 51 #[.string s] w fun e w' => e = .returned (.tuple #[.agg #[.string ⟨#[]⟩, .slice none 0 0], .int .i64 40, .int .i64 (scanL false (nb s)).2]) ∧ Below w.heap.size w w' := by
  rw [acc_desc] at hok
  have HK := Lib.hid hok
  clear hok
  go_enter Tryd.func51, Tryd.ntmps51
  go_wp2_with (first
    | (refine wpList_store_row rfl 40 (.tmp 2) (.tmp 15) rfl w.heap.size #[.string ⟨#[]⟩, .slice none 0 0] rfl rfl 40 _ HRES.out sizeDesc rfl (by simp [Value.oneCell']) ?_)
    | (go_at_call 68; refine (place_any s false _ hs).mono ?_; rintro e w2 ⟨rfl, hb2⟩; have hB := hb1.trans (hb2.mono hb1.size); have HRES := Lib.hid (newKept hB))
    | (go_at_call 67; refine (isDesc_any s _ (by omega)).mono ?_; rw [HK.out]; rintro e w1 ⟨rfl, hb1⟩))
  (try simp only [Exit.inBlock, Exit.then])
  refine bodyPost_ret (results_row_tmp2 rfl _ _ w.heap.size 40 #[.string ⟨#[]⟩, .slice none 0 0] (0, 0) _ rfl (setRow_heap _ _ _ _ _ _ HRES.out) Tryd.underlying40 rfl (by kernel_rfl)) rfl ⟨rfl, setRow_below (alloc_then hB) (Nat.le_refl _) _⟩
set_option maxRecDepth 100000 in
set_option maxHeartbeats 1000000 in
theorem refParse_ok (s : ByteArray) (w : World) (hs : s.size ≤ 4294966000) (hok : acc false begins (nb s) = true) :
    Calls Tryd.prog 51 #[.string s] w fun e w' => ∃ A c, e = .returned (.tuple #[.agg #[.string (typeB s), .slice A (optB s).length c], .int .i64 0, .int .i64 s.size]) ∧ Kd.C Kd.string w' A (optB s).length (optB s) ∧ Below w.heap.size w w' := by
  rw [acc_desc] at hok
  have HK := Lib.hid hok
  clear hok
  obtain ⟨xs, hxs⟩ : ∃ xs, partsB s 59 = xs := ⟨_, rfl⟩
  obtain ⟨p0, hp0⟩ : ∃ p0, p0 = rdOf ByteArray.empty xs 0 := ⟨_, rfl⟩
  obtain ⟨cn, hcn⟩ : ∃ cn, canonB p0 = cn := ⟨_, rfl⟩
  obtain ⟨n, hn⟩ : ∃ n, xs.length = n := ⟨_, rfl⟩
  have hn0 : 0 < n := by rw [← hn]; exact parts_ne hxs
  have hnl : n ≤ 4294967001 := by have := parts_length hxs; omega
  have hsz := parts_sizes hxs
  have HT : Hid (typeB s = cn) := Lib.hid (by rw [typeB, hxs, ← hp0, hcn])
  have HO : Hid (optB s = sortB (xs.tail.map foldB)) := Lib.hid (by rw [optB, hxs, optsB_sort])
  have hlt0 : (xs.tail.map foldB).length ≤ 4294967001 := by rw [List.length_map, List.length_tail]; omega
  rw [HT.out, HO.out]
  obtain ⟨fs, hfs⟩ : ∃ fs, xs.tail.map foldB = fs := ⟨_, rfl⟩
  obtain ⟨ss, hss⟩ : ∃ ss, sortB fs = ss := ⟨_, rfl⟩
  rw [hfs] at hlt0 ⊢
  rw [hss]
  have HSS := Lib.hid hss
  clear hss
  have hp0s : p0.size ≤ 140737488351232 := by
    have := hsz p0 (by rw [hp0]; exact rd_mem (by omega) (by omega))
    omega
  have HP0 := Lib.hid hp0
  clear hp0
  go_enter Tryd.func51, Tryd.ntmps51
  go_wp2_with (first
    | (go_at_call 70; refine (canon_any p0 _ hp0s).mono ?_; rw [hcn]; rintro e w3 ⟨rfl, hb3⟩; have hbd := newKept hb3; obtain ⟨⟨q0, q1⟩, qf⟩ := cells2 hbd; have HBD := Lib.hid hbd; clear hbd)
    | (go_at_call 69; refine (parts_any s 59 _ (by omega) (by omega) (by omega)).mono ?_; rw [hxs]; rintro e w2 ⟨v6, rfl, hR2, hb2⟩; obtain ⟨A6, c6, rfl, hl6, hC6⟩ := Kd.R_reads hR2; rw [hn] at hC6 hl6 ⊢; have HC6 := Lib.hid hC6; clear hR2 hC6; obtain ⟨ad6, e6, hat6⟩ := Kd.at_string (Kd.C_below HC6.out ((Below.refl _ w2).alloc (Nat.le_refl _) (.cells #[.string ⟨#[]⟩, .slice none 0 0] 40))) 0 (by omega) (by omega); cases e6; rw [← HP0.out, addr_zero] at hat6)
    | (go_at_call 67; refine (isDesc_any s _ (by omega)).mono ?_; rw [HK.out]; rintro e w1 ⟨rfl, hb1⟩))
  have hA2 := hb1.trans (hb2.mono hb1.size)
  have hA3 := hA2.alloc hA2.size (.cells #[.string ⟨#[]⟩, .slice none 0 0] 40)
  have hA4 := hA3.trans (hb3.mono hA3.size)
  have hA5 := hA4.setCell (p := ⟨w2.heap.size, 0, none⟩) hA2.size (.string cn)
  have hC5 := (((Below.refl _ w2).alloc (Nat.le_refl _) (.cells #[.string ⟨#[]⟩, .slice none 0 0] 40)).trans (hb3.mono (by simp))).setCell (p := ⟨w2.heap.size, 0, none⟩) (Nat.le_refl _) (.string cn)
  have hD3 : (w3.setCell ⟨w2.heap.size, 0, none⟩ (.string cn)).heap[w2.heap.size]? = some (.cells #[.string cn, .slice none 0 0] 40 (0, 0)) := heap_setCell_same _ _ 0 _ _ _ HBD.out
  have hs3 : (w3.setCell ⟨w2.heap.size, 0, none⟩ (.string cn)).heap.size = w3.heap.size := by simp
  have hlt23 : w2.heap.size < w3.heap.size := by have := hb3.size; simp at this; omega
  rw [← hs3] at hlt23
  have hw2 : w.heap.size < w2.heap.size := by have := hA2.size; simp at this; omega
  clear hb1 hb2 hb3 hA2 hA3 hA4 q0 q1 qf hat6 hs3 HBD hcn
  generalize w3.setCell ⟨w2.heap.size, 0, none⟩ (.string cn) = W3 at *
  have HA := Lib.hid hA5
  have HC5 := Lib.hid hC5
  have HD3 : Hid (W3.heap[w2.heap.size]? = some (.cells #[.string cn, .slice none 0 0] 40 (0, 0))) := Lib.hid hD3
  have hfl : fs.length + 1 = n := by rw [← hfs, List.length_map, List.length_tail]; omega
  have HN := Lib.hid hn
  have HS := Lib.hid hsz
  clear hA5 hC5 hD3 hsz hn hxs
  go_loopw [8, 9] (fun v i wr => ∃ x : Int, i = .int .i64 x ∧ 1 ≤ x ∧ x ≤ n ∧ Kd.R Kd.string 9 wr W3.heap.size (fun _ => True) v (fs.take (x - 1).toNat) ∧ Below W3.heap.size W3 wr) (fun _ i _ => n - (intOf i).toNat)
  case atStart => exact ⟨1, rfl, Int.le_refl _, by omega, Kd.R_nil _ _ _ _ _, Below.refl _ _⟩
  case round =>
    obtain ⟨x, rfl, hx0, hx1, hR, hB⟩ := hrel
    have HR := Lib.hid hR
    have HB := Lib.hid hB
    clear hR hB
    by_cases hlt : x < n
    · obtain ⟨ad, e1, hp1⟩ := Kd.at_string (Kd.C_below HC6.out (HC5.out.trans (HB.out.mono HC5.out.size))) x (by omega) hlt
      cases e1
      obtain ⟨p, hp⟩ : ∃ p, rdOf ByteArray.empty xs x = p := ⟨_, rfl⟩
      have HNX : Hid (fs.take x.toNat = fs.take (x - 1).toNat ++ [foldB p]) := Lib.hid (by rw [← hfs, fold_next hx0 (by rw [HN.out]; exact hlt), hp])
      have hps : p.size ≤ 140737488351232 := by
        have := HS.out p (by rw [← hp]; exact rd_mem (by omega) (by rw [HN.out]; exact hlt))
        omega
      rw [hp] at hp1
      clear hp
      have htl : (fs.take (x - 1).toNat).length ≤ 4294967001 := by rw [List.length_take]; omega
      go_wp2_with (first
        | (at_builtin; refine Kd.R_append Kd.string (w0 := W3) W3.heap.size rfl (.tmp 36) (.tmp 38) 28 9 (.string ⟨#[]⟩) 16 rfl Tryd.underlying28 info9 rfl (by decide) (by decide) _ (fs.take (x - 1).toNat) (foldB p) [.string (foldB p)] (fun _ => True) (fun _ => False) rfl rfl rfl (fun _ hk => hk.elim) (fun _ _ => trivial) HR4.out HB4.out HB4.out.size (by omega) ?_; intro v5 w5 hR5 hb5 _ _; have HR5 := Lib.hid hR5; have HB5 := Lib.hid hb5; clear hR5 hb5)
        | (go_at_call 52; refine (fold01_any p _ hps).mono ?_; rintro e w4 ⟨rfl, hb4⟩; have HR4 := Lib.hid (Kd.R_below HR.out hb4); have HB4 := Lib.hid (HB.out.trans (hb4.mono HB.out.size)); clear hb4))
      go_roundw
      case rel => exact ⟨x + 1, by go_num, by omega, by omega, by rw [show x + 1 - 1 = x by omega, HNX.out]; exact HR5.out, HB5.out⟩
      case measure => simp [intOf]; omega
    · have hRf : Kd.R Kd.string 9 wr W3.heap.size (fun _ => True) u8 fs := by have := HR.out; rw [List.take_of_length_le (by omega)] at this; exact this
      obtain ⟨A8, c8, rfl, hl8, _⟩ := Kd.R_reads hRf
      have hF := Kd.V_F (Kd.V_mono (Kd.R_V (base' := 0) (Kd.R_bound hRf)) (fun k hk => hk.2.1))
      have hso := sorted_says fs.length (by omega) wr _ A8 c8 fs rfl hl8 hF
      rw [HSS.out] at hso
      have HSO := Lib.hid hso
      clear hRf hF hso
      go_wp2_with (first
        | (refine wpList_store_row rfl 40 (.tmp 2) (.tmp 43) rfl w.heap.size #[.string cn, .slice A9 ss.length c9] rfl rfl 40 _ HRES.out sizeDesc rfl (by simp [Value.oneCell']) ?_)
        | (go_at_call 71; (refine HSO.out.mono ?_; rintro e w9 ⟨A9, c9, rfl, hl9, hF9, hb9⟩; have hB9 := HB.out.trans (hb9.mono HB.out.size); have hD9 := (hB9.block w2.heap.size hlt23).trans HD3.out; obtain ⟨⟨q0, q1⟩, qf⟩ := cells2 hD9; have hres : (w9.setCell ⟨w2.heap.size, 1, none⟩ (.slice A9 ss.length c9)).heap[w.heap.size]? = some (.cells #[.string ⟨#[]⟩, .slice none 0 0] 40 (0, 0)) := ((((HA.out.trans (hB9.mono HA.out.size)).setCell (p := ⟨w2.heap.size, 1, none⟩) (by simp; omega) (.slice A9 ss.length c9)).block w.heap.size (by simp))).trans (heap_alloc_new w _); have HRES := Lib.hid hres; have HB9 := Lib.hid hB9; have HF9 := Lib.hid hF9; have HD9 := Lib.hid hD9; clear hres hB9 hF9 hb9 hD9)))
      (try simp only [Exit.inBlock, Exit.then])
      refine bodyPost_ret (results_row_tmp2 rfl _ _ w.heap.size 40 #[.string cn, .slice A9 ss.length c9] (0, 0) _ rfl (setRow_heap _ _ _ _ _ _ HRES.out) Tryd.underlying40 rfl (by kernel_rfl)) rfl ⟨A9, c9, rfl, ?_, ?_⟩
      · have hlt9 : W3.heap.size ≤ w9.heap.size := HB9.out.size
        have hltr : W3.heap.size ≤ wr.heap.size := HB.out.size
        exact Kd.F_now (Kd.F_step (Kd.F_far HF9.out (p := ⟨w2.heap.size, 1, none⟩) (fun k hk => by rcases hk with hk | hk <;> (simp only; omega)) (.slice A9 ss.length c9)) (fun k hk _ => setRow_other _ _ k _ (by rcases hk with hk | hk <;> omega)))
      · exact setRow_below (alloc_then ((HA.out.trans (HB9.out.mono HA.out.size)).setCell (p := ⟨w2.heap.size, 1, none⟩) (by simp; omega) _)) (Nat.le_refl _) _
end Go.Proofs.YtdonopoijbokiaaDoor
