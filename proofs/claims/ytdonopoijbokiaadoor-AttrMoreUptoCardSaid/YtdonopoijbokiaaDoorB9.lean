/- attr.Supers and rosterref04.Supers: what they answer. rosterref04.Supers: what it answers. Folding twice is folding once; canonical names are folded. attr.Syntax and rosterref04.Syntax: what they answer. attr.ParseType and rosterref04.ParseType: what they answer. -/
import Derived.Test.YtdonopoijbokiaaDoorB5
import Derived.Test.YtdonopoijbokiaaDoorB6
import Derived.Test.YtdonopoijbokiaaDoorB8
import Derived.Test.YtdonopoijbokiaaDoorScan
set_option linter.unusedVariables false
set_option linter.unusedSimpArgs false

/-! ### Supers -/
namespace Go.Proofs.YtdonopoijbokiaaDoor
open Go.RowKit Go.Proofs.YtdonopoijbokiaaDoorW.PrintWords

/-- From row i on: the names, each the super type of the one ahead of it. -/
noncomputable def supersF : Nat → Int → List ByteArray
  | 0, _ => []
  | n + 1, i => if i < 0 then [] else nameAt i.toNat 0 :: supersF n (kindAt i.toNat 0)
noncomputable def supersB (s : ByteArray) : List ByteArray := if rowR s < 0 then [foldB s] else supersF 63 (rowR s)
theorem supersF_neg (n : Nat) {i : Int} (h : i < 0) : supersF n i = [] := by
  cases n with
  | zero => rfl
  | succ n => rw [supersF, if_pos h]
theorem supersF_next (n : Nat) {i : Int} (h : 0 ≤ i) : supersF (n + 1) i = nameAt i.toNat 0 :: supersF n (kindAt i.toNat 0) := by rw [supersF, if_neg (by omega)]
theorem supersF_length : ∀ (n : Nat) (i : Int), (supersF n i).length ≤ n
  | 0, _ => Nat.le_refl _
  | n + 1, i => by
    unfold supersF
    split
    · simp
    · have := supersF_length n (kindAt i.toNat 0)
      simp only [List.length_cons]
      omega
theorem supers_look : (List.range 62).all (fun i => decide (look (superAt i) (earlyT ++ lateT) = if kindAt i 0 < 0 then none else some (kindAt i 0))) = true := by kernel_rfl
theorem super_look (i : Nat) (h : i < 62) : look (superAt i) (earlyT ++ lateT) = if kindAt i 0 < 0 then none else some (kindAt i 0) := by
  have := List.all_eq_true.1 supers_look i (List.mem_range.2 h)
  exact of_decide_eq_true this
def supM (i ok : Value) : Nat := match ok with
  | .bool true => (intOf i).toNat + 1
  | _ => 0
theorem sup_len {full done : List ByteArray} {k : Nat} {j : Int} (h : full = done ++ supersF k j) (hf : full.length ≤ 63) : done.length ≤ 63 := by
  have := congrArg List.length h
  rw [List.length_append] at this
  omega

theorem R_one (W : World) (base : Nat) (x : ByteArray) (hb : base ≤ W.heap.size) : Kd.R Kd.string 9 (W.alloc (.cells #[.string x] 9)) base (fun _ => True) (.slice (some ⟨W.heap.size, 0, none⟩) 1 1) [x] :=
  Kd.R_of_own (World.ownsRow_lit (base := base) (e := 9) (size := 1) W #[.string x] 1 hb (by decide) rfl) (fun _ _ => trivial)

set_option maxRecDepth 100000 in
set_option maxHeartbeats 1000000 in
theorem supers_any (s : ByteArray) (w : World) (hs : s.size ≤ 140737488351232) :
    Calls Tryd.prog 27 #[.string s] w fun e w' => ∃ v, e = .returned v ∧ Kd.R Kd.string 9 w' w.heap.size (fun _ => True) v (supersB s) ∧ Below w.heap.size w w' := by
  rcases rowR_range s with hr | ⟨h0, h62⟩
  · have hl : look (foldB s) (earlyT ++ lateT) = none := by rw [byName_is, if_pos hr]
    have e1 : noOf (look (foldB s) (earlyT ++ lateT)) = 0 := by rw [hl]; rfl
    have e2 : isOf (look (foldB s) (earlyT ++ lateT)) = false := by rw [hl]; rfl
    have hsup : supersB s = [foldB s] := by rw [supersB, if_pos hr]
    rw [hsup]
    go_enter Tryd.func27, Tryd.ntmps27
    go_wp2_with (first | (go_at_call 45; refine (byName_any _ _).mono ?_; rw [e1, e2]; rintro e w2 ⟨rfl, rfl⟩) | (go_at_call 33; (first | (refine (fold_any s w hs).mono ?_; rintro e w1 ⟨rfl, hb1⟩) | (refine (fold_any _ _ hs).mono ?_; rintro e w3 ⟨rfl, hb3⟩))))
    all_goals go_ret
    exact ⟨_, rfl, R_one _ _ _ (Nat.le_trans hb1.size hb3.size), (hb1.trans (hb3.mono hb1.size)).alloc (Nat.le_trans hb1.size hb3.size) _⟩
  · obtain ⟨k, hk⟩ : ∃ k : Nat, rowR s = k := ⟨_, (Int.toNat_of_nonneg h0).symm⟩
    rw [hk] at h62
    have e1 : noOf (look (foldB s) (earlyT ++ lateT)) = k := by rw [byName_is, if_neg (by omega), hk]; rfl
    have e2 : isOf (look (foldB s) (earlyT ++ lateT)) = true := by rw [byName_is, if_neg (by omega)]; rfl
    obtain ⟨full, hfull⟩ : ∃ full, supersB s = full := ⟨_, rfl⟩
    have HS : Hid (full = supersF 63 k) := Lib.hid (by rw [← hfull, supersB, if_neg (by omega), hk])
    have HFL : Hid (full.length ≤ 63) := Lib.hid (by rw [HS.out]; exact supersF_length _ _)
    rw [hfull]
    clear hk h0 hfull
    have h62' : k < 62 := by omega
    have hfd := fun a b c d e f w => field_name a b c d e f w
    have hfs := fun a b c d e f w => field_super a b c d e f w
    go_enter Tryd.func27, Tryd.ntmps27
    go_wp2_with (first | (go_at_call 45; refine (byName_any _ _).mono ?_; rw [e1, e2]; rintro e w2 ⟨rfl, rfl⟩) | (go_at_call 33; refine (fold_any s w hs).mono ?_; rintro e w1 ⟨rfl, hb1⟩))
    clear e1 e2
    go_loopw [3, 4, 5] (fun i ok v wr => ∃ (j : Int) (m : Nat) (done : List ByteArray), ((∃ j' : Nat, j = j' ∧ j' < 62 ∧ i = .int .i64 j' ∧ ok = .bool true) ∨ (j < 0 ∧ i = .int .i64 0 ∧ ok = .bool false)) ∧ j < m ∧ Hid (full = done ++ supersF m j) ∧ Kd.R Kd.string 9 wr w.heap.size (fun _ => True) v done ∧ Below w.heap.size w wr) (fun i ok _ _ => supM i ok)
    case atStart => exact ⟨k, 63, [], .inl ⟨k, rfl, h62', rfl, rfl⟩, by omega, HS, Kd.R_nil _ _ _ _ _, hb1⟩
    case round =>
      obtain ⟨j, m, done, hj, hjm, HD, hR, hB⟩ := hrel
      have HR := Lib.hid hR
      have HB := Lib.hid hB
      clear hR hB
      rcases hj with ⟨j', rfl, hj62, rfl, rfl⟩ | ⟨hjn, rfl, rfl⟩
      · obtain ⟨m', rfl⟩ : ∃ m', m = m' + 1 := ⟨m - 1, by omega⟩
        have HN : Hid (full = (done ++ [nameAt j' 0]) ++ supersF m' (kindAt j' 0)) := Lib.hid (by rw [HD.out, supersF_next _ (by omega)]; simp)
        have hlk := super_look j' hj62
        have hrg := super_range j' hj62
        have hdl := sup_len HD.out HFL.out
        by_cases hn : kindAt j' 0 < 0
        · rw [if_pos hn] at hlk
          have e1 : noOf (look (superAt j') (earlyT ++ lateT)) = 0 := by rw [hlk]; rfl
          have e2 : isOf (look (superAt j') (earlyT ++ lateT)) = false := by rw [hlk]; rfl
          clear hlk
          go_wp2_with (first
            | (go_at_call 45; refine (byName_any _ _).mono ?_; rw [e1, e2]; rintro e w7 ⟨rfl, rfl⟩)
            | (go_at_call 44; refine (rows_row j' w5 hj62).mono ?_; rintro e w6 ⟨v6, rfl, hR6, hb6⟩; obtain ⟨A6, c6, rfl, _⟩ := Kd.R_reads hR6; have HB6 := Lib.hid hb6; have HR6 := Lib.hid (Kd.R_below HR5.out hb6); clear hR6 hb6; rw [rowCells])
            | (go_at_call 44; refine (rows_row j' wr hj62).mono ?_; rintro e w4 ⟨v4, rfl, hR4, hb4⟩; obtain ⟨A4, c4, rfl, _⟩ := Kd.R_reads hR4; have HB4 := Lib.hid (HB.out.trans (hb4.mono HB.out.size)); have HR4 := Lib.hid (Kd.R_below HR.out hb4); clear hR4 hb4; rw [rowCells])
            | (at_builtin; refine Kd.R_append Kd.string (w0 := w) w.heap.size rfl (.tmp 18) (.tmp 22) 28 9 (.string ⟨#[]⟩) 16 rfl Tryd.underlying28 info9 rfl (by decide) (by decide) _ done (nameAt j' 0) [.string (nameAt j' 0)] (fun _ => True) (fun _ => False) rfl rfl rfl (fun _ hk => hk.elim) (fun _ _ => trivial) HR4.out HB4.out HB4.out.size (by omega) ?_; intro v5 w5 hR5 hb5 _ _; have HR5 := Lib.hid hR5; have HB5 := Lib.hid hb5; clear hR5 hb5))
          go_roundw
          case rel => exact ⟨kindAt j' 0, m', _, .inr ⟨hn, rfl, rfl⟩, by omega, HN, HR6.out, HB5.out.trans (HB6.out.mono HB5.out.size)⟩
          case measure => simp [supM, intOf]
        · rw [if_neg hn] at hlk
          obtain ⟨k1, hk1⟩ : ∃ k1 : Nat, kindAt j' 0 = k1 := ⟨(kindAt j' 0).toNat, by omega⟩
          have e1 : noOf (look (superAt j') (earlyT ++ lateT)) = k1 := by rw [hlk, hk1]; rfl
          have e2 : isOf (look (superAt j') (earlyT ++ lateT)) = true := by rw [hlk]; rfl
          clear hlk
          have HK1 := Lib.hid hk1
          rw [hk1] at hrg
          clear hk1 hn
          go_wp2_with (first
            | (go_at_call 45; refine (byName_any _ _).mono ?_; rw [e1, e2]; rintro e w7 ⟨rfl, rfl⟩)
            | (go_at_call 44; refine (rows_row j' w5 hj62).mono ?_; rintro e w6 ⟨v6, rfl, hR6, hb6⟩; obtain ⟨A6, c6, rfl, _⟩ := Kd.R_reads hR6; have HB6 := Lib.hid hb6; have HR6 := Lib.hid (Kd.R_below HR5.out hb6); clear hR6 hb6; rw [rowCells])
            | (go_at_call 44; refine (rows_row j' wr hj62).mono ?_; rintro e w4 ⟨v4, rfl, hR4, hb4⟩; obtain ⟨A4, c4, rfl, _⟩ := Kd.R_reads hR4; have HB4 := Lib.hid (HB.out.trans (hb4.mono HB.out.size)); have HR4 := Lib.hid (Kd.R_below HR.out hb4); clear hR4 hb4; rw [rowCells])
            | (at_builtin; refine Kd.R_append Kd.string (w0 := w) w.heap.size rfl (.tmp 18) (.tmp 22) 28 9 (.string ⟨#[]⟩) 16 rfl Tryd.underlying28 info9 rfl (by decide) (by decide) _ done (nameAt j' 0) [.string (nameAt j' 0)] (fun _ => True) (fun _ => False) rfl rfl rfl (fun _ hk => hk.elim) (fun _ _ => trivial) HR4.out HB4.out HB4.out.size (by omega) ?_; intro v5 w5 hR5 hb5 _ _; have HR5 := Lib.hid hR5; have HB5 := Lib.hid hb5; clear hR5 hb5))
          go_roundw
          case rel => exact ⟨k1, m', _, .inl ⟨k1, rfl, by omega, rfl, rfl⟩, by omega, Lib.hid (by rw [← HK1.out]; exact HN.out), HR6.out, HB5.out.trans (HB6.out.mono HB5.out.size)⟩
          case measure => simp [supM, intOf]; omega
      · have HE : Hid (full = done) := Lib.hid (by rw [HD.out, supersF_neg _ hjn, List.append_nil])
        go_wp2
        go_ret
        exact ⟨_, rfl, by rw [HE.out]; exact HR.out, HB.out⟩
end Go.Proofs.YtdonopoijbokiaaDoor

/-! ### SupersR -/
namespace Go.Proofs.YtdonopoijbokiaaDoor
open Go.RowKit Go.Proofs.YtdonopoijbokiaaDoorW.PrintWords

set_option maxRecDepth 100000 in
set_option maxHeartbeats 1000000 in
theorem refSupers_any (s : ByteArray) (w : World) (hs : s.size ≤ 140737488351232) (hG : KindsAt w) :
    Calls Tryd.prog 28 #[.string s] w fun e w' => ∃ v, e = .returned v ∧ Kd.R Kd.string 9 w' w.heap.size (fun _ => True) v (supersB s) ∧ Below w.heap.size w w' := by
  have HG := Lib.hid hG
  clear hG
  obtain ⟨nv, hnv⟩ : ∃ nv, nv = namesL.toArray := ⟨_, rfl⟩
  rcases rowR_range s with hr | ⟨h0, h62⟩
  · have hsup : supersB s = [foldB s] := by rw [supersB, if_pos hr]
    rw [hsup]
    go_enter Tryd.func28, Tryd.ntmps28
    go_wp2_with (first | (go_at_call 46; refine (row_any _ _ hs).mono ?_; rintro e w1 ⟨rfl, hb1⟩; have HB1 := Lib.hid hb1; clear hb1) | (go_at_call 52; refine (fold01_any _ _ hs).mono ?_; rintro e w2 ⟨rfl, hb2⟩))
    all_goals go_ret
    exact ⟨_, rfl, R_one _ _ _ (Nat.le_trans HB1.out.size hb2.size), (HB1.out.trans (hb2.mono HB1.out.size)).alloc (Nat.le_trans HB1.out.size hb2.size) _⟩
  · obtain ⟨k, hk⟩ : ∃ k : Nat, rowR s = k := ⟨_, (Int.toNat_of_nonneg h0).symm⟩
    rw [hk] at h62
    have hrow := row_any s w hs
    rw [hk] at hrow
    obtain ⟨full, hfull⟩ : ∃ full, supersB s = full := ⟨_, rfl⟩
    have HS : Hid (full = supersF 63 k) := Lib.hid (by rw [← hfull, supersB, if_neg (by omega), hk])
    have HFL : Hid (full.length ≤ 63) := Lib.hid (by rw [HS.out]; exact supersF_length _ _)
    rw [hfull]
    clear hk h0 hfull
    have h62' : k < 62 := by omega
    go_enter Tryd.func28, Tryd.ntmps28
    go_wp2_with (first | (go_at_call 46; refine hrow.mono ?_; rintro e w1 ⟨rfl, hb1⟩) | (go_at_call 53; refine (names_any _).mono ?_; rw [← hnv]; rintro e w2 ⟨rfl, hb2⟩; rw [hnv]) | (refine wpList_store_names rfl _ _ rfl rfl rfl ?_; intro W3 hN hb3; have HB3 := Lib.hid ((hb1.trans (hb2.mono hb1.size)).trans (hb3.mono (Nat.le_trans hb1.size hb2.size))); have hg3 : w2.heap.size < W3.heap.size := hN.lt; have HN := Lib.hid hN; generalize w2.heap.size = g at HN hg3 ⊢; clear hb1 hb2 hb3 hN hnv))
    go_frame
    go_loopw [3, 4] (fun i v wr => ∃ (j : Int) (m : Nat) (done : List ByteArray), ((∃ j' : Nat, j = j' ∧ j' < 62) ∨ j < 0) ∧ -1 ≤ j ∧ i = .int .i64 j ∧ j < m ∧ Hid (full = done ++ supersF m j) ∧ Kd.R Kd.string 9 wr W3.heap.size (fun _ => True) v done ∧ Below W3.heap.size W3 wr) (fun i _ _ => (intOf i + 1).toNat)
    case atStart => exact ⟨k, 63, [], .inl ⟨k, rfl, h62'⟩, by omega, rfl, by omega, HS, Kd.R_nil _ _ _ _ _, Below.refl _ _⟩
    case round =>
      obtain ⟨j, m, done, hj, hj1, rfl, hjm, HD, hR, hB⟩ := hrel
      have HR := Lib.hid hR
      have HB := Lib.hid hB
      clear hR hB
      rcases hj with ⟨j', rfl, hj62⟩ | hjn
      · obtain ⟨m', rfl⟩ : ∃ m', m = m' + 1 := ⟨m - 1, by omega⟩
        have HNx : Hid (full = (done ++ [nameAt j' 0]) ++ supersF m' (kindAt j' 0)) := Lib.hid (by rw [HD.out, supersF_next _ (by omega)]; simp)
        have hrg := super_range j' hj62
        have hdl := sup_len HD.out HFL.out
        have hNr := HN.out.below HB.out
        have c0 : wr.cell? ⟨g, j' * 3, none⟩ = some (.string (nameAt j' 0)) := hNr.cell j' 0 (by omega)
        have HGr := Lib.hid (HG.out.below (HB3.out.trans (HB.out.mono HB3.out.size)))
        clear hNr
        go_wp2_with (at_builtin; refine Kd.R_append Kd.string (w0 := W3) W3.heap.size rfl (.tmp 16) (.tmp 21) 28 9 (.string ⟨#[]⟩) 16 rfl Tryd.underlying28 info9 rfl (by decide) (by decide) _ done (nameAt j' 0) [.string (nameAt j' 0)] (fun _ => True) (fun _ => False) rfl rfl rfl (fun _ hk => hk.elim) (fun _ _ => trivial) HR.out HB.out HB.out.size (by omega) ?_; intro v5 w5 hR5 hb5 _ _; have HR5 := Lib.hid hR5; have HB5 := Lib.hid hb5; have c1 : w5.cell? ⟨1, j' * 3, none⟩ = some (.int .i64 (kindAt j' 0)) := (HG.out.below (HB3.out.trans (hb5.mono HB3.out.size))).cell j' 0 (by omega); clear hR5 hb5)
        go_roundw
        case rel => exact ⟨kindAt j' 0, m', _, (if h : kindAt j' 0 < 0 then .inr h else .inl ⟨(kindAt j' 0).toNat, by omega, by omega⟩), by omega, rfl, by omega, HNx, HR5.out, HB5.out⟩
        case measure => simp [intOf]; omega
      · have HE : Hid (full = done) := Lib.hid (by rw [HD.out, supersF_neg _ hjn, List.append_nil])
        go_wp2
        go_ret
        exact ⟨_, rfl, by rw [HE.out]; exact Kd.R_lower HR.out HB3.out.size, HB3.out.trans (HB.out.mono HB3.out.size)⟩
end Go.Proofs.YtdonopoijbokiaaDoor

/-! ### Folded -/
namespace Go.Proofs.YtdonopoijbokiaaDoor
open Go.RowKit Go.Proofs.YtdonopoijbokiaaDoorW.PrintWords

theorem nb_strOf : ∀ {l : List Int}, (∀ c ∈ l, 0 ≤ c ∧ c ≤ 255) → nb (strOfNums l) = l := fun {l} h => by
  rw [nb, strOfNums_data, List.map_map]
  refine (List.map_congr_left fun c hc => ?_).trans (List.map_id l)
  obtain ⟨h0, h1⟩ := h c hc
  show ((UInt8.ofNat c.toNat).toNat : Int) = c
  rw [UInt8.toNat_ofNat_of_lt' (by have : UInt8.size = 256 := rfl; omega)]
  omega
theorem nb_mem {s : ByteArray} : ∀ c ∈ nb s, 0 ≤ c ∧ c ≤ 255 := fun c hc => by
  obtain ⟨b, _, rfl⟩ := List.mem_map.1 hc
  have := b.toNat_lt
  omega
theorem lowI_range {c : Int} (h : 0 ≤ c ∧ c ≤ 255) : 0 ≤ lowI c ∧ lowI c ≤ 255 := by
  unfold lowI
  split <;> omega
theorem lowI_twice (c : Int) : lowI (lowI c) = lowI c := by
  unfold lowI
  split
  · rw [if_neg (by omega)]
  · rfl
theorem nb_fold (s : ByteArray) : nb (foldB s) = (nb s).map lowI := by
  rw [foldB, nb_strOf]
  intro c hc
  obtain ⟨d, hd, rfl⟩ := List.mem_map.1 hc
  exact lowI_range (nb_mem d hd)
theorem fold_twice (s : ByteArray) : foldB (foldB s) = foldB s := by
  refine nb_inj ?_
  rw [nb_fold, nb_fold, List.map_map]
  exact List.map_congr_left fun c _ => lowI_twice c
theorem names_folded : (List.range 62).all (fun i => ((nb (nameAt i 0)).map lowI == nb (nameAt i 0)) && decide ((nameAt i 0).size ≤ 30)) = true := by kernel_rfl
theorem name_folded {i : Nat} (h : i < 62) : foldB (nameAt i 0) = nameAt i 0 ∧ (nameAt i 0).size ≤ 30 := by
  have := List.all_eq_true.1 names_folded i (List.mem_range.2 h)
  simp only [Bool.and_eq_true, beq_iff_eq, decide_eq_true_eq] at this
  exact ⟨nb_inj (by rw [nb_fold]; exact this.1), this.2⟩
theorem canon_folded (t : ByteArray) : foldB (canonB t) = canonB t := by
  rcases rowR_range t with hr | ⟨h0, h62⟩
  · rw [canonB, if_pos hr, fold_twice]
  · rw [canonB, if_neg (by omega)]
    exact (name_folded (by omega)).1
theorem canon_size (t : ByteArray) : (canonB t).size ≤ t.size + 30 := by
  rcases rowR_range t with hr | ⟨h0, h62⟩
  · rw [canonB, if_pos hr, foldB_size]
    omega
  · rw [canonB, if_neg (by omega)]
    have := (name_folded (i := (rowR t).toNat) (by omega)).2
    omega
theorem typeB_folded (s : ByteArray) : foldB (typeB s) = typeB s := canon_folded _
theorem typeB_size (s : ByteArray) : (typeB s).size ≤ s.size + 30 := by
  have h1 := canon_size (rdOf ByteArray.empty (partsB s 59) 0)
  have h2 := parts_sizes (s := s) (c := 59) rfl (rdOf ByteArray.empty (partsB s 59) 0) (rd_mem (by omega) (by have := parts_ne (s := s) (c := 59) rfl; omega))
  unfold typeB
  omega
/-- byName of a text that is folded already. -/
theorem look_folded {t : ByteArray} (h : foldB t = t) : look t (earlyT ++ lateT) = if rowR t < 0 then none else some (rowR t) := by
  have := byName_is t
  rw [h] at this
  exact this
end Go.Proofs.YtdonopoijbokiaaDoor

/-! ### Syntax -/
namespace Go.Proofs.YtdonopoijbokiaaDoor
open Go.RowKit Go.Proofs.YtdonopoijbokiaaDoorW.PrintWords

noncomputable def synOf (r : Int) : Int := if r < 0 then 0 else kindAt r.toNat 1
noncomputable def synB (s : ByteArray) : Int := if acc false begins (nb s) = true then synOf (rowR (typeB s)) else 0

set_option maxRecDepth 100000 in
set_option maxHeartbeats 1000000 in
theorem syntax_any (s : ByteArray) (w : World) (hs : s.size ≤ 4294966000) (hM : MaxAt w) :
    Calls Tryd.prog 24 #[.string s] w fun e w' => e = .returned (.int .i64 (synB s)) ∧ Below w.heap.size w w' := by
  obtain ⟨b, hb⟩ : ∃ b, acc false begins (nb s) = b := ⟨_, rfl⟩
  cases b
  · have hz : synB s = 0 := by rw [synB, hb]; rfl
    rw [hz]
    have HK := Lib.hid hb
    clear hb hz
    go_enter Tryd.func24, Tryd.ntmps24
    go_wp2_with (go_at_call 22; refine (parse_no s _ (by omega) HK.out).mono ?_; rintro e w1 ⟨rfl, hb1⟩)
    go_ret
    exact ⟨rfl, hb1.alloc hb1.size _⟩
  · have hz : synB s = synOf (rowR (typeB s)) := by rw [synB, hb]; rfl
    rw [hz]
    have HK := Lib.hid hb
    clear hb hz
    have hlk := look_folded (typeB_folded s)
    obtain ⟨tb, htb⟩ : ∃ tb, typeB s = tb := ⟨_, rfl⟩
    have hpk := fun w hM => parse_ok s w (by omega) hM HK.out
    rw [htb] at hlk hpk ⊢
    clear htb
    rcases rowR_range tb with hr | ⟨h0, h62⟩
    · rw [if_pos hr] at hlk
      have e1 : noOf (look tb (earlyT ++ lateT)) = 0 := by rw [hlk]; rfl
      have e2 : isOf (look tb (earlyT ++ lateT)) = false := by rw [hlk]; rfl
      have hz : synOf (rowR tb) = 0 := if_pos hr
      rw [hz]
      go_enter Tryd.func24, Tryd.ntmps24
      go_wp2_with (first | (go_at_call 45; refine (byName_any _ _).mono ?_; rw [e1, e2]; rintro e w2 ⟨rfl, rfl⟩) | (go_at_call 22; refine (hpk _ hM).mono ?_; rintro e w1 ⟨A1, c1, rfl, -, hb1⟩))
      go_ret
      exact ⟨rfl, hb1.alloc hb1.size _⟩
    · rw [if_neg (by omega)] at hlk
      obtain ⟨k, hk⟩ : ∃ k : Nat, rowR tb = k := ⟨_, (Int.toNat_of_nonneg h0).symm⟩
      have e1 : noOf (look tb (earlyT ++ lateT)) = k := by rw [hlk, hk]; rfl
      have e2 : isOf (look tb (earlyT ++ lateT)) = true := by rw [hlk]; rfl
      have hz : synOf (rowR tb) = kindAt k 1 := by rw [hk, synOf, if_neg (by omega)]; rfl
      rw [hz]
      have h62' : k < 62 := by omega
      clear hlk hz hk h0 h62
      have hfd := fun a b c d e f w => field_syntax a b c d e f w
      go_enter Tryd.func24, Tryd.ntmps24
      go_wp2_with (first | (go_at_call 44; refine (rows_row k _ h62').mono ?_; rintro e w3 ⟨v3, rfl, hR3, hb3⟩; obtain ⟨A3, c3, rfl, _⟩ := Kd.R_reads hR3; rw [rowCells]) | (go_at_call 45; refine (byName_any _ _).mono ?_; rw [e1, e2]; rintro e w2 ⟨rfl, rfl⟩) | (go_at_call 22; refine (hpk _ hM).mono ?_; rintro e w1 ⟨A1, c1, rfl, -, hb1⟩))
      go_ret
      exact ⟨rfl, (hb1.alloc hb1.size _).trans (hb3.mono (by have := hb1.size; simp; omega))⟩

set_option maxRecDepth 100000 in
set_option maxHeartbeats 1000000 in
theorem refSyntax_any (s : ByteArray) (w : World) (hs : s.size ≤ 4294966000) (hG : KindsAt w) :
    Calls Tryd.prog 25 #[.string s] w fun e w' => e = .returned (.int .i64 (synB s)) ∧ Below w.heap.size w w' := by
  have HG := Lib.hid hG
  clear hG
  obtain ⟨b, hb⟩ : ∃ b, acc false begins (nb s) = b := ⟨_, rfl⟩
  cases b
  · have hz : synB s = 0 := by rw [synB, hb]; rfl
    rw [hz]
    have HK := Lib.hid hb
    clear hb hz
    go_enter Tryd.func25, Tryd.ntmps25
    go_wp2_with (go_at_call 51; refine (refParse_no s _ (by omega) HK.out).mono ?_; rintro e w1 ⟨rfl, hb1⟩)
    go_ret
    exact ⟨rfl, hb1.alloc hb1.size _⟩
  · have hz : synB s = synOf (rowR (typeB s)) := by rw [synB, hb]; rfl
    rw [hz]
    have HK := Lib.hid hb
    clear hb hz
    have hts := typeB_size s
    obtain ⟨tb, htb⟩ : ∃ tb, typeB s = tb := ⟨_, rfl⟩
    have hpk := fun w => refParse_ok s w (by omega) HK.out
    rw [htb] at hpk hts ⊢
    clear htb
    have hrow := fun w => row_any tb w (by omega)
    rcases rowR_range tb with hr | ⟨h0, h62⟩
    · have hz : synOf (rowR tb) = 0 := if_pos hr
      rw [hz]
      go_enter Tryd.func25, Tryd.ntmps25
      go_wp2_with (first | (go_at_call 46; refine (hrow _).mono ?_; rintro e w2 ⟨rfl, hb2⟩) | (go_at_call 51; refine (hpk _).mono ?_; rintro e w1 ⟨A1, c1, rfl, -, hb1⟩))
      go_ret
      exact ⟨rfl, (hb1.alloc hb1.size _).trans (hb2.mono (by have := hb1.size; simp; omega))⟩
    · obtain ⟨k, hk⟩ : ∃ k : Nat, rowR tb = k := ⟨_, (Int.toNat_of_nonneg h0).symm⟩
      have hz : synOf (rowR tb) = kindAt k 1 := by rw [hk, synOf, if_neg (by omega)]; rfl
      rw [hz]
      rw [hk] at hrow
      have h62' : k < 62 := by omega
      clear hz hk h0 h62
      go_enter Tryd.func25, Tryd.ntmps25
      go_wp2_with (first | (go_at_call 46; refine (hrow _).mono ?_; rintro e w2 ⟨rfl, hb2⟩; have hB := (hb1.alloc hb1.size (.cells #[.string tb, .slice A1 (optB s).length c1] 40)).trans (hb2.mono (by have := hb1.size; simp; omega)); have hck : w2.cell? ⟨1, k * 3 + 1, none⟩ = some (.int .i64 (kindAt k 1)) := (HG.out.below hB).cell k 1 (by omega)) | (go_at_call 51; refine (hpk _).mono ?_; rintro e w1 ⟨A1, c1, rfl, -, hb1⟩))
      go_ret
      exact ⟨rfl, hB⟩
end Go.Proofs.YtdonopoijbokiaaDoor

/-! ### Types -/
namespace Go.Proofs.YtdonopoijbokiaaDoor
open Go.RowKit Go.Proofs.YtdonopoijbokiaaDoorW.PrintWords

set_option maxRecDepth 100000 in
set_option maxHeartbeats 1000000 in
theorem parseType_ok (s : ByteArray) (w : World) (hs : s.size ≤ 4294966000) (hok : acc true begins (nb s) = true) :
    Calls Tryd.prog 34 #[.string s] w fun e w' => e = .returned (.tuple #[.string (canonB s), .int .i64 0, .int .i64 s.size]) ∧ Below w.heap.size w w' := by
  have hs1 : (scanL true (nb s)).1 = true := by rw [scanL_acc]; exact hok
  have hsc := fun w => scan_any s true w (by omega)
  rw [hs1] at hsc
  go_enter Tryd.func34, Tryd.ntmps34
  go_wp2_with (first | (go_at_call 49; refine (canonical_any _ _ (by omega)).mono ?_; rintro e w2 ⟨rfl, hb2⟩) | (go_at_call 47; refine (hsc _).mono ?_; rintro e w1 ⟨rfl, hb1⟩))
  go_ret3
  exact ⟨rfl, hb1.trans (hb2.mono hb1.size)⟩
set_option maxRecDepth 100000 in
set_option maxHeartbeats 1000000 in
theorem parseType_no (s : ByteArray) (w : World) (hs : s.size ≤ 4294966000) (hok : acc true begins (nb s) = false) :
    Calls Tryd.prog 34 #[.string s] w fun e w' => e = .returned (.tuple #[.string ⟨#[]⟩, .int .i64 40, .int .i64 (scanL true (nb s)).2]) ∧ Below w.heap.size w w' := by
  have hs1 : (scanL true (nb s)).1 = false := by rw [scanL_acc]; exact hok
  have hsc := fun w => scan_any s true w (by omega)
  rw [hs1] at hsc
  go_enter Tryd.func34, Tryd.ntmps34
  go_wp2_with (go_at_call 47; refine (hsc _).mono ?_; rintro e w1 ⟨rfl, hb1⟩)
  go_ret3
  exact ⟨rfl, hb1⟩
set_option maxRecDepth 100000 in
set_option maxHeartbeats 1000000 in
theorem refType_ok (s : ByteArray) (w : World) (hs : s.size ≤ 4294966000) (hok : acc true begins (nb s) = true) :
    Calls Tryd.prog 57 #[.string s] w fun e w' => e = .returned (.tuple #[.string (canonB s), .int .i64 0, .int .i64 s.size]) ∧ Below w.heap.size w w' := by
  rw [acc_type] at hok
  have HK := Lib.hid hok
  clear hok
  go_enter Tryd.func57, Tryd.ntmps57
  go_wp2_with (first | (go_at_call 70; refine (canon_any _ _ (by omega)).mono ?_; rintro e w2 ⟨rfl, hb2⟩) | (go_at_call 72; refine (isType_any s _ (by omega)).mono ?_; rw [HK.out]; rintro e w1 ⟨rfl, hb1⟩))
  go_ret3
  exact ⟨rfl, hb1.trans (hb2.mono hb1.size)⟩
set_option maxRecDepth 100000 in
set_option maxHeartbeats 1000000 in
theorem refType_no (s : ByteArray) (w : World) (hs : s.size ≤ 4294966000) (hok : acc true begins (nb s) = false) :
    Calls Tryd.prog 57 #[.string s] w fun e w' => e = .returned (.tuple #[.string ⟨#[]⟩, .int .i64 40, .int .i64 (scanL true (nb s)).2]) ∧ Below w.heap.size w w' := by
  rw [acc_type] at hok
  have HK := Lib.hid hok
  clear hok
  go_enter Tryd.func57, Tryd.ntmps57
  go_wp2_with (first | (go_at_call 68; refine (place_any s true _ hs).mono ?_; rintro e w2 ⟨rfl, hb2⟩) | (go_at_call 72; refine (isType_any s _ (by omega)).mono ?_; rw [HK.out]; rintro e w1 ⟨rfl, hb1⟩))
  go_ret3
  exact ⟨rfl, hb1.trans (hb2.mono hb1.size)⟩
end Go.Proofs.YtdonopoijbokiaaDoor
