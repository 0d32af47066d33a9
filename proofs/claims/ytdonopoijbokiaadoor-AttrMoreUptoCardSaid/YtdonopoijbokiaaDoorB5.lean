/- attr.canonical, rosterref04.canon: the canonical type of a type's text. A text taken apart at a byte: the pieces as texts, and as the splitting of its bytes. No program in sight. rosterref04.parts: what it answers. rosterref04.key, keys, number: what they answer. rosterref04.IsType, IsDesc: what they answer. rosterref04.IsDesc: what it answers. rosterref04.goes: what it answers. rosterref04.place: what it answers. -/
import Derived.Test.YtdonopoijbokiaaDoorB4
import Derived.Test.YtdonopoijbokiaaDoorB1
import Derived.Test.YtdonopoijbokiaaDoorB3
import Derived.Lib.SplitLaws
set_option linter.unusedVariables false
set_option linter.unusedSimpArgs false

/-! ### Canon -/
namespace Go.Proofs.YtdonopoijbokiaaDoor
open Go.RowKit Go.Proofs.YtdonopoijbokiaaDoorW.PrintWords

theorem field_name (a b c d e f : Value) (w : World) : (Instr.field 32 (.agg #[a, b, c, d, e, f]) 0).run Tryd.prog w = .ok a w := by kernel_rfl
theorem field_super (a b c d e f : Value) (w : World) : (Instr.field 32 (.agg #[a, b, c, d, e, f]) 3).run Tryd.prog w = .ok d w := by kernel_rfl
theorem field_syntax (a b c d e f : Value) (w : World) : (Instr.field 32 (.agg #[a, b, c, d, e, f]) 4).run Tryd.prog w = .ok e w := by kernel_rfl
/-- The row's first name, or the text folded. -/
noncomputable def canonB (t : ByteArray) : ByteArray := if rowR t < 0 then foldB t else nameAt (rowR t).toNat 0

set_option maxRecDepth 100000 in
set_option maxHeartbeats 1000000 in
theorem canonical_any (s : ByteArray) (w : World) (hs : s.size ≤ 140737488351232) :
    Calls Tryd.prog 49 #[.string s] w fun e w' => e = .returned (.string (canonB s)) ∧ Below w.heap.size w w' := by
  rcases rowR_range s with hr | ⟨h0, h62⟩
  · have hl : look (foldB s) (earlyT ++ lateT) = none := by rw [byName_is, if_pos hr]
    have e1 : noOf (look (foldB s) (earlyT ++ lateT)) = 0 := by rw [hl]; rfl
    have e2 : isOf (look (foldB s) (earlyT ++ lateT)) = false := by rw [hl]; rfl
    go_enter Tryd.func49, Tryd.ntmps49
    go_wp2_with (first | (go_at_call 33; refine (fold_any _ _ hs).mono ?_; rintro e w1 ⟨rfl, hb1⟩) | (go_at_call 45; refine (byName_any _ _).mono ?_; rw [e1, e2]; rintro e w2 ⟨rfl, rfl⟩))
    all_goals go_ret
    exact ⟨by rw [canonB, if_pos hr]; rfl, hb1⟩
  · obtain ⟨k, hk⟩ : ∃ k : Nat, rowR s = k := ⟨_, (Int.toNat_of_nonneg h0).symm⟩
    rw [hk] at h62
    have e1 : noOf (look (foldB s) (earlyT ++ lateT)) = k := by rw [byName_is, if_neg (by omega), hk]; rfl
    have e2 : isOf (look (foldB s) (earlyT ++ lateT)) = true := by rw [byName_is, if_neg (by omega)]; rfl
    have HK := Lib.hid hk
    clear hk h0
    have h62' : k < 62 := by omega
    have hfd := fun a b c d e f w => field_name a b c d e f w
    go_enter Tryd.func49, Tryd.ntmps49
    go_wp2_with (first | (go_at_call 33; refine (fold_any _ _ hs).mono ?_; rintro e w1 ⟨rfl, hb1⟩) | (go_at_call 45; refine (byName_any _ _).mono ?_; rw [e1, e2]; rintro e w2 ⟨rfl, rfl⟩) | (go_at_call 44; refine (rows_row k _ h62').mono ?_; rintro e w2 ⟨v, rfl, hR, hb2⟩; obtain ⟨A, c, rfl, hlc, hC⟩ := Kd.R_reads hR; have HC := Lib.hid hC; clear hC hR; rw [rowCells]))
    all_goals go_ret
    exact ⟨by rw [canonB, if_neg (by rw [HK.out]; omega), HK.out]; rfl, hb1.trans (hb2.mono hb1.size)⟩

set_option maxRecDepth 100000 in
set_option maxHeartbeats 1000000 in
theorem canon_any (s : ByteArray) (w : World) (hs : s.size ≤ 140737488351232) :
    Calls Tryd.prog 70 #[.string s] w fun e w' => e = .returned (.string (canonB s)) ∧ Below w.heap.size w w' := by
  obtain ⟨nv, hnv⟩ : ∃ nv, nv = namesL.toArray := ⟨_, rfl⟩
  rcases rowR_range s with hr | ⟨h0, h62⟩
  · go_enter Tryd.func70, Tryd.ntmps70
    go_wp2_with (first | (go_at_call 46; refine (row_any _ _ hs).mono ?_; rintro e w1 ⟨rfl, hb1⟩; have HB1 := Lib.hid hb1; clear hb1) | (go_at_call 52; refine (fold01_any _ _ hs).mono ?_; rintro e w2 ⟨rfl, hb2⟩))
    all_goals go_ret
    exact ⟨by rw [canonB, if_pos hr]; rfl, HB1.out.trans (hb2.mono HB1.out.size)⟩
  · obtain ⟨k, hk⟩ : ∃ k : Nat, rowR s = k := ⟨_, (Int.toNat_of_nonneg h0).symm⟩
    rw [hk] at h62
    have hrow := row_any s w hs
    rw [hk] at hrow
    have HK := Lib.hid hk
    clear hk h0
    have h62' : k < 62 := by omega
    go_enter Tryd.func70, Tryd.ntmps70
    go_wp2_with (first | (go_at_call 46; refine hrow.mono ?_; rintro e w1 ⟨rfl, hb1⟩) | (go_at_call 53; refine (names_any _).mono ?_; rw [← hnv]; rintro e w2 ⟨rfl, hb2⟩; rw [hnv]) | (refine wpList_store_names rfl _ _ rfl rfl rfl ?_; intro W3 hN hb3; have hB3 := (hb1.trans (hb2.mono hb1.size)).trans (hb3.mono (Nat.le_trans hb1.size hb2.size)); have HN := Lib.hid hN; generalize w2.heap.size = g at HN ⊢; clear hb1 hb2 hb3 hN hnv; have c0 : W3.cell? ⟨g, k * 3, none⟩ = some (.string (nameAt k 0)) := HN.out.cell k 0 (by omega)))
    all_goals go_ret
    exact ⟨by rw [canonB, if_neg (by rw [HK.out]; omega), HK.out]; rfl, hB3⟩
end Go.Proofs.YtdonopoijbokiaaDoor

/-! ### Cut -/
namespace Go.Proofs.YtdonopoijbokiaaDoor
open Go.RowKit Go.Proofs.YtdonopoijbokiaaDoorW.PrintWords
set_option linter.unusedVariables false
set_option linter.unusedSimpArgs false

theorem map_inj {α β : Type} {f : α → β} (hf : ∀ x y, f x = f y → x = y) : ∀ {l m : List α}, l.map f = m.map f → l = m
  | [], [], _ => rfl
  | [], _ :: _, h => by simp at h
  | _ :: _, [], h => by simp at h
  | a :: l, b :: m, h => by
    simp only [List.map_cons, List.cons.injEq] at h
    rw [hf _ _ h.1, map_inj hf h.2]
theorem nb_inj {a b : ByteArray} (h : nb a = nb b) : a = b := by
  have h' : a.data.toList = b.data.toList := by
    unfold nb at h
    exact map_inj (f := fun b : UInt8 => (b.toNat : Int)) (fun x y e => UInt8.toNat_inj.1 (Int.ofNat_inj.1 e)) h
  cases a; cases b
  simp only [ByteArray.mk.injEq]
  exact Array.toList_inj.1 h'
theorem nbs_inj {l m : List ByteArray} (h : l.map nb = m.map nb) : l = m := map_inj (fun _ _ => nb_inj) h
theorem nb_extract (s : ByteArray) (a b : Nat) : nb (s.extract a b) = ((nb s).drop a).take (b - a) := by
  unfold nb
  rw [Lib.extract_data]
  simp [List.map_take, List.map_drop]
/-- The pieces, from place i on, the piece under way having begun at lo. -/
def cutB (s : ByteArray) (c : Int) : Nat → Nat → Nat → List ByteArray
  | 0, lo, _ => [s.extract lo s.size]
  | n + 1, lo, i => if (nb s).getD i 0 = c then s.extract lo i :: cutB s c n (i + 1) (i + 1) else cutB s c n lo (i + 1)
def partsB (s : ByteArray) (c : Int) : List ByteArray := cutB s c s.size 0 0
theorem cutB_nb (s : ByteArray) (c : Int) : ∀ (n lo i : Nat), n + i = s.size → lo ≤ i →
    (cutB s c n lo i).map nb = (((nb s).drop lo).take (i - lo) ++ (splitI c ((nb s).drop i)).headD []) :: (splitI c ((nb s).drop i)).tail
  | 0, lo, i, h, hlo => by
    have e : (nb s).drop i = [] := List.drop_of_length_le (by rw [nb_length]; omega)
    rw [cutB, e, List.map_cons, nb_extract]
    simp only [splitI, List.headD_cons, List.tail_cons, List.append_nil, List.map_nil]
    rw [show s.size - lo = i - lo by omega]
  | n + 1, lo, i, h, hlo => by
    have hi : i < (nb s).length := by rw [nb_length]; omega
    have e : (nb s).drop i = (nb s).getD i 0 :: (nb s).drop (i + 1) := by
      rw [List.drop_eq_getElem_cons hi, List.getD_eq_getElem?_getD, List.getElem?_eq_getElem hi]
      rfl
    rw [cutB, e, splitI]
    split
    · rename_i hc
      rw [List.map_cons, nb_extract, cutB_nb s c n (i + 1) (i + 1) (by omega) (Nat.le_refl _)]
      simp only [List.headD_cons, List.tail_cons, List.append_nil, Nat.sub_self, List.take_zero, List.nil_append]
      rw [← splitI_eq]
    · rw [cutB_nb s c n lo (i + 1) (by omega) (by omega)]
      simp only [List.headD_cons, List.tail_cons]
      have hi' : i - lo < ((nb s).drop lo).length := by rw [List.length_drop]; omega
      rw [show i + 1 - lo = (i - lo) + 1 by omega, take_snoc' _ 0 _ hi', List.append_assoc]
      have : ((nb s).drop lo).getD (i - lo) 0 = (nb s).getD i 0 := by
        rw [List.getD_eq_getElem?_getD, List.getD_eq_getElem?_getD, List.getElem?_drop, show lo + (i - lo) = i by omega]
      rw [this]
      rfl
theorem partsB_nb (s : ByteArray) (c : Int) : (partsB s c).map nb = splitI c (nb s) := by
  rw [partsB, cutB_nb s c s.size 0 0 (by omega) (Nat.le_refl _)]
  simp only [Nat.sub_self, List.take_zero, List.nil_append, List.drop_zero]
  rw [← splitI_eq]
theorem cutB_length (s : ByteArray) (c : Int) : ∀ (n lo i : Nat), (cutB s c n lo i).length ≤ n + 1
  | 0, _, _ => by simp [cutB]
  | n + 1, lo, i => by
    rw [cutB]
    split
    · have := cutB_length s c n (i + 1) (i + 1)
      simp only [List.length_cons]; omega
    · have := cutB_length s c n lo (i + 1)
      omega
/-- The same by strings.Split at one byte. -/
def splitU (c : UInt8) : List UInt8 → List (List UInt8)
  | [] => [[]]
  | x :: l => if x = c then [] :: splitU c l else (x :: (splitU c l).headD []) :: (splitU c l).tail
theorem splitU_eq (c : UInt8) (l : List UInt8) : splitU c l = (splitU c l).headD [] :: (splitU c l).tail := by
  cases l with
  | nil => rfl
  | cons x l => simp only [splitU]; split <;> rfl
theorem index_cons_eq (c : UInt8) (l : List UInt8) : Lib.index (c :: l) [c] = 0 := by
  have := Lib.index_first (s := c :: l) (sub := [c]) (i := 0) (Nat.zero_le _) (by simp [Lib.occAt]) (fun j hj => by omega)
  simpa using this
theorem index_cons_ne {x c : UInt8} (l : List UInt8) (h : x ≠ c) {i : Nat} (hi : Lib.index l [c] = i) : Lib.index (x :: l) [c] = (i + 1 : Nat) := by
  rcases Lib.index_spec l [c] with ⟨e, _⟩ | ⟨k, e, hk, ho, hn⟩
  · omega
  · obtain rfl : k = i := by omega
    refine Lib.index_first (by simp; omega) (by simpa [Lib.occAt] using ho) (fun j hj => ?_)
    cases j with
    | zero => simpa [Lib.occAt, List.isPrefixOf] using Ne.symm h
    | succ j =>
      have := hn j (by omega)
      simpa [Lib.occAt] using this
theorem index_of_count {c : UInt8} {l : List UInt8} {k : Nat} (h : Lib.count l [c] = k + 1) : ∃ i : Nat, Lib.index l [c] = i := by
  rcases Lib.index_spec l [c] with ⟨e, _⟩ | ⟨i, e, _⟩
  · rw [Lib.count_miss e] at h; omega
  · exact ⟨i, e⟩
theorem split_one (c : UInt8) : ∀ (l : List UInt8), Lib.splitK [c] 0 (Lib.count l [c]) l = splitU c l
  | [] => by
    rw [show Lib.count [] [c] = 0 by rw [Lib.count_one]; rfl]
    rfl
  | x :: l => by
    by_cases h : x = c
    · subst h
      rw [Lib.count_cons_eq, Nat.add_comm, Lib.splitK, index_cons_eq, splitU, if_pos rfl, ← split_one]
      simp
    · rw [Lib.count_cons_ne _ _ _ h, splitU, if_neg h]
      have ih := split_one c l
      cases hk : Lib.count l [c] with
      | zero =>
        rw [hk] at ih
        rw [← ih]
        rfl
      | succ k =>
        obtain ⟨i, hi⟩ := index_of_count hk
        rw [hk, Lib.splitK, hi] at ih
        rw [Lib.splitK, index_cons_ne l h hi, ← ih]
        have e1 : ((i : Int) == -1) = false := beq_false_of_ne (by omega)
        have e2 : (((i + 1 : Nat) : Int) == -1) = false := beq_false_of_ne (by omega)
        rw [e1, e2]
        simp only [Bool.false_eq_true, if_false, Int.toNat_natCast, Nat.add_zero, List.length_singleton, List.headD_cons, List.tail_cons, List.take_succ_cons, List.drop_succ_cons]
theorem splitU_nb (c : UInt8) : ∀ (l : List UInt8), (splitU c l).map (List.map fun b : UInt8 => (b.toNat : Int)) = splitI c.toNat (l.map fun b : UInt8 => (b.toNat : Int))
  | [] => rfl
  | x :: l => by
    have ih := splitU_nb c l
    rw [List.map_cons, splitI, ← ih, splitU]
    by_cases h : x = c
    · subst h
      simp
    · have h' : ¬ ((x.toNat : Int) = (c.toNat : Int)) := fun e => h (UInt8.toNat_inj.1 (by omega))
      rw [if_neg h, if_neg h', splitU_eq c l]
      simp
theorem splitB_parts (c : UInt8) (s : ByteArray) : Lib.splitB ⟨#[c]⟩ 0 (Lib.countB s ⟨#[c]⟩) s = partsB s c.toNat := by
  refine nbs_inj ?_
  rw [partsB_nb]
  have e : (Lib.splitB ⟨#[c]⟩ 0 (Lib.countB s ⟨#[c]⟩) s).map nb = ((Lib.splitB ⟨#[c]⟩ 0 (Lib.countB s ⟨#[c]⟩) s).map (·.data.toList)).map (List.map fun b : UInt8 => (b.toNat : Int)) := by
    rw [List.map_map]
    rfl
  rw [e, Lib.splitB_data]
  have e2 : Lib.splitK [c] 0 (Lib.countB s ⟨#[c]⟩) s.data.toList = splitU c s.data.toList := split_one c s.data.toList
  exact (congrArg (List.map _) e2).trans (splitU_nb c _)
theorem countB_parts (c : UInt8) (s : ByteArray) : Lib.countB s ⟨#[c]⟩ + 1 = (partsB s c.toNat).length := by
  rw [← splitB_parts]
  exact (Lib.splitB_all ⟨#[c]⟩ (Nat.le_refl 1) 0 _ s rfl).symm
end Go.Proofs.YtdonopoijbokiaaDoor

/-! ### Parts -/
namespace Go.Proofs.YtdonopoijbokiaaDoor
open Go.RowKit Go.Proofs.YtdonopoijbokiaaDoorW.PrintWords

/-- What stands in the list so far, and what is to come. -/
def PartsAt (s : ByteArray) (c x y : Int) (done : List ByteArray) : Prop := partsB s c = done ++ cutB s c (s.size - x.toNat) y.toNat x.toNat
theorem parts_start (s : ByteArray) (c : Int) : PartsAt s c 0 0 [] := rfl
theorem parts_hit {s : ByteArray} {c x y : Int} {done : List ByteArray} (h : PartsAt s c x y done) (h0 : 0 ≤ x) (hx : x < s.size) (e : bt s x = c) : PartsAt s c (x + 1) (x + 1) (done ++ [s.extract y.toNat x.toNat]) := by
  unfold PartsAt at *
  rw [h, show s.size - x.toNat = (s.size - (x + 1).toNat) + 1 by omega, cutB, if_pos (by rw [← bt_nb]; exact e), show (x + 1).toNat = x.toNat + 1 by omega]
  simp
theorem parts_miss {s : ByteArray} {c x y : Int} {done : List ByteArray} (h : PartsAt s c x y done) (h0 : 0 ≤ x) (hx : x < s.size) (e : ¬ bt s x = c) : PartsAt s c (x + 1) y done := by
  unfold PartsAt at *
  rw [h, show s.size - x.toNat = (s.size - (x + 1).toNat) + 1 by omega, cutB, if_neg (by rw [← bt_nb]; exact e), show (x + 1).toNat = x.toNat + 1 by omega]
theorem parts_end {s : ByteArray} {c x y : Int} {done : List ByteArray} (h : PartsAt s c x y done) (hx : s.size ≤ x) : partsB s c = done ++ [s.extract y.toNat s.size] := by
  unfold PartsAt at h
  rw [h, show s.size - x.toNat = 0 by omega, cutB]
theorem parts_len {s : ByteArray} {c x y : Int} {done : List ByteArray} (h : PartsAt s c x y done) : done.length ≤ s.size + 1 := by
  have h1 := cutB_length s c s.size 0 0
  have h2 := congrArg List.length (show partsB s c = _ from h)
  rw [List.length_append] at h2
  unfold partsB at h2
  omega

set_option maxRecDepth 100000 in
set_option maxHeartbeats 1000000 in
theorem parts_any (s : ByteArray) (c : Int) (w : World) (hs : s.size ≤ 4294967000) (hc : 0 ≤ c) (hc1 : c ≤ 255) :
    Calls Tryd.prog 69 #[.string s, .int .u8 c] w fun e w' => ∃ v, e = .returned v ∧ Kd.R Kd.string 9 w' w.heap.size (fun _ => True) v (partsB s c) ∧ Below w.heap.size w w' := by
  go_enter Tryd.func69, Tryd.ntmps69
  go_wp2
  go_loopw [5, 6, 7] (fun v lo i wr => ∃ (x y : Int) (done : List ByteArray), lo = .int .i64 y ∧ i = .int .i64 x ∧ 0 ≤ y ∧ y ≤ x ∧ x ≤ s.size ∧ PartsAt s c x y done ∧ Kd.R Kd.string 9 wr w.heap.size (fun _ => True) v done ∧ Below w.heap.size w wr) (fun _ _ i _ => s.size - (intOf i).toNat)
  case atStart => exact ⟨0, 0, [], rfl, rfl, Int.le_refl _, Int.le_refl _, by omega, parts_start s c, Kd.R_nil _ _ _ _ _, Below.refl _ _⟩
  case round =>
    obtain ⟨x, y, done, rfl, rfl, hy0, hyx, hx1, hP, hR, hB⟩ := hrel
    have HP := Lib.hid hP
    have HR := Lib.hid hR
    have HB := Lib.hid hB
    clear hP hR hB
    by_cases hlt : x < s.size
    · have hby := bt_at s x
      obtain ⟨hc0, hc1⟩ := bt_range s x
      by_cases hcc : bt s x = c
      · have HC := Lib.hid hcc
        go_wp2_with (at_builtin; refine Kd.R_append Kd.string (w0 := w) w.heap.size rfl (.tmp 19) (.tmp 24) 28 9 (.string ⟨#[]⟩) 16 rfl Tryd.underlying28 info9 rfl (by decide) (by decide) _ done (s.extract y.toNat x.toNat) [.string (s.extract y.toNat x.toNat)] (fun _ => True) (fun _ => False) rfl rfl rfl (fun _ hk => hk.elim) (fun _ _ => trivial) HR.out HB.out HB.out.size (by have := parts_len HP.out; omega) ?_; intro v1 w1 hR1 hb1 _ _; have HR1 := Lib.hid hR1; have HB1 := Lib.hid hb1; clear hR1 hb1)
        go_roundw
        case rel => exact ⟨x + 1, x + 1, _, by go_num, by go_num, by omega, by omega, by omega, parts_hit HP.out (by omega) hlt HC.out, HR1.out, HB1.out⟩
        case measure => simp [intOf]; omega
      · have HC := Lib.hid hcc
        go_wp2
        go_roundw
        case rel => exact ⟨x + 1, y, _, rfl, by go_num, by omega, by omega, by omega, parts_miss HP.out (by omega) hlt HC.out, HR.out, HB.out⟩
        case measure => simp [intOf]; omega
    · go_wp2_with (at_builtin; refine Kd.R_append Kd.string (w0 := w) w.heap.size rfl (.tmp 28) (.tmp 32) 28 9 (.string ⟨#[]⟩) 16 rfl Tryd.underlying28 info9 rfl (by decide) (by decide) _ done (s.extract y.toNat s.size) [.string (s.extract y.toNat s.size)] (fun _ => True) (fun _ => False) rfl rfl rfl (fun _ hk => hk.elim) (fun _ _ => trivial) HR.out HB.out HB.out.size (by have := parts_len HP.out; omega) ?_; intro v1 w1 hR1 hb1 _ _; have HR1 := Lib.hid hR1; have HB1 := Lib.hid hb1; clear hR1 hb1)
      go_ret
      exact ⟨_, rfl, by rw [parts_end HP.out (by omega)]; exact HR1.out, HB1.out⟩
end Go.Proofs.YtdonopoijbokiaaDoor

/-! ### Keys -/
namespace Go.Proofs.YtdonopoijbokiaaDoor
open Go.RowKit Go.Proofs.YtdonopoijbokiaaDoorW.PrintWords

theorem isKey_iff (c : Int) : isKey c = decide ((97 ≤ c ∧ c ≤ 122) ∨ (65 ≤ c ∧ c ≤ 90) ∨ (48 ≤ c ∧ c ≤ 57) ∨ c = 45) := by
  simp [isKey, isLetter, isDigit, Bool.or_assoc]
theorem isLetter_iff (c : Int) : isLetter c = decide ((97 ≤ c ∧ c ≤ 122) ∨ (65 ≤ c ∧ c ≤ 90)) := by simp [isLetter]
theorem isDigit_iff (c : Int) : isDigit c = decide (48 ≤ c ∧ c ≤ 57) := by simp [isDigit]
theorem toList_empty (s : ByteArray) : s.toList.isEmpty = decide (s.size = 0) := by
  rw [Lib.toList_data, show s.size = s.data.toList.length from Array.length_toList.symm]
  cases s.data.toList <;> simp
set_option maxRecDepth 100000 in
theorem keyR_any (c : Int) (w : World) : Calls Tryd.prog 102 #[.int .u8 c] w fun e w' => e = .returned (.bool (isKey c)) ∧ w' = w := by
  have h : c < 45 ∨ c = 45 ∨ (45 < c ∧ c < 48) ∨ (48 ≤ c ∧ c ≤ 57) ∨ (57 < c ∧ c < 65) ∨ (65 ≤ c ∧ c ≤ 90) ∨ (90 < c ∧ c < 97) ∨ (97 ≤ c ∧ c ≤ 122) ∨ 122 < c := by omega
  rcases h with h | rfl | ⟨h, h'⟩ | ⟨h, h'⟩ | ⟨h, h'⟩ | ⟨h, h'⟩ | ⟨h, h'⟩ | ⟨h, h'⟩ | h
  all_goals try have h45 : (c == 45) = false := beq_false_of_ne (by omega)
  all_goals
    go_enter Tryd.func102, Tryd.ntmps102
    go_wp2
    all_goals go_ret
    all_goals first
      | exact ⟨rfl, rfl⟩
      | exact ⟨by rw [isKey_iff, decide_eq_true (by omega)]; rfl, rfl⟩
      | exact ⟨by rw [isKey_iff]; refine congrArg (fun b => Ending.returned (.bool b)) ?_; rw [Bool.eq_iff_iff]; simp; omega, rfl⟩
theorem all_at {f : Int → Bool} {s : ByteArray} {x : Int} (h : ∀ y : Int, 0 ≤ y → y < x → f (bt s y) = true) (hx : s.size ≤ x) : (nb s).all f = true := by
  rw [List.all_eq_true]
  intro c hc
  obtain ⟨i, hi, rfl⟩ := List.getElem_of_mem hc
  rw [nb_length] at hi
  have := h i (by omega) (by omega)
  rw [bt_nb, Int.toNat_natCast, List.getD_eq_getElem?_getD, List.getElem?_eq_getElem (by rw [nb_length]; exact hi)] at this
  exact this
theorem all_not {f : Int → Bool} {s : ByteArray} {x : Int} (h0 : 0 ≤ x) (hx : x < s.size) (h : f (bt s x) = false) : (nb s).all f = false := by
  rw [Bool.eq_false_iff]
  intro ha
  have hi : x.toNat < (nb s).length := by rw [nb_length]; omega
  rw [List.all_eq_true] at ha
  have := ha _ (List.getElem_mem hi)
  rw [bt_nb, List.getD_eq_getElem?_getD, List.getElem?_eq_getElem hi] at h
  simp only [Option.getD_some] at h
  rw [this] at h
  cases h
theorem nb_empty (s : ByteArray) : (nb s).isEmpty = decide (s.size = 0) := by
  rw [← nb_length]
  cases nb s <;> simp
theorem keysP_at {s : ByteArray} {x : Int} (h : ∀ y : Int, 0 ≤ y → y < x → isKey (bt s y) = true) (hx : s.size ≤ x) : keysP (nb s) = !decide (s.size = 0) := by
  rw [keysP, all_at h hx, nb_empty, Bool.true_and]
theorem keysP_not {s : ByteArray} {x : Int} (h0 : 0 ≤ x) (hx : x < s.size) (h : isKey (bt s x) = false) : keysP (nb s) = false := by
  rw [keysP, all_not h0 hx h, Bool.false_and]
theorem upto_next {f : Int → Bool} {s : ByteArray} {x : Int} (h : ∀ y : Int, 0 ≤ y → y < x → f (bt s y) = true) (hx : f (bt s x) = true) : ∀ y : Int, 0 ≤ y → y < x + 1 → f (bt s y) = true := fun y h0 h1 => by
  by_cases e : y = x
  · rw [e]; exact hx
  · exact h y h0 (by omega)

set_option maxRecDepth 100000 in
set_option maxHeartbeats 1000000 in
theorem keys_any (s : ByteArray) (w : World) (hs : s.size ≤ 4294967000) :
    Calls Tryd.prog 83 #[.string s] w fun e w' => e = .returned (.bool (keysP (nb s))) ∧ Drawn0 w w' := by
  go_enter Tryd.func83, Tryd.ntmps83
  go_wp2
  go_loopw [3] (fun i wr => ∃ x : Int, i = .int .i64 x ∧ 0 ≤ x ∧ x ≤ s.size ∧ Hid (∀ y : Int, 0 ≤ y → y < x → isKey (bt s y) = true) ∧ Drawn0 w wr) (fun i _ => s.size - (intOf i).toNat)
  case atStart => exact ⟨0, rfl, Int.le_refl _, by omega, Lib.hid (fun y _ _ => by omega), Drawn0.refl _⟩
  case round =>
    obtain ⟨x, rfl, hx0, hx1, HA, ⟨m, rfl⟩⟩ := hrel
    by_cases hlt : x < s.size
    · have hby := bt_at s x
      obtain ⟨hc0, hc1⟩ := bt_range s x
      obtain ⟨b, hb⟩ : ∃ b, isKey (bt s x) = b := ⟨_, rfl⟩
      have HK := Lib.hid hb
      clear hb
      cases b
      · go_wp2_with (go_at_call 102; refine (keyR_any _ _).mono ?_; rw [HK.out]; rintro e w1 ⟨rfl, rfl⟩)
        go_ret
        exact ⟨by rw [keysP_not hx0 hlt HK.out]; rfl, Drawn0.step (Drawn0.refl _) _⟩
      · go_wp2_with (go_at_call 102; refine (keyR_any _ _).mono ?_; rw [HK.out]; rintro e w1 ⟨rfl, rfl⟩)
        go_roundw
        case rel => exact ⟨x + 1, by go_num, by omega, by omega, Lib.hid (upto_next HA.out HK.out), Drawn0.step (Drawn0.refl _) _⟩
        case measure => simp [intOf]; omega
    · go_wp2
      go_ret
      exact ⟨by rw [keysP_at HA.out (by omega), ← toList_empty]; rfl, Drawn0.step (Drawn0.refl _) _⟩
theorem empty_of_size {s : ByteArray} (h : s.size = 0) : s = ⟨#[]⟩ := by
  cases s with
  | mk d =>
    have : d.size = 0 := h
    rw [Array.eq_empty_of_size_eq_zero this]
theorem digit_no {c : Int} (h : c < 48 ∨ 57 < c) : isDigit c = false := by rw [isDigit_iff, decide_eq_false (by omega)]
theorem digit_yes {c : Int} (h : 48 ≤ c) (h' : c ≤ 57) : isDigit c = true := by rw [isDigit_iff, decide_eq_true ⟨h, h'⟩]
theorem zero_is (s : ByteArray) : (s.toList == [48]) = decide (nb s = [48]) := by
  rw [Lib.toList_data]
  have : nb s = s.data.toList.map fun b : UInt8 => (b.toNat : Int) := rfl
  by_cases h : s.data.toList = [48]
  · rw [this, h]; rfl
  · rw [beq_false_of_ne h]
    refine (decide_eq_false fun e => h ?_).symm
    rw [this] at e
    exact map_inj (f := fun b : UInt8 => (b.toNat : Int)) (fun x y e => UInt8.toNat_inj.1 (Int.ofNat_inj.1 e)) (m := [48]) e
theorem numP_at {s : ByteArray} {x : Int} (h : ∀ y : Int, 0 ≤ y → y < x → isDigit (bt s y) = true) (hx : s.size ≤ x) : numP (nb s) = (s.toList == [48] || (!s.toList.isEmpty && !decide (bt s 0 = 48))) := by
  rw [numP, all_at h hx, zero_is, toList_empty, nb_empty, bt_nb, Bool.true_and]
  have : (nb s).headD 0 = (nb s).getD (0 : Int).toNat 0 := by cases nb s <;> rfl
  rw [this]
  simp
theorem numP_not {s : ByteArray} {x : Int} (h0 : 0 ≤ x) (hx : x < s.size) (h : isDigit (bt s x) = false) : numP (nb s) = false := by
  rw [numP, all_not h0 hx h, Bool.false_and]

set_option maxRecDepth 100000 in
set_option maxHeartbeats 1000000 in
theorem number_any (s : ByteArray) (w : World) (hs : s.size ≤ 4294967000) :
    Calls Tryd.prog 85 #[.string s] w fun e w' => e = .returned (.bool (numP (nb s))) ∧ Drawn0 w w' := by
  go_enter Tryd.func85, Tryd.ntmps85
  go_wp2
  go_loopw [3] (fun i wr => ∃ x : Int, i = .int .i64 x ∧ 0 ≤ x ∧ x ≤ s.size ∧ Hid (∀ y : Int, 0 ≤ y → y < x → isDigit (bt s y) = true) ∧ Drawn0 w wr) (fun i _ => s.size - (intOf i).toNat)
  case atStart => exact ⟨0, rfl, Int.le_refl _, by omega, Lib.hid (fun y _ _ => by omega), Drawn0.refl _⟩
  case round =>
    obtain ⟨x, rfl, hx0, hx1, HA, ⟨m, rfl⟩⟩ := hrel
    by_cases hlt : x < s.size
    · have hby := bt_at s x
      obtain ⟨hc0, hc1⟩ := bt_range s x
      by_cases h48 : bt s x < 48
      · go_wp2
        go_ret
        exact ⟨by rw [numP_not hx0 hlt (digit_no (.inl h48))]; rfl, Drawn0.step (Drawn0.refl _) _⟩
      · by_cases h57 : 57 < bt s x
        · go_wp2
          go_ret
          exact ⟨by rw [numP_not hx0 hlt (digit_no (.inr h57))]; rfl, Drawn0.step (Drawn0.refl _) _⟩
        · have HK := Lib.hid (digit_yes (c := bt s x) (by omega) (by omega))
          go_wp2
          go_roundw
          case rel => exact ⟨x + 1, by go_num, by omega, by omega, Lib.hid (upto_next HA.out HK.out), Drawn0.step (Drawn0.refl _) _⟩
          case measure => simp [intOf]; omega
    · have HN := Lib.hid (numP_at HA.out (show (s.size : Int) ≤ x by omega))
      clear HA
      by_cases h0 : s.size = 0
      · obtain rfl : s = ⟨#[]⟩ := empty_of_size h0
        go_wp2
        go_ret
        exact ⟨by rw [show numP (nb ⟨#[]⟩) = false from rfl]; rfl, Drawn0.step (Drawn0.refl _) _⟩
      · have hpos : 0 < s.size := by omega
        have hne : ¬ s.toList = [] := fun e => h0 (by have := toList_empty s; rw [e] at this; simpa using this.symm)
        have hby : ∀ h : 0 < s.size, ((s[0]'h).toNat : Int) = bt s 0 := bt_at s 0
        obtain ⟨hc0, hc1⟩ := bt_range s 0
        by_cases hz : s.toList = [48]
        · have HZ := Lib.hid hz
          go_wp2
          go_ret
          exact ⟨by rw [HN.out, HZ.out]; rfl, Drawn0.step (Drawn0.refl _) _⟩
        · have HZ := Lib.hid (beq_false_of_ne hz)
          have HE := Lib.hid (show s.toList.isEmpty = false by cases h : s.toList with | nil => exact absurd h hne | cons a b => rfl)
          by_cases c0 : bt s 0 = 48
          · have HC := Lib.hid c0
            go_wp2
            go_ret
            exact ⟨by rw [HN.out, HZ.out, HE.out, HC.out]; rfl, Drawn0.step (Drawn0.refl _) _⟩
          · have HC := Lib.hid c0
            go_wp2
            go_ret
            exact ⟨by rw [HN.out, HZ.out, HE.out, decide_eq_false HC.out]; exact congrArg (fun b => Ending.returned (.bool b)) (by simp [c0]), Drawn0.step (Drawn0.refl _) _⟩
end Go.Proofs.YtdonopoijbokiaaDoor

/-! ### Gram -/
namespace Go.Proofs.YtdonopoijbokiaaDoor
open Go.RowKit Go.Proofs.YtdonopoijbokiaaDoorW.PrintWords

theorem cutB_sizes (s : ByteArray) (c : Int) : ∀ (n lo i : Nat), ∀ p ∈ cutB s c n lo i, p.size ≤ s.size
  | 0, lo, _, p, hp => by
    rw [cutB, List.mem_singleton] at hp
    rw [hp, ByteArray.size_extract]
    omega
  | n + 1, lo, i, p, hp => by
    rw [cutB] at hp
    split at hp
    · rcases List.mem_cons.1 hp with rfl | hp
      · rw [ByteArray.size_extract]; omega
      · exact cutB_sizes s c n _ _ p hp
    · exact cutB_sizes s c n _ _ p hp
theorem parts_sizes {s : ByteArray} {c : Int} {xs : List ByteArray} (h : partsB s c = xs) : ∀ p ∈ xs, p.size ≤ s.size := by
  rw [← h]
  exact cutB_sizes s c _ _ _
theorem parts_length {s : ByteArray} {c : Int} {xs : List ByteArray} (h : partsB s c = xs) : xs.length ≤ s.size + 1 := by
  rw [← h]
  exact cutB_length s c _ _ _
theorem one_lt (n : Nat) : decide ((1 : Int) < n) = (true && decide (1 < n)) := by
  rw [Bool.true_and]
  exact decide_eq_decide.2 (by omega)
theorem rd_mem {xs : List ByteArray} {x : Int} (h0 : 0 ≤ x) (hx : x < xs.length) : rdOf ByteArray.empty xs x ∈ xs := by
  have hi : x.toNat < xs.length := by omega
  rw [rdOf, List.getD_eq_getElem?_getD, List.getElem?_eq_getElem hi]
  exact List.getElem_mem hi
theorem list_all {f : ByteArray → Bool} {xs : List ByteArray} {x : Int} (h : ∀ y : Int, 0 ≤ y → y < x → f (rdOf ByteArray.empty xs y) = true) (hx : xs.length ≤ x) : xs.all f = true := by
  rw [List.all_eq_true]
  intro c hc
  obtain ⟨i, hi, rfl⟩ := List.getElem_of_mem hc
  have := h i (by omega) (by omega)
  rw [rdOf, Int.toNat_natCast, List.getD_eq_getElem?_getD, List.getElem?_eq_getElem hi] at this
  exact this
theorem list_not {f : ByteArray → Bool} {xs : List ByteArray} {x : Int} (h0 : 0 ≤ x) (hx : x < xs.length) (h : f (rdOf ByteArray.empty xs x) = false) : xs.all f = false := by
  rw [Bool.eq_false_iff]
  intro ha
  rw [List.all_eq_true.1 ha _ (rd_mem h0 hx)] at h
  cases h
theorem tail_all {f : ByteArray → Bool} {xs : List ByteArray} {x : Int} (h : ∀ y : Int, 1 ≤ y → y < x → f (rdOf ByteArray.empty xs y) = true) (hx : xs.length ≤ x) : xs.tail.all f = true := by
  cases xs with
  | nil => rfl
  | cons a l =>
    refine list_all (xs := l) (x := l.length) (fun y h0 h1 => ?_) (by omega)
    have := h (y + 1) (by omega) (by simp at hx; omega)
    rw [rdOf, show (y + 1).toNat = y.toNat + 1 by omega] at this
    exact this
theorem tail_not {f : ByteArray → Bool} {xs : List ByteArray} {x : Int} (h0 : 1 ≤ x) (hx : x < xs.length) (h : f (rdOf ByteArray.empty xs x) = false) : xs.tail.all f = false := by
  cases xs with
  | nil => simp at hx; omega
  | cons a l =>
    refine list_not (xs := l) (x := x - 1) (by omega) (by simp at hx; omega) ?_
    rw [rdOf, show x.toNat = (x - 1).toNat + 1 by omega] at h
    exact h
theorem upto_list {f : ByteArray → Bool} {xs : List ByteArray} {b x : Int} (h : ∀ y : Int, b ≤ y → y < x → f (rdOf ByteArray.empty xs y) = true) (hx : f (rdOf ByteArray.empty xs x) = true) : ∀ y : Int, b ≤ y → y < x + 1 → f (rdOf ByteArray.empty xs y) = true := fun y h0 h1 => by
  by_cases e : y = x
  · rw [e]; exact hx
  · exact h y h0 (by omega)
theorem head_nb {s : ByteArray} (h : 0 < s.size) : nb s = bt s 0 :: (nb s).tail := by
  have h' : 0 < (nb s).length := by rw [nb_length]; exact h
  rw [bt_nb]
  cases hn : nb s with
  | nil => rw [hn] at h'; exact absurd h' (Nat.lt_irrefl 0)
  | cons a l => rfl
theorem type_letter {s : ByteArray} (h : 0 < s.size) (hl : isLetter (bt s 0) = true) : isTypeP (nb s) = keysP (nb s) := by
  rw [head_nb h, isTypeP, if_pos hl]
theorem type_number {s : ByteArray} {xs : List ByteArray} (h : 0 < s.size) (hl : isLetter (bt s 0) = false) (hx : partsB s 46 = xs) : isTypeP (nb s) = (xs.all (fun p => numP (nb p)) && decide (1 < xs.length)) := by
  have e := partsB_nb s 46
  rw [hx] at e
  rw [head_nb h, isTypeP, if_neg (by rw [hl]; decide), ← head_nb h, ← e, List.all_map, List.length_map]
  rfl
theorem parts_ne {s : ByteArray} {c : Int} {xs : List ByteArray} (hx : partsB s c = xs) : 0 < xs.length := by
  have e := partsB_nb s c
  rw [hx] at e
  cases xs with
  | nil => exact absurd e.symm (splitI_ne c _)
  | cons a l => simp
theorem desc_parts {s : ByteArray} {xs : List ByteArray} (hx : partsB s 59 = xs) : isDescP (nb s) = (xs.tail.all (fun p => keysP (nb p)) && isTypeP (nb (rdOf ByteArray.empty xs 0))) := by
  have e := partsB_nb s 59
  have hn := parts_ne hx
  rw [hx] at e
  rw [isDescP, ← e]
  cases xs with
  | nil => exact absurd hn (Nat.lt_irrefl 0)
  | cons a l =>
    rw [List.map_cons, List.tail_cons, List.all_map]
    rfl

set_option maxRecDepth 100000 in
set_option maxHeartbeats 1000000 in
theorem isType_any (s : ByteArray) (w : World) (hs : s.size ≤ 4294967000) :
    Calls Tryd.prog 72 #[.string s] w fun e w' => e = .returned (.bool (isTypeP (nb s))) ∧ Below w.heap.size w w' := by
  by_cases h0 : s.size = 0
  · obtain rfl : s = ⟨#[]⟩ := empty_of_size h0
    go_enter Tryd.func72, Tryd.ntmps72
    go_wp2
    go_ret
    exact ⟨rfl, Below.refl _ _⟩
  have hpos : 0 < s.size := by omega
  have hne : s.toList.isEmpty = false := by rw [toList_empty, decide_eq_false h0]
  have hby : ∀ h : 0 < s.size, ((s[0]'h).toNat : Int) = bt s 0 := bt_at s 0
  obtain ⟨hc0, hc1⟩ := bt_range s 0
  have h5 : bt s 0 < 65 ∨ (65 ≤ bt s 0 ∧ bt s 0 ≤ 90) ∨ (90 < bt s 0 ∧ bt s 0 < 97) ∨ (97 ≤ bt s 0 ∧ bt s 0 ≤ 122) ∨ 122 < bt s 0 := by omega
  cases hb : isLetter (bt s 0) with
  | true =>
    have HT := Lib.hid (type_letter hpos hb)
    rw [isLetter_iff, decide_eq_true_eq] at hb
    rcases h5 with h | ⟨h, h'⟩ | ⟨h, h'⟩ | ⟨h, h'⟩ | h
    all_goals first
      | (exfalso; omega)
      | skip
    all_goals
      clear hb
      go_enter Tryd.func72, Tryd.ntmps72
      go_wp2_with (go_at_call 83; refine (keys_any _ _ hs).mono ?_; rintro e w1 ⟨rfl, hd⟩)
      go_ret
      exact ⟨by rw [HT.out]; rfl, hd.below⟩
  | false =>
    obtain ⟨xs, hxs⟩ : ∃ xs, partsB s 46 = xs := ⟨_, rfl⟩
    obtain ⟨n, hn⟩ : ∃ n, xs.length = n := ⟨_, rfl⟩
    have HT := Lib.hid (type_number hpos hb hxs)
    have hnl : n ≤ 4294967001 := by have := parts_length hxs; omega
    have HX := Lib.hid hxs
    have HN := Lib.hid hn
    rw [isLetter_iff, decide_eq_false_iff_not] at hb
    clear hxs hn
    rcases h5 with h | ⟨h, h'⟩ | ⟨h, h'⟩ | ⟨h, h'⟩ | h
    all_goals first
      | (exfalso; omega)
      | skip
    all_goals
      clear hb
      go_enter Tryd.func72, Tryd.ntmps72
      go_wp2_with (go_at_call 69; refine (parts_any _ _ _ hs (by decide) (by decide)).mono ?_; rw [HX.out]; rintro e w1 ⟨v, rfl, hR, hb1⟩; obtain ⟨A, c, rfl, hlc, hC⟩ := Kd.R_reads hR; rw [HN.out] at hC ⊢; have HC := Lib.hid hC; have HB := Lib.hid hb1; clear hR hlc hC hb1)
      go_loopw [4] (fun i wr => ∃ x : Int, i = .int .i64 x ∧ 0 ≤ x ∧ x ≤ n ∧ Hid (∀ y : Int, 0 ≤ y → y < x → numP (nb (rdOf ByteArray.empty xs y)) = true) ∧ Drawn0 w1 wr) (fun i _ => n - (intOf i).toNat)
      case atStart => exact ⟨0, rfl, Int.le_refl _, by omega, Lib.hid (fun y _ _ => by omega), Drawn0.refl _⟩
      case round =>
        obtain ⟨x, rfl, hx0, hx1, HA, ⟨m, rfl⟩⟩ := hrel
        by_cases hlt : x < n
        · obtain ⟨ad, e1, hcl⟩ := Kd.at_string HC.out x hx0 hlt
          cases e1
          have hsz : (rdOf ByteArray.empty xs x).size ≤ 4294967000 := Nat.le_trans (parts_sizes HX.out _ (rd_mem hx0 (by rw [HN.out]; exact hlt))) hs
          obtain ⟨b, hb⟩ : ∃ b, numP (nb (rdOf ByteArray.empty xs x)) = b := ⟨_, rfl⟩
          have HK := Lib.hid hb
          clear hb
          cases b
          · go_wp2_with (go_at_call 85; refine (number_any _ _ hsz).mono ?_; rw [HK.out]; rintro e w2 ⟨rfl, hd⟩)
            go_ret
            exact ⟨by rw [HT.out, list_not (f := fun p => numP (nb p)) hx0 (by rw [HN.out]; exact hlt) HK.out]; rfl, (HB.out.trans ((Drawn0.step (Drawn0.refl _) _).below.mono HB.out.size)).trans (hd.below.mono (by simp; exact HB.out.size))⟩
          · go_wp2_with (go_at_call 85; refine (number_any _ _ hsz).mono ?_; rw [HK.out]; rintro e w2 ⟨rfl, ⟨m2, rfl⟩⟩)
            go_roundw
            case rel => exact ⟨x + 1, by go_num, by omega, by omega, Lib.hid (upto_list (f := fun p => numP (nb p)) HA.out HK.out), Drawn0.step (Drawn0.refl _) _⟩
            case measure => simp [intOf]; omega
        · go_wp2
          go_ret
          exact ⟨by rw [HT.out, list_all (f := fun p => numP (nb p)) HA.out (by rw [HN.out]; omega), HN.out]; exact congrArg (fun b => Ending.returned (.bool b)) (one_lt n), HB.out.trans ((Drawn0.step (Drawn0.refl _) _).below.mono HB.out.size)⟩
end Go.Proofs.YtdonopoijbokiaaDoor

/-! ### IsDesc -/
namespace Go.Proofs.YtdonopoijbokiaaDoor
open Go.RowKit Go.Proofs.YtdonopoijbokiaaDoorW.PrintWords

set_option maxRecDepth 100000 in
set_option maxHeartbeats 1000000 in
theorem isDesc_any (s : ByteArray) (w : World) (hs : s.size ≤ 4294967000) :
    Calls Tryd.prog 67 #[.string s] w fun e w' => e = .returned (.bool (isDescP (nb s))) ∧ Below w.heap.size w w' := by
  obtain ⟨xs, hxs⟩ : ∃ xs, partsB s 59 = xs := ⟨_, rfl⟩
  obtain ⟨n, hn⟩ : ∃ n, xs.length = n := ⟨_, rfl⟩
  have HT := Lib.hid (desc_parts hxs)
  have hnl : n ≤ 4294967001 := by have := parts_length hxs; omega
  have hn0 : 0 < n := by have := parts_ne hxs; omega
  have HX := Lib.hid hxs
  have HN := Lib.hid hn
  clear hxs hn
  have hsz : ∀ x : Int, 0 ≤ x → x < n → (rdOf ByteArray.empty xs x).size ≤ 4294967000 := fun x h0 hx => Nat.le_trans (parts_sizes HX.out _ (rd_mem h0 (by rw [HN.out]; exact hx))) hs
  go_enter Tryd.func67, Tryd.ntmps67
  go_wp2_with (go_at_call 69; refine (parts_any _ _ _ hs (by decide) (by decide)).mono ?_; rw [HX.out]; rintro e w1 ⟨v, rfl, hR, hb1⟩; obtain ⟨A, c, rfl, hlc, hC⟩ := Kd.R_reads hR; rw [HN.out] at hC ⊢; have HC := Lib.hid hC; have HB := Lib.hid hb1; clear hR hlc hC hb1)
  go_loopw [4] (fun i wr => ∃ x : Int, i = .int .i64 x ∧ 1 ≤ x ∧ x ≤ n ∧ Hid (∀ y : Int, 1 ≤ y → y < x → keysP (nb (rdOf ByteArray.empty xs y)) = true) ∧ Drawn0 w1 wr) (fun i _ => n - (intOf i).toNat)
  case atStart => exact ⟨1, rfl, Int.le_refl _, by omega, Lib.hid (fun y _ _ => by omega), Drawn0.refl _⟩
  case round =>
    obtain ⟨x, rfl, hx0, hx1, HA, ⟨m, rfl⟩⟩ := hrel
    by_cases hlt : x < n
    · obtain ⟨ad, e1, hcl⟩ := Kd.at_string HC.out x (by omega) hlt
      cases e1
      have hsx := hsz x (by omega) hlt
      obtain ⟨b, hb⟩ : ∃ b, keysP (nb (rdOf ByteArray.empty xs x)) = b := ⟨_, rfl⟩
      have HK := Lib.hid hb
      clear hb hsz
      cases b
      · go_wp2_with (go_at_call 83; refine (keys_any _ _ hsx).mono ?_; rw [HK.out]; rintro e w2 ⟨rfl, hd⟩)
        go_ret
        exact ⟨by rw [HT.out, tail_not (f := fun p => keysP (nb p)) hx0 (by rw [HN.out]; exact hlt) HK.out]; rfl, (HB.out.trans ((Drawn0.step (Drawn0.refl _) _).below.mono HB.out.size)).trans (hd.below.mono (by simp; exact HB.out.size))⟩
      · go_wp2_with (go_at_call 83; refine (keys_any _ _ hsx).mono ?_; rw [HK.out]; rintro e w2 ⟨rfl, ⟨m2, rfl⟩⟩)
        go_roundw
        case rel => exact ⟨x + 1, by go_num, by omega, by omega, Lib.hid (upto_list (f := fun p => keysP (nb p)) HA.out HK.out), Drawn0.step (Drawn0.refl _) _⟩
        case measure => simp [intOf]; omega
    · obtain ⟨ad, e1, hcl⟩ := Kd.at_string HC.out 0 (by omega) (by omega)
      cases e1
      have hcl0 : w1.cell? ad = some (.string (rdOf ByteArray.empty xs 0)) := hcl
      have hs0 := hsz 0 (by omega) (by omega)
      clear hsz hcl
      go_wp2_with (go_at_call 72; refine (isType_any _ _ hs0).mono ?_; rintro e w2 ⟨rfl, hb2⟩)
      go_ret
      exact ⟨by rw [HT.out, tail_all (f := fun p => keysP (nb p)) HA.out (by rw [HN.out]; omega), Bool.true_and]; rfl, (HB.out.trans ((Drawn0.step (Drawn0.refl _) _).below.mono HB.out.size)).trans (hb2.mono (by simp; exact HB.out.size))⟩
end Go.Proofs.YtdonopoijbokiaaDoor

/-! ### Goes -/
namespace Go.Proofs.YtdonopoijbokiaaDoor
open Go.RowKit Go.Proofs.YtdonopoijbokiaaDoorW.PrintWords

theorem nb_append (s t : ByteArray) : nb (s ++ t) = nb s ++ nb t := by
  have e : (s ++ t).data.toList = s.data.toList ++ t.data.toList := by simp [ByteArray.data_append]
  unfold nb
  rw [e, List.map_append]
def endsC : Array Value := #[.string ⟨#[]⟩, .string ⟨#[97]⟩, .string ⟨#[49]⟩, .string ⟨#[46, 49]⟩]
theorem ends_at {w : World} {B : Nat} {t : TypeId} (h : w.heap[B]? = some (.cells endsC t (0, 0))) (k : Nat) (hk : k < 4) : ∃ e : ByteArray, w.cell? ⟨B, k, none⟩ = some (.string e) ∧ nb e = endsL.getD k [] ∧ e.size ≤ 2 := by
  have : k = 0 ∨ k = 1 ∨ k = 2 ∨ k = 3 := by omega
  rcases this with rfl | rfl | rfl | rfl
  · exact ⟨⟨#[]⟩, cell_of_row _ _ _ _ _ _ h, rfl, by decide⟩
  · exact ⟨⟨#[97]⟩, cell_of_row _ _ _ _ _ _ h, rfl, by decide⟩
  · exact ⟨⟨#[49]⟩, cell_of_row _ _ _ _ _ _ h, rfl, by decide⟩
  · exact ⟨⟨#[46, 49]⟩, cell_of_row _ _ _ _ _ _ h, rfl, by decide⟩
theorem upto_nat {P : Nat → Prop} {k : Nat} (h : ∀ j, j < k → P j) (hk : P k) : ∀ j, j < k + 1 → P j := fun j hj => by
  by_cases e : j = k
  · rw [e]; exact hk
  · exact h j (by omega)
theorem goes_yes {l : List Int} {b : Bool} {k : Nat} (hk : k < 4) (h : acc b begins (l ++ endsL.getD k []) = true) : goesL b l = true := by
  have : k = 0 ∨ k = 1 ∨ k = 2 ∨ k = 3 := by omega
  unfold goesL
  rcases this with rfl | rfl | rfl | rfl <;> simp_all [endsL]
theorem goes_no {l : List Int} {b : Bool} (h : ∀ j, j < 4 → acc b begins (l ++ endsL.getD j []) = false) : goesL b l = false := by
  have h0 := h 0 (by omega)
  have h1 := h 1 (by omega)
  have h2 := h 2 (by omega)
  have h3 := h 3 (by omega)
  unfold goesL
  simp_all [endsL]

set_option maxRecDepth 100000 in
set_option maxHeartbeats 1000000 in
theorem goes_any (s : ByteArray) (alone : Bool) (w : World) (hs : s.size ≤ 4294966000) :
    Calls Tryd.prog 84 #[.string s, .bool alone] w fun e w' => e = .returned (.bool (goesL alone (nb s))) ∧ Below w.heap.size w w' := by
  go_enter Tryd.func84, Tryd.ntmps84
  go_wp2
  go_loopw [6] (fun i wr => ∃ k : Nat, i = .int .i64 k ∧ k ≤ 4 ∧ Hid (∀ j, j < k → acc alone begins (nb s ++ endsL.getD j []) = false) ∧ Hid (wr.heap[w.heap.size]? = some (.cells endsC 71 (0, 0))) ∧ Hid (Below w.heap.size w wr) ∧ w.heap.size < wr.heap.size) (fun i _ => 4 - (intOf i).toNat)
  case atStart => exact ⟨0, rfl, by omega, Lib.hid (fun j hj => by omega), Lib.hid (heap_alloc_new w _), Lib.hid ((Below.refl _ w).alloc (Nat.le_refl _) _), by simp⟩
  case round =>
    obtain ⟨k, rfl, hk, HA, HE, HB, hlt⟩ := hrel
    by_cases hk4 : k < 4
    · obtain ⟨ee, hc, hne, hse⟩ := ends_at HE.out k hk4
      have hst : (s ++ ee).size ≤ 4294967000 := by rw [ByteArray.size_append]; omega
      obtain ⟨b, hb⟩ : ∃ b, acc alone begins (nb s ++ endsL.getD k []) = b := ⟨_, rfl⟩
      have hb' := hb
      rw [← hne, ← nb_append] at hb'
      have HB' := Lib.hid hb
      clear hb hne
      cases alone
      · rw [acc_desc] at hb'
        have HK := Lib.hid hb'
        clear hb'
        cases b
        · go_wp2_with (go_at_call 67; refine (isDesc_any _ _ hst).mono ?_; rw [HK.out]; rintro e w2 ⟨rfl, hb2⟩)
          go_roundw
          case rel => exact ⟨k + 1, by go_num, by omega, Lib.hid (upto_nat (P := fun j => acc _ begins (nb s ++ endsL.getD j []) = false) HA.out HB'.out), Lib.hid ((hb2.block _ hlt).trans HE.out), Lib.hid (HB.out.trans (hb2.mono HB.out.size)), Nat.lt_of_lt_of_le hlt hb2.size⟩
          case measure => simp [intOf]; omega
        · go_wp2_with (go_at_call 67; refine (isDesc_any _ _ hst).mono ?_; rw [HK.out]; rintro e w2 ⟨rfl, hb2⟩)
          go_ret
          exact ⟨by rw [goes_yes hk4 HB'.out]; rfl, HB.out.trans (hb2.mono HB.out.size)⟩
      · rw [acc_type] at hb'
        have HK := Lib.hid hb'
        clear hb'
        cases b
        · go_wp2_with (go_at_call 72; refine (isType_any _ _ hst).mono ?_; rw [HK.out]; rintro e w2 ⟨rfl, hb2⟩)
          go_roundw
          case rel => exact ⟨k + 1, by go_num, by omega, Lib.hid (upto_nat (P := fun j => acc _ begins (nb s ++ endsL.getD j []) = false) HA.out HB'.out), Lib.hid ((hb2.block _ hlt).trans HE.out), Lib.hid (HB.out.trans (hb2.mono HB.out.size)), Nat.lt_of_lt_of_le hlt hb2.size⟩
          case measure => simp [intOf]; omega
        · go_wp2_with (go_at_call 72; refine (isType_any _ _ hst).mono ?_; rw [HK.out]; rintro e w2 ⟨rfl, hb2⟩)
          go_ret
          exact ⟨by rw [goes_yes hk4 HB'.out]; rfl, HB.out.trans (hb2.mono HB.out.size)⟩
    · obtain rfl : k = 4 := by omega
      go_wp2
      go_ret
      exact ⟨by rw [goes_no HA.out]; rfl, HB.out⟩
end Go.Proofs.YtdonopoijbokiaaDoor

/-! ### Place -/
namespace Go.Proofs.YtdonopoijbokiaaDoor
open Go.RowKit Go.Proofs.YtdonopoijbokiaaDoorW.PrintWords

theorem place_at {s : ByteArray} {b : Bool} {p : Int} {k : Nat} (hp : (((scanL b (nb s)).2 : Nat) : Int) = p) (hk : k ≤ s.size) : goesL b (nb (s.extract 0 k)) = decide ((k : Int) ≤ p) := by
  rw [nb_extract, List.drop_zero, Nat.sub_zero, goes_place _ _ _ (by rw [nb_length]; exact hk), ← hp]
  exact decide_eq_decide.2 (by omega)

set_option maxRecDepth 100000 in
set_option maxHeartbeats 1000000 in
theorem place_any (s : ByteArray) (alone : Bool) (w : World) (hs : s.size ≤ 4294966000) :
    Calls Tryd.prog 68 #[.string s, .bool alone] w fun e w' => e = .returned (.int .i64 (scanL alone (nb s)).2) ∧ Below w.heap.size w w' := by
  obtain ⟨p, hp⟩ : ∃ p : Int, (((scanL alone (nb s)).2 : Nat) : Int) = p := ⟨_, rfl⟩
  have hp0 : 0 ≤ p := by omega
  have hp1 : p ≤ s.size := by have := scanL_le alone (nb s); rw [nb_length] at this; omega
  have HP := Lib.hid hp
  rw [hp]
  clear hp
  go_enter Tryd.func68, Tryd.ntmps68
  go_wp2
  go_loopw [5, 6] (fun lo hi wr => ∃ x y : Int, lo = .int .i64 x ∧ hi = .int .i64 y ∧ 0 ≤ x ∧ x ≤ p ∧ p ≤ y ∧ y ≤ s.size ∧ Hid (Below w.heap.size w wr)) (fun lo hi _ => (intOf hi).toNat - (intOf lo).toNat)
  case atStart => exact ⟨0, s.size, rfl, rfl, by omega, hp0, hp1, by omega, Lib.hid (Below.refl _ _)⟩
  case round =>
    obtain ⟨x, y, rfl, rfl, hx0, hxp, hpy, hy, HB⟩ := hrel
    by_cases hlt : x < y
    · obtain ⟨mid, hm⟩ : ∃ mid, (x + y + 1) / 2 = mid := ⟨_, rfl⟩
      have hm0 : x < mid ∧ mid ≤ y := by omega
      obtain ⟨k, rfl⟩ : ∃ k : Nat, mid = k := ⟨mid.toNat, by omega⟩
      have hk : k ≤ s.size := by omega
      have hsk : (s.extract 0 k).size ≤ 4294966000 := by rw [ByteArray.size_extract]; omega
      have HG := Lib.hid (place_at HP.out hk)
      by_cases hkp : (k : Int) ≤ p
      · rw [decide_eq_true hkp] at HG
        go_wp2_with (go_at_call 84; refine (goes_any _ _ _ hsk).mono ?_; rw [HG.out]; rintro e w2 ⟨rfl, hb2⟩)
        go_roundw
        case rel => exact ⟨k, y, rfl, rfl, by omega, hkp, hpy, hy, Lib.hid (HB.out.trans (hb2.mono HB.out.size))⟩
        case measure => simp [intOf]; omega
      · rw [decide_eq_false hkp] at HG
        go_wp2_with (go_at_call 84; refine (goes_any _ _ _ hsk).mono ?_; rw [HG.out]; rintro e w2 ⟨rfl, hb2⟩)
        go_roundw
        case rel => exact ⟨x, k - 1, rfl, by go_num, by omega, hxp, by omega, by omega, Lib.hid (HB.out.trans (hb2.mono HB.out.size))⟩
        case measure => simp [intOf]; omega
    · obtain rfl : x = p := by omega
      go_wp2
      go_ret
      exact ⟨rfl, HB.out⟩
end Go.Proofs.YtdonopoijbokiaaDoor
