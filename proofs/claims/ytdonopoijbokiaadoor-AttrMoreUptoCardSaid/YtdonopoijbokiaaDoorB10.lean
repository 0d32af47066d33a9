/- How long a description's canonical text can be. attr.Canonical and rosterref04.Canonical: what they answer. -/
import Derived.Test.YtdonopoijbokiaaDoorB7
import Derived.Test.YtdonopoijbokiaaDoorB1
import Derived.Test.YtdonopoijbokiaaDoorB9
import Derived.Test.YtdonopoijbokiaaDoorB4
import Derived.Test.YtdonopoijbokiaaDoorB8
set_option linter.unusedVariables false
set_option linter.unusedSimpArgs false

/-! ### Sizes -/
namespace Go.Proofs.YtdonopoijbokiaaDoor
open Go.RowKit Go.Proofs.YtdonopoijbokiaaDoorW.PrintWords

def totU (l : List (List UInt8)) : Nat := (l.map fun x => x.length + 1).sum
theorem totU_ins (x : List UInt8) : ∀ l : List (List UInt8), totU (insU x l) ≤ x.length + 1 + totU l
  | [] => by simp [insU, totU]
  | y :: l => by
    unfold insU
    split
    · simp [totU]
    · split
      · simp [totU]
      · have := totU_ins x l
        simp only [totU, List.map_cons, List.sum_cons] at *
        omega
theorem totU_opts : ∀ l : List (List UInt8), totU (optsU l) ≤ totU l
  | [] => by simp [optsU]
  | y :: l => by
    have h1 := totU_ins y (optsU l)
    have h2 := totU_opts l
    show totU (insU y (optsU l)) ≤ _
    simp only [totU, List.map_cons, List.sum_cons] at *
    omega
theorem splitI_tot (c : Int) : ∀ l : List Int, ((splitI c l).map fun x => x.length + 1).sum = l.length + 1
  | [] => by simp [splitI]
  | x :: l => by
    have ih := splitI_tot c l
    unfold splitI
    split
    · simp only [List.map_cons, List.sum_cons, List.length_nil, List.length_cons]
      omega
    · cases h : splitI c l with
      | nil => rw [h] at ih; simp at ih
      | cons a r =>
        rw [h] at ih
        simp only [List.map_cons, List.sum_cons, List.length_cons, List.headD_cons, List.tail_cons] at *
        omega
theorem parts_tot (s : ByteArray) (c : Int) : ((partsB s c).map fun p => p.size + 1).sum = s.size + 1 := by
  have h := splitI_tot c (nb s)
  rw [← partsB_nb, List.map_map, nb_length] at h
  rw [← h]
  congr 1
  refine List.map_congr_left fun p _ => ?_
  simp [nb_length]
theorem optTexts_tot (xs : List ByteArray) : totU (optTexts xs) ≤ (xs.map fun p => p.size + 1).sum := by
  cases xs with
  | nil => simp [optTexts, totU]
  | cons a l =>
    have : totU (optTexts (a :: l)) = (l.map fun p => p.size + 1).sum := by
      simp only [optTexts, List.tail_cons, totU, List.map_map]
      congr 1
      refine List.map_congr_left fun p _ => ?_
      show (foldB p).data.toList.length + 1 = _
      rw [show (foldB p).data.toList.length = (foldB p).size from Array.length_toList, foldB_size]
    rw [this, List.map_cons, List.sum_cons]
    omega
theorem printL_tot (t : ByteArray) (l : List (List UInt8)) : (printL t (l.map mkB)).length = t.size + totU l := by
  rw [printL, List.length_append, show t.data.toList.length = t.size from Array.length_toList]
  congr 1
  induction l with
  | nil => rfl
  | cons a l ih =>
    simp only [List.map_cons, List.flatMap_cons, List.length_append, List.length_cons, totU, List.sum_cons] at *
    rw [ih]
    have : (mkB a).data.toList = a := by simp [mkB]
    rw [this]
/-- The canonical text. -/
noncomputable def canonText (s : ByteArray) : ByteArray := printB (typeB s) (optB s)
theorem printL_room (s : ByteArray) : (printL (typeB s) (optB s)).length ≤ 2 * s.size + 31 := by
  have h0 : optB s = (optsU (optTexts (partsB s 59))).map mkB := rfl
  rw [h0, printL_tot]
  have h1 := typeB_size s
  have h2 := totU_opts (optTexts (partsB s 59))
  have h3 := optTexts_tot (partsB s 59)
  rw [parts_tot] at h3
  omega
theorem canonText_size (s : ByteArray) : (canonText s).size ≤ 2 * s.size + 31 := by
  have := printL_room s
  have e : (canonText s).size = (printL (typeB s) (optB s)).length := by
    show (printL (typeB s) (optB s)).toArray.size = _
    simp
  omega
theorem optB_length (s : ByteArray) : (optB s).length ≤ s.size + 1 := by
  have h0 : optB s = (optsU (optTexts (partsB s 59))).map mkB := rfl
  rw [h0, List.length_map]
  have h1 := optsU_length (optTexts (partsB s 59))
  have h2 := parts_length (s := s) (c := 59) rfl
  have h3 : (optTexts (partsB s 59)).length = (partsB s 59).length - 1 := by rw [optTexts, List.length_map, List.length_tail]
  omega
theorem supersB_length (s : ByteArray) : (supersB s).length ≤ 63 := by
  unfold supersB
  split
  · simp
  · exact supersF_length _ _
end Go.Proofs.YtdonopoijbokiaaDoor

/-! ### Canonical -/
namespace Go.Proofs.YtdonopoijbokiaaDoor
open Go.RowKit Go.Proofs.YtdonopoijbokiaaDoorW.PrintWords

set_option maxRecDepth 100000 in
set_option maxHeartbeats 1000000 in
theorem canonical_ok (s : ByteArray) (w : World) (hs : s.size ≤ 1073741824) (hM : MaxAt w) (hok : acc false begins (nb s) = true) :
    Calls Tryd.prog 38 #[.string s] w fun e w' => e = .returned (.tuple #[.string (canonText s), .int .i64 0, .int .i64 s.size]) ∧ Below w.heap.size w w' := by
  have HR := Lib.hid (printL_room s)
  have hpk := fun w hM => parse_ok s w (by omega) hM hok
  have hpr := fun A c w hC => print_any (typeB s) A c (optB s).length (optB s) w rfl hC (by have := HR.out; omega)
  have hct : printB (typeB s) (optB s) = canonText s := rfl
  rw [hct] at hpr
  obtain ⟨os, hos⟩ : ∃ os, optB s = os := ⟨_, rfl⟩
  obtain ⟨tb, htb⟩ : ∃ tb, typeB s = tb := ⟨_, rfl⟩
  obtain ⟨ct, hcc⟩ : ∃ ct, canonText s = ct := ⟨_, rfl⟩
  rw [hos, htb] at hpk hpr
  rw [hcc] at hpr ⊢
  clear hok hct hos htb hcc HR
  go_enter Tryd.func38, Tryd.ntmps38
  go_wp2_with (first
    | (go_at_call 39; refine (hpr A1 c1 _ (Kd.C_below HC1.out ((Below.refl _ w1).alloc (Nat.le_refl _) _))).mono ?_; rintro e w2 ⟨rfl, hb2⟩)
    | (go_at_call 22; refine (hpk _ hM).mono ?_; rintro e w1 ⟨A1, c1, rfl, hR1, hb1⟩; have HC1 := Lib.hid (C_of_R hR1); clear hR1))
  go_ret3
  exact ⟨rfl, (hb1.alloc hb1.size _).trans (hb2.mono (by have := hb1.size; simp; omega))⟩
set_option maxRecDepth 100000 in
set_option maxHeartbeats 1000000 in
theorem canonical_no (s : ByteArray) (w : World) (hs : s.size ≤ 1073741824) (hok : acc false begins (nb s) = false) :
    Calls Tryd.prog 38 #[.string s] w fun e w' => e = .returned (.tuple #[.string ⟨#[]⟩, .int .i64 40, .int .i64 (scanL false (nb s)).2]) ∧ Below w.heap.size w w' := by
  have hpk := fun w => parse_no s w (by omega) hok
  go_enter Tryd.func38, Tryd.ntmps38
  go_wp2_with (go_at_call 22; refine (hpk _).mono ?_; rintro e w1 ⟨rfl, hb1⟩)
  go_ret3
  exact ⟨rfl, hb1.alloc hb1.size _⟩
set_option maxRecDepth 100000 in
set_option maxHeartbeats 1000000 in
theorem refCanonical_ok (s : ByteArray) (w : World) (hs : s.size ≤ 1073741824) (hok : acc false begins (nb s) = true) :
    Calls Tryd.prog 58 #[.string s] w fun e w' => e = .returned (.tuple #[.string (canonText s), .int .i64 0, .int .i64 s.size]) ∧ Below w.heap.size w w' := by
  have HR := Lib.hid (printL_room s)
  have hpk := fun w => refParse_ok s w (by omega) hok
  have hpr := fun A c w hC => refPrint_any (typeB s) A c (optB s).length (optB s) w rfl hC (by have := HR.out; omega)
  have hct : printB (typeB s) (optB s) = canonText s := rfl
  rw [hct] at hpr
  obtain ⟨os, hos⟩ : ∃ os, optB s = os := ⟨_, rfl⟩
  obtain ⟨tb, htb⟩ : ∃ tb, typeB s = tb := ⟨_, rfl⟩
  obtain ⟨ct, hcc⟩ : ∃ ct, canonText s = ct := ⟨_, rfl⟩
  rw [hos, htb] at hpk hpr
  rw [hcc] at hpr ⊢
  clear hok hct hos htb hcc HR
  go_enter Tryd.func58, Tryd.ntmps58
  go_wp2_with (first
    | (go_at_call 73; refine (hpr A1 c1 _ (Kd.C_below HC1.out ((Below.refl _ w1).alloc (Nat.le_refl _) _))).mono ?_; rintro e w2 ⟨rfl, hb2⟩)
    | (go_at_call 51; refine (hpk _).mono ?_; rintro e w1 ⟨A1, c1, rfl, hC1, hb1⟩; have HC1 := Lib.hid hC1; clear hC1))
  go_ret3
  exact ⟨rfl, (hb1.alloc hb1.size _).trans (hb2.mono (by have := hb1.size; simp; omega))⟩
set_option maxRecDepth 100000 in
set_option maxHeartbeats 1000000 in
theorem refCanonical_no (s : ByteArray) (w : World) (hs : s.size ≤ 1073741824) (hok : acc false begins (nb s) = false) :
    Calls Tryd.prog 58 #[.string s] w fun e w' => e = .returned (.tuple #[.string ⟨#[]⟩, .int .i64 40, .int .i64 (scanL false (nb s)).2]) ∧ Below w.heap.size w w' := by
  have hpk := fun w => refParse_no s w (by omega) hok
  go_enter Tryd.func58, Tryd.ntmps58
  go_wp2_with (go_at_call 51; refine (hpk _).mono ?_; rintro e w1 ⟨rfl, hb1⟩)
  go_ret3
  exact ⟨rfl, hb1.alloc hb1.size _⟩
end Go.Proofs.YtdonopoijbokiaaDoor
