/- What is printed is read back: the canonical text's type and options; which descriptions cover which. -/
import Derived.Test.YtdonopoijbokiaaDoorB12
set_option linter.unusedVariables false
set_option linter.unusedSimpArgs false
namespace Go.Proofs.YtdonopoijbokiaaDoor
open Go.RowKit Go.Proofs.YtdonopoijbokiaaDoorW.PrintWords

theorem isLetter_low (c : Int) : isLetter (lowI c) = isLetter c := by
  rw [isLetter_iff, isLetter_iff]
  exact decide_eq_decide.2 (by unfold lowI; split <;> omega)
theorem isDigit_low (c : Int) : isDigit (lowI c) = isDigit c := by
  rw [isDigit_iff, isDigit_iff]
  exact decide_eq_decide.2 (by unfold lowI; split <;> omega)
theorem isKey_low (c : Int) : isKey (lowI c) = isKey c := by
  rw [isKey_iff, isKey_iff]
  exact decide_eq_decide.2 (by unfold lowI; split <;> omega)
theorem low_is {c k : Int} (hk : k = 59 ∨ k = 48 ∨ k = 46) : (lowI c = k) = (c = k) := propext (by unfold lowI; split <;> omega)
theorem next_low (r : St) (c : Int) : r.next (lowI c) = r.next c := by
  unfold St.next
  rw [isLetter_low, isDigit_low, isKey_low]
  simp only [low_is (c := c) (.inl rfl), low_is (c := c) (.inr (.inl rfl)), low_is (c := c) (.inr (.inr rfl))]
theorem step_low (b : Bool) (r : St) (c : Int) : r.step b (lowI c) = r.step b c := by
  unfold St.step
  rw [next_low]
  simp only [low_is (c := c) (.inl rfl)]
theorem run_low (b : Bool) : ∀ (l : List Int) (r : St), runSt b r (l.map lowI) = runSt b r l
  | [], r => rfl
  | c :: l, r => by
    simp only [List.map_cons, runSt, step_low]
    cases r.step b c with
    | none => rfl
    | some r' => exact run_low b l r'
theorem acc_low (b : Bool) (l : List Int) (r : St) : acc b r (l.map lowI) = acc b r l := by unfold acc; rw [run_low]
theorem run_bare : ∀ (l : List Int) (r : St), (runSt true r l).isSome = true → ∀ x ∈ l, x ≠ 59
  | [], r, _ => fun x hx => by cases hx
  | c :: l, r, h => by
    simp only [runSt] at h
    by_cases e : c = 59
    · subst e
      have : r.step true 59 = none := by unfold St.step; rw [if_pos ⟨rfl, rfl⟩]
      rw [this] at h
      cases h
    · cases hs : r.step true c with
      | none => rw [hs] at h; cases h
      | some r' =>
        rw [hs] at h
        intro x hx
        rcases List.mem_cons.1 hx with rfl | hx
        · exact e
        · exact run_bare l r' h x hx
theorem type_nosemi {l : List Int} (h : isTypeP l = true) : ∀ x ∈ l, x ≠ 59 := by
  rw [← acc_type] at h
  refine run_bare l begins ?_
  unfold acc at h
  cases hr : runSt true begins l with
  | none => rw [hr] at h; cases h
  | some r => rfl
theorem keys_nosemi {l : List Int} (h : keysP l = true) : ∀ x ∈ l, x ≠ 59 := fun x hx e => by
  rw [keysP, Bool.and_eq_true] at h
  have := List.all_eq_true.1 h.1 x hx
  rw [e] at this
  revert this
  decide
theorem keys_low (o : ByteArray) : keysP (nb (foldB o)) = keysP (nb o) := by
  rw [nb_fold, keysP, keysP, List.all_map]
  have h1 : (isKey ∘ lowI) = isKey := funext isKey_low
  rw [h1]
  cases nb o <;> rfl
theorem names_types : (List.range 62).all (fun i => isTypeP (nb (nameAt i 0)) && decide (rowR (nameAt i 0) = i)) = true := by kernel_rfl
theorem name_type {i : Nat} (h : i < 62) : isTypeP (nb (nameAt i 0)) = true ∧ rowR (nameAt i 0) = i := by
  have := List.all_eq_true.1 names_types i (List.mem_range.2 h)
  simp only [Bool.and_eq_true, decide_eq_true_eq] at this
  exact this
theorem rowR_fold (p : ByteArray) : rowR (foldB p) = rowR p := by unfold rowR; rw [fold_twice]
theorem rowR_canon (p : ByteArray) : rowR (canonB p) = rowR p := by
  rcases rowR_range p with hr | ⟨h0, h62⟩
  · rw [canonB, if_pos hr, rowR_fold]
  · rw [canonB, if_neg (by omega), (name_type (by omega)).2]
    omega
theorem canon_canon (p : ByteArray) : canonB (canonB p) = canonB p := by
  rcases rowR_range p with hr | ⟨h0, h62⟩
  · have h1 : canonB p = foldB p := by rw [canonB, if_pos hr]
    have h2 : rowR (canonB p) < 0 := by rw [rowR_canon]; exact hr
    rw [canonB, if_pos h2, h1, fold_twice]
  · have h2 : ¬ rowR (canonB p) < 0 := by rw [rowR_canon]; omega
    rw [canonB, if_neg h2, rowR_canon]
    conv => rhs; rw [canonB, if_neg (by omega)]
theorem canon_type_ok {p : ByteArray} (h : isTypeP (nb p) = true) : isTypeP (nb (canonB p)) = true := by
  rcases rowR_range p with hr | ⟨h0, h62⟩
  · rw [canonB, if_pos hr, nb_fold, ← acc_type, acc_low, acc_type]
    exact h
  · rw [canonB, if_neg (by omega)]
    exact (name_type (by omega)).1

/-! ### Parts of what is printed -/
theorem splitI_alone {c : Int} : ∀ {l : List Int}, (∀ x ∈ l, x ≠ c) → splitI c l = [l]
  | [], _ => rfl
  | x :: l, h => by
    rw [splitI, if_neg (h x (List.mem_cons_self ..)), splitI_alone fun y hy => h y (List.mem_cons_of_mem _ hy)]
    rfl
theorem splitI_join {c : Int} (r : List Int) : ∀ {l : List Int}, (∀ x ∈ l, x ≠ c) → splitI c (l ++ c :: r) = l :: splitI c r
  | [], _ => by rw [List.nil_append, splitI, if_pos rfl]
  | x :: l, h => by
    rw [List.cons_append, splitI, if_neg (h x (List.mem_cons_self ..)), splitI_join r fun y hy => h y (List.mem_cons_of_mem _ hy)]
    rfl
theorem splitI_print {c : Int} : ∀ {os : List (List Int)} {l : List Int}, (∀ x ∈ l, x ≠ c) → (∀ o ∈ os, ∀ x ∈ o, x ≠ c) → splitI c (l ++ os.flatMap fun o => c :: o) = l :: os
  | [], l, h, _ => by rw [List.flatMap_nil, List.append_nil, splitI_alone h]
  | o :: os, l, h, ho => by
    rw [List.flatMap_cons, List.cons_append, splitI_join _ h, splitI_print (ho o (List.mem_cons_self ..)) fun p hp => ho p (List.mem_cons_of_mem _ hp)]
theorem nb_print (t : ByteArray) (os : List ByteArray) : nb (printB t os) = nb t ++ (os.map nb).flatMap fun o => 59 :: o := by
  have h : ∀ l : List ByteArray, (l.flatMap fun o => (59 : UInt8) :: o.data.toList).map (fun b : UInt8 => (b.toNat : Int)) = (l.map nb).flatMap fun o => 59 :: o := by
    intro l
    induction l with
    | nil => rfl
    | cons a l ih =>
      simp only [List.flatMap_cons, List.map_cons, List.map_append, ih]
      rfl
  show (printL t os).toArray.toList.map _ = _
  rw [List.toList_toArray, printL, List.map_append, h]
  rfl
theorem mem_optB {o s : ByteArray} : o ∈ optB s ↔ ∃ p ∈ (partsB s 59).tail, o = foldB p := by
  have h0 : optB s = (optsU (optTexts (partsB s 59))).map mkB := rfl
  rw [h0, List.mem_map]
  constructor
  · rintro ⟨l, hl, rfl⟩
    rw [mem_optsU, optTexts, List.mem_map] at hl
    obtain ⟨p, hp, rfl⟩ := hl
    exact ⟨p, hp, rfl⟩
  · rintro ⟨p, hp, rfl⟩
    refine ⟨(foldB p).data.toList, ?_, rfl⟩
    rw [mem_optsU, optTexts, List.mem_map]
    exact ⟨p, hp, rfl⟩
theorem opt_folded {o s : ByteArray} (h : o ∈ optB s) : foldB o = o := by
  obtain ⟨p, _, rfl⟩ := mem_optB.1 h
  exact fold_twice p
theorem desc_split {s : ByteArray} (hok : acc false begins (nb s) = true) : (∀ p ∈ (partsB s 59).tail, keysP (nb p) = true) ∧ isTypeP (nb (rdOf ByteArray.empty (partsB s 59) 0)) = true := by
  rw [acc_desc, desc_parts (xs := partsB s 59) rfl, Bool.and_eq_true] at hok
  exact ⟨fun p hp => List.all_eq_true.1 hok.1 p hp, hok.2⟩
theorem opt_keys {o s : ByteArray} (hok : acc false begins (nb s) = true) (h : o ∈ optB s) : keysP (nb o) = true := by
  obtain ⟨p, hp, rfl⟩ := mem_optB.1 h
  rw [keys_low]
  exact (desc_split hok).1 p hp
theorem typeB_ok {s : ByteArray} (hok : acc false begins (nb s) = true) : isTypeP (nb (typeB s)) = true := canon_type_ok (desc_split hok).2
theorem parts_canon {s : ByteArray} (hok : acc false begins (nb s) = true) : partsB (canonText s) 59 = typeB s :: optB s := by
  refine nbs_inj ?_
  rw [partsB_nb, canonText, nb_print, splitI_print (type_nosemi (typeB_ok hok))]
  · rfl
  · intro o ho
    obtain ⟨p, hp, rfl⟩ := List.mem_map.1 ho
    exact keys_nosemi (opt_keys hok hp)
theorem canon_acc {s : ByteArray} (hok : acc false begins (nb s) = true) : acc false begins (nb (canonText s)) = true := by
  rw [acc_desc, desc_parts (parts_canon hok), Bool.and_eq_true]
  exact ⟨List.all_eq_true.2 fun o ho => opt_keys hok ho, typeB_ok hok⟩
theorem canon_type {s : ByteArray} (hok : acc false begins (nb s) = true) : typeB (canonText s) = typeB s := by
  have : typeB (canonText s) = canonB (rdOf ByteArray.empty (partsB (canonText s) 59) 0) := rfl
  rw [this, parts_canon hok]
  exact canon_canon _
theorem canon_opts {s : ByteArray} (hok : acc false begins (nb s) = true) : optB (canonText s) = optB s := by
  have h0 : optB (canonText s) = (optsU (optTexts (partsB (canonText s) 59))).map mkB := rfl
  have h1 : optTexts (typeB s :: optB s) = (optB s).map tl := by
    rw [optTexts, List.tail_cons]
    refine List.map_congr_left fun o ho => ?_
    rw [opt_folded ho]
    rfl
  have h2 : optsU ((optB s).map tl) = (optB s).map tl := (optsU_eq (rising_optB s) (fun z => Iff.rfl)).symm
  rw [h0, parts_canon hok, h1, h2, map_mkB_tl]
theorem canon_text {s : ByteArray} (hok : acc false begins (nb s) = true) : canonText (canonText s) = canonText s := by
  have : canonText (canonText s) = printB (typeB (canonText s)) (optB (canonText s)) := rfl
  rw [this, canon_type hok, canon_opts hok]
  rfl
theorem canonText_inj {a b : ByteArray} (ha : acc false begins (nb a) = true) (hb : acc false begins (nb b) = true) (h : canonText a = canonText b) : typeB a = typeB b ∧ optB a = optB b :=
  ⟨by rw [← canon_type ha, h, canon_type hb], by rw [← canon_opts ha, h, canon_opts hb]⟩
theorem canon_fold (s : ByteArray) : foldB (canonText s) = canonText s := by
  refine nb_inj ?_
  rw [nb_fold, canonText, nb_print, List.map_append]
  congr 1
  · rw [← nb_fold, typeB_folded]
  · rw [List.map_flatMap]
    have : ∀ l : List ByteArray, (∀ o ∈ l, foldB o = o) → ((l.map nb).flatMap fun o => ((59 :: o).map lowI)) = (l.map nb).flatMap fun o => 59 :: o := by
      intro l
      induction l with
      | nil => intro _; rfl
      | cons a l ih =>
        intro h
        rw [List.map_cons, List.flatMap_cons, List.flatMap_cons, ih fun o ho => h o (List.mem_cons_of_mem _ ho)]
        have e : (nb a).map lowI = nb a := by rw [← nb_fold, h a (List.mem_cons_self ..)]
        rw [List.map_cons, e]
        rfl
    exact this (optB s) fun o ho => opt_folded ho

/-! ### Covering -/
theorem supers_head (s : ByteArray) : ∃ r, supersB s = canonB s :: r := by
  rcases rowR_range s with hr | ⟨h0, h62⟩
  · exact ⟨[], by rw [supersB, if_pos hr, canonB, if_pos hr]⟩
  · exact ⟨_, by rw [supersB, if_neg (by omega), supersF_next _ h0, canonB, if_neg (by omega)]⟩
theorem type_canon (s : ByteArray) : canonB (typeB s) = typeB s := canon_canon _
theorem mem_self (s : ByteArray) : memB (typeB s) (supersB (typeB s)) = true := by
  obtain ⟨r, h⟩ := supers_head (typeB s)
  rw [memB_iff, h, type_canon]
  exact List.mem_cons_self ..
theorem withinB_iff (xs ys : List ByteArray) : withinB xs ys = true ↔ ∀ o ∈ xs, o ∈ ys := by
  rw [withinB, List.all_eq_true]
  exact ⟨fun h o ho => (memB_iff o ys).1 (h o ho), fun h o ho => (memB_iff o ys).2 (h o ho)⟩
theorem coversB_iff (d e : ByteArray) : coversB d e = true ↔ acc false begins (nb d) = true ∧ acc false begins (nb e) = true ∧ typeB d ∈ supersB (typeB e) ∧ ∀ o ∈ optB d, o ∈ optB e := by
  rw [coversB, Bool.and_eq_true, Bool.and_eq_true, Bool.and_eq_true, memB_iff, withinB_iff]
  constructor
  · rintro ⟨⟨h1, h2⟩, h3, h4⟩; exact ⟨h1, h2, h3, h4⟩
  · rintro ⟨h1, h2, h3, h4⟩; exact ⟨⟨h1, h2⟩, h3, h4⟩
theorem covers_self (a : ByteArray) : coversB a a = acc false begins (nb a) := by
  rw [Bool.eq_iff_iff, coversB_iff]
  exact ⟨fun h => h.1, fun h => ⟨h, h, (memB_iff _ _).1 (mem_self a), fun o ho => ho⟩⟩
theorem chains : (List.range 62).all (fun i => (supersF 63 i).all fun x => ((supersB x).all fun y => memB y (supersF 63 i)) && (!memB (nameAt i 0) (supersB x) || decide (nb x = nb (nameAt i 0)))) = true := by kernel_rfl
theorem supers_kinds {t : ByteArray} (h : canonB t = t) : supersB t = [t] ∨ ∃ i : Nat, i < 62 ∧ t = nameAt i 0 ∧ supersB t = supersF 63 i := by
  rcases rowR_range t with hr | ⟨h0, h62⟩
  · left
    rw [canonB, if_pos hr] at h
    rw [supersB, if_pos hr, h]
  · right
    obtain ⟨i, hi⟩ : ∃ i : Nat, rowR t = i := ⟨(rowR t).toNat, by omega⟩
    rw [canonB, if_neg (by omega), hi] at h
    exact ⟨i, by omega, h.symm, by rw [supersB, if_neg (by omega), hi]⟩
theorem supers_trans {t x y : ByteArray} (ht : canonB t = t) (hx : x ∈ supersB t) (hy : y ∈ supersB x) : y ∈ supersB t := by
  rcases supers_kinds ht with h | ⟨i, hi, h1, h2⟩
  · rw [h, List.mem_singleton] at hx
    rw [hx] at hy
    exact hy
  · rw [h2] at hx ⊢
    have h3 := List.all_eq_true.1 (List.all_eq_true.1 chains i (List.mem_range.2 hi)) x hx
    rw [Bool.and_eq_true] at h3
    exact (memB_iff _ _).1 (List.all_eq_true.1 h3.1 y hy)
theorem supers_anti {t x : ByteArray} (ht : canonB t = t) (hx : x ∈ supersB t) (hy : t ∈ supersB x) : x = t := by
  rcases supers_kinds ht with h | ⟨i, hi, h1, h2⟩
  · rw [h, List.mem_singleton] at hx
    exact hx
  · rw [h2] at hx
    have h3 := List.all_eq_true.1 (List.all_eq_true.1 chains i (List.mem_range.2 hi)) x hx
    rw [Bool.and_eq_true] at h3
    rw [h1] at hy ⊢
    have h4 := h3.2
    rw [(memB_iff _ _).2 hy] at h4
    exact nb_inj (by simpa using h4)
theorem opts_anti {a b : ByteArray} (h1 : ∀ o ∈ optB a, o ∈ optB b) (h2 : ∀ o ∈ optB b, o ∈ optB a) : optB a = optB b := by
  have h := rising_unique (rising_optB a) (rising_optB b) (fun z => by
    rw [List.mem_map, List.mem_map]
    exact ⟨fun ⟨o, ho, e⟩ => ⟨o, h1 o ho, e⟩, fun ⟨o, ho, e⟩ => ⟨o, h2 o ho, e⟩⟩)
  have := congrArg (List.map mkB) h
  rw [map_mkB_tl, map_mkB_tl] at this
  exact this
theorem covers_anti {a b : ByteArray} (h : coversB a b = true) : coversB b a = decide (canonText a = canonText b) := by
  obtain ⟨ha, hb, ht, ho⟩ := (coversB_iff a b).1 h
  rw [Bool.eq_iff_iff, decide_eq_true_eq, coversB_iff]
  constructor
  · rintro ⟨_, _, ht', ho'⟩
    rw [canonText, canonText, supers_anti (type_canon b) ht ht', opts_anti ho ho']
  · intro e
    obtain ⟨e1, e2⟩ := canonText_inj ha hb e
    exact ⟨hb, ha, by rw [e1]; exact (memB_iff _ _).1 (mem_self b), by rw [e2]; exact fun o ho => ho⟩
theorem covers_trans {a b c : ByteArray} (h : coversB a b = true) (h' : coversB b c = true) : coversB a c = true := by
  obtain ⟨ha, hb, ht, ho⟩ := (coversB_iff a b).1 h
  obtain ⟨_, hc, ht', ho'⟩ := (coversB_iff b c).1 h'
  exact (coversB_iff a c).2 ⟨ha, hc, supers_trans (type_canon c) ht' ht, fun o h => ho' o (ho o h)⟩
end Go.Proofs.YtdonopoijbokiaaDoor
