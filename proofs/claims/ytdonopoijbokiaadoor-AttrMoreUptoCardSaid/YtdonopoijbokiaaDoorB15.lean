/- Texts joined of a type and options: how they are read, which cover which (plain facts for AttrMore and AttrSpelling). -/
import Derived.Test.YtdonopoijbokiaaDoorB14
set_option linter.unusedVariables false
set_option linter.unusedSimpArgs false
namespace Go.Proofs.YtdonopoijbokiaaDoor
open Go.RowKit Go.Proofs.YtdonopoijbokiaaDoorW.PrintWords

theorem option_keys (s : ByteArray) : keysP (nb (optionB s)) = true := by
  have hall : ∀ c ∈ (nb s).filter isKey, isKey c = true := fun c hc => (List.mem_filter.1 hc).2
  rw [optionB]
  split
  · decide
  · rename_i h
    have hr : nb (strOfNums ((nb s).filter isKey)) = (nb s).filter isKey := nb_strOf fun c hc => nb_mem c (List.mem_filter.1 hc).1
    rw [hr, keysP, Bool.and_eq_true]
    exact ⟨List.all_eq_true.2 hall, by simpa using h⟩
theorem option_size (s : ByteArray) : (optionB s).size ≤ s.size + 1 := by
  rw [optionB]
  split
  · show 1 ≤ _
    omega
  · rw [strOfNums_size]
    have := List.length_filter_le isKey (nb s)
    rw [nb_length] at this
    omega
theorem print_snoc (s : ByteArray) (ys : List ByteArray) (y : ByteArray) : printB s ys ++ ⟨#[59]⟩ ++ y = printB s (ys ++ [y]) := by
  refine nb_inj ?_
  rw [nb_append, nb_append, nb_print, nb_print, List.map_append, List.flatMap_append]
  have : nb ⟨#[59]⟩ = [59] := rfl
  rw [this]
  simp
theorem print_nil (s : ByteArray) : printB s [] = s := by
  refine nb_inj ?_
  rw [nb_print]
  simp
theorem parts_print {s : ByteArray} {ys : List ByteArray} (hs : ∀ x ∈ nb s, x ≠ 59) (hy : ∀ y ∈ ys, keysP (nb y) = true) : partsB (printB s ys) 59 = s :: ys := by
  refine nbs_inj ?_
  rw [partsB_nb, nb_print, splitI_print hs]
  · rfl
  · intro o ho
    obtain ⟨p, hp, rfl⟩ := List.mem_map.1 ho
    exact keys_nosemi (hy p hp)
theorem printed_acc {s : ByteArray} {ys : List ByteArray} (hs : ∀ x ∈ nb s, x ≠ 59) (hy : ∀ y ∈ ys, keysP (nb y) = true) : acc false begins (nb (printB s ys)) = isTypeP (nb s) := by
  rw [acc_desc, desc_parts (parts_print hs hy)]
  have h1 : (s :: ys).tail.all (fun p => keysP (nb p)) = true := List.all_eq_true.2 fun y h => hy y h
  rw [h1, Bool.true_and]
  rfl
theorem printed_type {s : ByteArray} {ys : List ByteArray} (hs : ∀ x ∈ nb s, x ≠ 59) (hy : ∀ y ∈ ys, keysP (nb y) = true) : typeB (printB s ys) = canonB s := by
  have : typeB (printB s ys) = canonB (rdOf ByteArray.empty (partsB (printB s ys) 59) 0) := rfl
  rw [this, parts_print hs hy]
  rfl
theorem printed_opts {s : ByteArray} {ys : List ByteArray} (hs : ∀ x ∈ nb s, x ≠ 59) (hy : ∀ y ∈ ys, keysP (nb y) = true) (o : ByteArray) : o ∈ optB (printB s ys) ↔ ∃ y ∈ ys, o = foldB y := by
  rw [mem_optB, parts_print hs hy]
  rfl
theorem covers_more {s : ByteArray} {ys zs : List ByteArray} (ht : isTypeP (nb s) = true) (hy : ∀ y ∈ ys, keysP (nb y) = true) (hz : ∀ y ∈ zs, keysP (nb y) = true) :
    coversB (printB s ys) (printB s zs) = true ↔ ∀ y ∈ ys, ∃ z ∈ zs, foldB y = foldB z := by
  have hs := type_nosemi ht
  rw [coversB_iff, printed_acc hs hy, printed_acc hs hz, printed_type hs hy, printed_type hs hz]
  constructor
  · rintro ⟨_, _, _, h⟩ y hyy
    exact (printed_opts hs hz (foldB y)).1 (h (foldB y) ((printed_opts hs hy _).2 ⟨y, hyy, rfl⟩))
  · intro h
    refine ⟨ht, ht, ?_, fun o ho => ?_⟩
    · obtain ⟨r, hr⟩ := supers_head (canonB s)
      rw [hr, canon_canon]
      exact List.mem_cons_self ..
    · obtain ⟨y, hyy, rfl⟩ := (printed_opts hs hy o).1 ho
      exact (printed_opts hs hz _).2 (h y hyy)
end Go.Proofs.YtdonopoijbokiaaDoor
