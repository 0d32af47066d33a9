/- Options: the strictly rising list of the texts of a list. No program in sight. -/
import Derived.Sort.KeysCollected
import Derived.Sort.Walk0
namespace Go.Proofs.YtdonopoijbokiaaDoor
set_option linter.unusedVariables false

theorem lt_irr (x : List UInt8) : ¬ x < x := List.lt_irrefl x
theorem lt_tri {x y : List UInt8} (h : ¬ x < y) (e : ¬ x = y) : y < x := by
  rcases List.le_iff_lt_or_eq.1 (List.not_lt.1 h) with h' | h'
  · exact h'
  · exact absurd h'.symm e
/-- Put in, if it isn't there yet. -/
def insU (x : List UInt8) : List (List UInt8) → List (List UInt8)
  | [] => [x]
  | y :: l => if x < y then x :: y :: l else if x = y then y :: l else y :: insU x l
def optsU (l : List (List UInt8)) : List (List UInt8) := l.foldr insU []
theorem mem_insU (x z : List UInt8) : ∀ l : List (List UInt8), z ∈ insU x l ↔ z = x ∨ z ∈ l
  | [] => by simp [insU]
  | y :: l => by
    unfold insU
    split
    · simp
    · split
      · rename_i h
        subst h
        simp
      · simp only [List.mem_cons, mem_insU x z l]
        constructor
        · rintro (h | h | h)
          · exact .inr (.inl h)
          · exact .inl h
          · exact .inr (.inr h)
        · rintro (h | h | h)
          · exact .inr (.inl h)
          · exact .inl h
          · exact .inr (.inr h)
theorem mem_optsU (z : List UInt8) : ∀ l : List (List UInt8), z ∈ optsU l ↔ z ∈ l
  | [] => by simp [optsU]
  | y :: l => by
    show z ∈ insU y (optsU l) ↔ _
    rw [mem_insU, mem_optsU z l, List.mem_cons]
theorem rising_insU (x : List UInt8) : ∀ l : List (List UInt8), l.Pairwise (· < ·) → (insU x l).Pairwise (· < ·)
  | [], _ => by simp [insU]
  | y :: l, h => by
    obtain ⟨h1, h2⟩ := List.pairwise_cons.1 h
    unfold insU
    split
    · rename_i hlt
      refine List.pairwise_cons.2 ⟨fun z hz => ?_, h⟩
      rcases List.mem_cons.1 hz with rfl | hz
      · exact hlt
      · exact List.lt_trans hlt (h1 z hz)
    · rename_i hlt
      split
      · exact h
      · rename_i hne
        refine List.pairwise_cons.2 ⟨fun z hz => ?_, rising_insU x l h2⟩
        rcases (mem_insU x z l).1 hz with rfl | hz
        · exact lt_tri hlt hne
        · exact h1 z hz
theorem rising_optsU : ∀ l : List (List UInt8), (optsU l).Pairwise (· < ·)
  | [] => List.Pairwise.nil
  | y :: l => rising_insU y (optsU l) (rising_optsU l)
/-- STRICTLY RISING LISTS OF THE SAME TEXTS ARE ONE. -/
theorem rising_unique : ∀ {l m : List (List UInt8)}, l.Pairwise (· < ·) → m.Pairwise (· < ·) → (∀ z, z ∈ l ↔ z ∈ m) → l = m
  | [], [], _, _, _ => rfl
  | [], b :: m, _, _, h => absurd ((h b).2 (List.mem_cons_self ..)) (by simp)
  | a :: l, [], _, _, h => absurd ((h a).1 (List.mem_cons_self ..)) (by simp)
  | a :: l, b :: m, hl, hm, h => by
    obtain ⟨l1, l2⟩ := List.pairwise_cons.1 hl
    obtain ⟨m1, m2⟩ := List.pairwise_cons.1 hm
    have e : a = b := by
      rcases List.mem_cons.1 ((h a).1 (List.mem_cons_self ..)) with e | ha
      · exact e
      · rcases List.mem_cons.1 ((h b).2 (List.mem_cons_self ..)) with e | hb
        · exact e.symm
        · exact absurd (List.lt_trans (m1 a ha) (l1 b hb)) (lt_irr b)
    subst e
    rw [rising_unique l2 m2 fun z => ?_]
    constructor
    · intro hz
      rcases List.mem_cons.1 ((h z).1 (List.mem_cons_of_mem _ hz)) with rfl | hz'
      · exact absurd (l1 z hz) (lt_irr z)
      · exact hz'
    · intro hz
      rcases List.mem_cons.1 ((h z).2 (List.mem_cons_of_mem _ hz)) with rfl | hz'
      · exact absurd (m1 z hz) (lt_irr z)
      · exact hz'
theorem optsU_eq {l m : List (List UInt8)} (hm : m.Pairwise (· < ·)) (h : ∀ z, z ∈ m ↔ z ∈ l) : m = optsU l :=
  rising_unique hm (rising_optsU l) fun z => (h z).trans (mem_optsU z l).symm
theorem optsU_congr {l m : List (List UInt8)} (h : ∀ z, z ∈ l ↔ z ∈ m) : optsU l = optsU m :=
  rising_unique (rising_optsU l) (rising_optsU m) fun z => ((mem_optsU z l).trans (h z)).trans (mem_optsU z m).symm
/-- What was collected without doubles and sorted. -/
theorem optsU_sort {l ss : List (List UInt8)} (hn : ss.Nodup) (h : ∀ z, z ∈ ss ↔ z ∈ l) : ss.mergeSort (fun x y => decide (x ≤ y)) = optsU l := by
  have tr : ∀ a b c : List UInt8, leB a b = true → leB b c = true → leB a c = true := fun a b c h1 h2 => by simp only [leB, decide_eq_true_eq] at *; exact List.le_trans h1 h2
  have to : ∀ a b : List UInt8, (leB a b || leB b a) = true := fun a b => by simp only [leB, Bool.or_eq_true, decide_eq_true_eq]; exact List.le_total a b
  have hp := List.mergeSort_perm ss leB
  have hs := List.pairwise_mergeSort tr to ss
  refine optsU_eq ?_ fun z => (hp.mem_iff).trans (h z)
  have hnd : (ss.mergeSort leB).Nodup := hp.nodup_iff.2 hn
  refine List.Pairwise.imp₂ ?_ hs hnd
  intro a b h1 h2
  rcases List.le_iff_lt_or_eq.1 (by simpa [leB] using h1) with h3 | h3
  · exact h3
  · exact absurd h3 h2
end Go.Proofs.YtdonopoijbokiaaDoor
