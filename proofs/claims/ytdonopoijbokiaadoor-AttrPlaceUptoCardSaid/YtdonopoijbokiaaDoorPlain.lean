/- Plain words on bytes and texts that the contracts speak of: no program in sight. -/
import Derived.Laws.BytesArg
namespace Go.Proofs.YtdonopoijbokiaaDoor
set_option linter.unusedVariables false

/-- A letter A to Z is made small. -/
def lowI (c : Int) : Int := if 65 ≤ c ∧ c ≤ 90 then c + 32 else c
theorem lowI_yes {c : Int} (h : 65 ≤ c) (h' : c ≤ 90) : lowI c = c + 32 := if_pos ⟨h, h'⟩
theorem lowI_no {c : Int} (h : ¬ (65 ≤ c ∧ c ≤ 90)) : lowI c = c := if_neg h
/-- The bytes of a text as numbers. -/
def nb (s : ByteArray) : List Int := s.data.toList.map fun b => (b.toNat : Int)
theorem nb_length (s : ByteArray) : (nb s).length = s.size := by rw [nb, List.length_map, Array.length_toList]; rfl
theorem nb_range (s : ByteArray) (i : Nat) : 0 ≤ (nb s).getD i 0 ∧ (nb s).getD i 0 ≤ 255 := by
  rw [List.getD_eq_getElem?_getD]
  cases h : (nb s)[i]? with
  | none => simp
  | some c =>
    obtain ⟨b, _, rfl⟩ := List.mem_map.1 (List.mem_of_getElem? h)
    have := b.toNat_lt
    simp only [Option.getD_some]
    omega
/-- The text folded. -/
def foldB (s : ByteArray) : ByteArray := strOfNums ((nb s).map lowI)
theorem foldB_size (s : ByteArray) : (foldB s).size = s.size := by rw [foldB, strOfNums_size, List.length_map, nb_length]
end Go.Proofs.YtdonopoijbokiaaDoor
