/- A text taken apart at a byte: the pieces as texts, and as the splitting of its bytes. No program in sight. -/
import Derived.Test.YtdonopoijbokiaaDoorDesc
import Derived.Test.YtdonopoijbokiaaDoorFold01
import Derived.Lib.SplitLaws
namespace Go.Proofs.YtdonopoijbokiaaDoor
open Go.RowKit Go.Proofs.YtdonopoijbokiaaDoorW.PrintWords
set_option linter.unusedVariables false
set_option linter.unusedSimpArgs false

theorem map_inj {α β : Type} {f : α → β} (hf : ∀ x y, f x = f y → x = y) : ∀ {l m : List α}, l.map f = m.map f → l = m
  | [], [], _ => rfl
  | [], _ :: _, h => by simp at h
  | _ :: _, [], h => by simp at h
  | a :: l, b :: m, h => by
    simp only [List.map_cons, List.cons.injEq] at h
    rw [hf _ _ h.1, map_inj hf h.2]
theorem nb_inj {a b : ByteArray} (h : nb a = nb b) : a = b := by
  have h' : a.data.toList = b.data.toList := by
    unfold nb at h
    exact map_inj (f := fun b : UInt8 => (b.toNat : Int)) (fun x y e => UInt8.toNat_inj.1 (Int.ofNat_inj.1 e)) h
  cases a; cases b
  simp only [ByteArray.mk.injEq]
  exact Array.toList_inj.1 h'
theorem nbs_inj {l m : List ByteArray} (h : l.map nb = m.map nb) : l = m := map_inj (fun _ _ => nb_inj) h
theorem nb_extract (s : ByteArray) (a b : Nat) : nb (s.extract a b) = ((nb s).drop a).take (b - a) := by
  unfold nb
  rw [Lib.extract_data]
  simp [List.map_take, List.map_drop]
/-- The pieces, from place i on, the piece under way having begun at lo. -/
def cutB (s : ByteArray) (c : Int) : Nat → Nat → Nat → List ByteArray
  | 0, lo, _ => [s.extract lo s.size]
  | n + 1, lo, i => if (nb s).getD i 0 = c then s.extract lo i :: cutB s c n (i + 1) (i + 1) else cutB s c n lo (i + 1)
def partsB (s : ByteArray) (c : Int) : List ByteArray := cutB s c s.size 0 0
theorem cutB_nb (s : ByteArray) (c : Int) : ∀ (n lo i : Nat), n + i = s.size → lo ≤ i →
    (cutB s c n lo i).map nb = (((nb s).drop lo).take (i - lo) ++ (splitI c ((nb s).drop i)).headD []) :: (splitI c ((nb s).drop i)).tail
  | 0, lo, i, h, hlo => by
    have e : (nb s).drop i = [] := List.drop_of_length_le (by rw [nb_length]; omega)
    rw [cutB, e, List.map_cons, nb_extract]
    simp only [splitI, List.headD_cons, List.tail_cons, List.append_nil, List.map_nil]
    rw [show s.size - lo = i - lo by omega]
  | n + 1, lo, i, h, hlo => by
    have hi : i < (nb s).length := by rw [nb_length]; omega
    have e : (nb s).drop i = (nb s).getD i 0 :: (nb s).drop (i + 1) := by
      rw [List.drop_eq_getElem_cons hi, List.getD_eq_getElem?_getD, List.getElem?_eq_getElem hi]
      rfl
    rw [cutB, e, splitI]
    split
    · rename_i hc
      rw [List.map_cons, nb_extract, cutB_nb s c n (i + 1) (i + 1) (by omega) (Nat.le_refl _)]
      simp only [List.headD_cons, List.tail_cons, List.append_nil, Nat.sub_self, List.take_zero, List.nil_append]
      rw [← splitI_eq]
    · rw [cutB_nb s c n lo (i + 1) (by omega) (by omega)]
      simp only [List.headD_cons, List.tail_cons]
      have hi' : i - lo < ((nb s).drop lo).length := by rw [List.length_drop]; omega
      rw [show i + 1 - lo = (i - lo) + 1 by omega, take_snoc' _ 0 _ hi', List.append_assoc]
      have : ((nb s).drop lo).getD (i - lo) 0 = (nb s).getD i 0 := by
        rw [List.getD_eq_getElem?_getD, List.getD_eq_getElem?_getD, List.getElem?_drop, show lo + (i - lo) = i by omega]
      rw [this]
      rfl
theorem partsB_nb (s : ByteArray) (c : Int) : (partsB s c).map nb = splitI c (nb s) := by
  rw [partsB, cutB_nb s c s.size 0 0 (by omega) (Nat.le_refl _)]
  simp only [Nat.sub_self, List.take_zero, List.nil_append, List.drop_zero]
  rw [← splitI_eq]
theorem cutB_length (s : ByteArray) (c : Int) : ∀ (n lo i : Nat), (cutB s c n lo i).length ≤ n + 1
  | 0, _, _ => by simp [cutB]
  | n + 1, lo, i => by
    rw [cutB]
    split
    · have := cutB_length s c n (i + 1) (i + 1)
      simp only [List.length_cons]; omega
    · have := cutB_length s c n lo (i + 1)
      omega
/-- The same by strings.Split at one byte. -/
def splitU (c : UInt8) : List UInt8 → List (List UInt8)
  | [] => [[]]
  | x :: l => if x = c then [] :: splitU c l else (x :: (splitU c l).headD []) :: (splitU c l).tail
theorem splitU_eq (c : UInt8) (l : List UInt8) : splitU c l = (splitU c l).headD [] :: (splitU c l).tail := by
  cases l with
  | nil => rfl
  | cons x l => simp only [splitU]; split <;> rfl
theorem index_cons_eq (c : UInt8) (l : List UInt8) : Lib.index (c :: l) [c] = 0 := by
  have := Lib.index_first (s := c :: l) (sub := [c]) (i := 0) (Nat.zero_le _) (by simp [Lib.occAt]) (fun j hj => by omega)
  simpa using this
theorem index_cons_ne {x c : UInt8} (l : List UInt8) (h : x ≠ c) {i : Nat} (hi : Lib.index l [c] = i) : Lib.index (x :: l) [c] = (i + 1 : Nat) := by
  rcases Lib.index_spec l [c] with ⟨e, _⟩ | ⟨k, e, hk, ho, hn⟩
  · omega
  · obtain rfl : k = i := by omega
    refine Lib.index_first (by simp; omega) (by simpa [Lib.occAt] using ho) (fun j hj => ?_)
    cases j with
    | zero => simpa [Lib.occAt, List.isPrefixOf] using Ne.symm h
    | succ j =>
      have := hn j (by omega)
      simpa [Lib.occAt] using this
theorem index_of_count {c : UInt8} {l : List UInt8} {k : Nat} (h : Lib.count l [c] = k + 1) : ∃ i : Nat, Lib.index l [c] = i := by
  rcases Lib.index_spec l [c] with ⟨e, _⟩ | ⟨i, e, _⟩
  · rw [Lib.count_miss e] at h; omega
  · exact ⟨i, e⟩
theorem split_one (c : UInt8) : ∀ (l : List UInt8), Lib.splitK [c] 0 (Lib.count l [c]) l = splitU c l
  | [] => by
    rw [show Lib.count [] [c] = 0 by rw [Lib.count_one]; rfl]
    rfl
  | x :: l => by
    by_cases h : x = c
    · subst h
      rw [Lib.count_cons_eq, Nat.add_comm, Lib.splitK, index_cons_eq, splitU, if_pos rfl, ← split_one]
      simp
    · rw [Lib.count_cons_ne _ _ _ h, splitU, if_neg h]
      have ih := split_one c l
      cases hk : Lib.count l [c] with
      | zero =>
        rw [hk] at ih
        rw [← ih]
        rfl
      | succ k =>
        obtain ⟨i, hi⟩ := index_of_count hk
        rw [hk, Lib.splitK, hi] at ih
        rw [Lib.splitK, index_cons_ne l h hi, ← ih]
        have e1 : ((i : Int) == -1) = false := beq_false_of_ne (by omega)
        have e2 : (((i + 1 : Nat) : Int) == -1) = false := beq_false_of_ne (by omega)
        rw [e1, e2]
        simp only [Bool.false_eq_true, if_false, Int.toNat_natCast, Nat.add_zero, List.length_singleton, List.headD_cons, List.tail_cons, List.take_succ_cons, List.drop_succ_cons]
theorem splitU_nb (c : UInt8) : ∀ (l : List UInt8), (splitU c l).map (List.map fun b : UInt8 => (b.toNat : Int)) = splitI c.toNat (l.map fun b : UInt8 => (b.toNat : Int))
  | [] => rfl
  | x :: l => by
    have ih := splitU_nb c l
    rw [List.map_cons, splitI, ← ih, splitU]
    by_cases h : x = c
    · subst h
      simp
    · have h' : ¬ ((x.toNat : Int) = (c.toNat : Int)) := fun e => h (UInt8.toNat_inj.1 (by omega))
      rw [if_neg h, if_neg h', splitU_eq c l]
      simp
theorem splitB_parts (c : UInt8) (s : ByteArray) : Lib.splitB ⟨#[c]⟩ 0 (Lib.countB s ⟨#[c]⟩) s = partsB s c.toNat := by
  refine nbs_inj ?_
  rw [partsB_nb]
  have e : (Lib.splitB ⟨#[c]⟩ 0 (Lib.countB s ⟨#[c]⟩) s).map nb = ((Lib.splitB ⟨#[c]⟩ 0 (Lib.countB s ⟨#[c]⟩) s).map (·.data.toList)).map (List.map fun b : UInt8 => (b.toNat : Int)) := by
    rw [List.map_map]
    rfl
  rw [e, Lib.splitB_data]
  have e2 : Lib.splitK [c] 0 (Lib.countB s ⟨#[c]⟩) s.data.toList = splitU c s.data.toList := split_one c s.data.toList
  exact (congrArg (List.map _) e2).trans (splitU_nb c _)
theorem countB_parts (c : UInt8) (s : ByteArray) : Lib.countB s ⟨#[c]⟩ + 1 = (partsB s c.toNat).length := by
  rw [← splitB_parts]
  exact (Lib.splitB_all ⟨#[c]⟩ (Nat.le_refl 1) 0 _ s rfl).symm
end Go.Proofs.YtdonopoijbokiaaDoor
