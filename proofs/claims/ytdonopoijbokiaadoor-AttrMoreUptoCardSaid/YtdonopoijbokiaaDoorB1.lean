/- Plain words on bytes and texts that the contracts speak of: no program in sight. Descriptions over bytes as numbers: the automaton, what it takes, the place at which it stops; the document's grammar; the two agree. No program in sight. Options: the strictly rising list of the texts of a list. No program in sight. Two strictly rising lists made one. No program in sight. The strictly rising list of a list's texts, as byte arrays; two of them made one, step by step. No program in sight. -/
import Derived.Laws.BytesArg
import Derived.Sort.KeysCollected
import Derived.Sort.Walk0
set_option linter.unusedVariables false
set_option linter.unusedSimpArgs false

/-! ### Plain -/
namespace Go.Proofs.YtdonopoijbokiaaDoor
set_option linter.unusedVariables false

/-- A letter A to Z is made small. -/
def lowI (c : Int) : Int := if 65 ≤ c ∧ c ≤ 90 then c + 32 else c
theorem lowI_yes {c : Int} (h : 65 ≤ c) (h' : c ≤ 90) : lowI c = c + 32 := if_pos ⟨h, h'⟩
theorem lowI_no {c : Int} (h : ¬ (65 ≤ c ∧ c ≤ 90)) : lowI c = c := if_neg h
/-- The bytes of a text as numbers. -/
def nb (s : ByteArray) : List Int := s.data.toList.map fun b => (b.toNat : Int)
theorem nb_length (s : ByteArray) : (nb s).length = s.size := by rw [nb, List.length_map, Array.length_toList]; rfl
theorem nb_range (s : ByteArray) (i : Nat) : 0 ≤ (nb s).getD i 0 ∧ (nb s).getD i 0 ≤ 255 := by
  rw [List.getD_eq_getElem?_getD]
  cases h : (nb s)[i]? with
  | none => simp
  | some c =>
    obtain ⟨b, _, rfl⟩ := List.mem_map.1 (List.mem_of_getElem? h)
    have := b.toNat_lt
    simp only [Option.getD_some]
    omega
/-- The text folded. -/
def foldB (s : ByteArray) : ByteArray := strOfNums ((nb s).map lowI)
theorem foldB_size (s : ByteArray) : (foldB s).size = s.size := by rw [foldB, strOfNums_size, List.length_map, nb_length]
end Go.Proofs.YtdonopoijbokiaaDoor

/-! ### Desc -/
namespace Go.Proofs.YtdonopoijbokiaaDoor
set_option linter.unusedVariables false
set_option linter.unusedSimpArgs false

def isLetter (c : Int) : Bool := (decide (97 ≤ c) && decide (c ≤ 122)) || (decide (65 ≤ c) && decide (c ≤ 90))
def isDigit (c : Int) : Bool := decide (48 ≤ c) && decide (c ≤ 57)
def isKey (c : Int) : Bool := isLetter c || isDigit c || decide (c = 45)

/-- Where the reader stands, and how many points it met. -/
structure St where
  pos : Int
  pts : Int
def St.whole (r : St) : Bool := decide (r.pos = 1) || decide (r.pos = 6) || ((decide (r.pos = 2) || decide (r.pos = 3)) && decide (0 < r.pts))
def St.next (r : St) (c : Int) : Option St :=
  if c = 59 then (if r.whole = true then some ⟨5, r.pts⟩ else none)
  else if (r.pos = 0 ∧ isLetter c = true) ∨ (r.pos = 1 ∧ isKey c = true) then some ⟨1, r.pts⟩
  else if (r.pos = 5 ∨ r.pos = 6) ∧ isKey c = true then some ⟨6, r.pts⟩
  else if (r.pos = 0 ∨ r.pos = 4) ∧ isDigit c = true then some ⟨if c = 48 then 2 else 3, r.pts⟩
  else if r.pos = 3 ∧ isDigit c = true then some r
  else if (r.pos = 2 ∨ r.pos = 3) ∧ c = 46 then some ⟨4, r.pts + 1⟩
  else none
/-- With 'bare' no semicolon is taken. -/
def St.step (bare : Bool) (r : St) (c : Int) : Option St := if bare = true ∧ c = 59 then none else r.next c
/-- What scan answers. -/
def scanFrom (bare : Bool) : St → List Int → Nat → Bool × Nat
  | r, [], i => (r.whole, i)
  | r, c :: l, i => match r.step bare c with
    | none => (false, i)
    | some r' => scanFrom bare r' l (i + 1)
def scanL (bare : Bool) (l : List Int) : Bool × Nat := scanFrom bare ⟨0, 0⟩ l 0
def runSt (bare : Bool) : St → List Int → Option St
  | r, [] => some r
  | r, c :: l => match r.step bare c with
    | none => none
    | some r' => runSt bare r' l
def acc (bare : Bool) (r : St) (l : List Int) : Bool := match runSt bare r l with
  | none => false
  | some r' => r'.whole
def live (bare : Bool) (r : St) (l : List Int) : Bool := (runSt bare r l).isSome

theorem runSt_append (bare : Bool) : ∀ (l m : List Int) (r : St), runSt bare r (l ++ m) = (runSt bare r l).bind fun r' => runSt bare r' m
  | [], m, r => rfl
  | c :: l, m, r => by
    simp only [List.cons_append, runSt]
    cases r.step bare c with
    | none => rfl
    | some r' => exact runSt_append bare l m r'

theorem scanFrom_acc (bare : Bool) : ∀ (l : List Int) (r : St) (i : Nat), (scanFrom bare r l i).1 = acc bare r l
  | [], r, i => rfl
  | c :: l, r, i => by
    simp only [scanFrom, acc, runSt]
    cases r.step bare c with
    | none => rfl
    | some r' => exact scanFrom_acc bare l r' (i + 1)
theorem scanFrom_place (bare : Bool) : ∀ (l : List Int) (r : St) (i : Nat), i ≤ (scanFrom bare r l i).2 ∧ (scanFrom bare r l i).2 ≤ i + l.length ∧
    ∀ p, p ≤ l.length → (live bare r (l.take p) = true ↔ i + p ≤ (scanFrom bare r l i).2)
  | [], r, i => by
    refine ⟨Nat.le_refl _, Nat.le_refl _, fun p hp => ?_⟩
    have : p = 0 := by simpa using hp
    subst this
    simp [live, runSt, scanFrom]
  | c :: l, r, i => by
    simp only [scanFrom]
    cases h : r.step bare c with
    | none =>
      refine ⟨Nat.le_refl _, by simp, fun p hp => ?_⟩
      cases p with
      | zero => simp [live, runSt]
      | succ p => simp [live, runSt, h]
    | some r' =>
      obtain ⟨h1, h2, h3⟩ := scanFrom_place bare l r' (i + 1)
      refine ⟨by simp only; omega, by simp only [List.length_cons]; omega, fun p hp => ?_⟩
      cases p with
      | zero =>
        simp only [List.take_zero, live, runSt, Option.isSome_some, true_iff]
        omega
      | succ p =>
        have := h3 p (by simpa using hp)
        simp only [List.take_succ_cons, live, runSt, h] at this ⊢
        rw [this]
        omega
/-- What is known of every state that is reached. -/
def St.ok (r : St) : Prop := 0 ≤ r.pts ∧ 0 ≤ r.pos ∧ r.pos ≤ 6 ∧ (r.pos = 4 → 1 ≤ r.pts)
theorem ok_step {bare : Bool} {r r' : St} {c : Int} (h : r.ok) (e : r.step bare c = some r') : r'.ok ∧ r'.pts ≤ r.pts + 1 := by
  obtain ⟨h1, h2, h3, h4⟩ := h
  unfold St.step at e
  split at e
  · cases e
  unfold St.next at e
  (repeat' split at e) <;> first
    | (cases e; done)
    | (cases e
       refine ⟨⟨?_, ?_, ?_, ?_⟩, ?_⟩ <;> (try simp only) <;> (try split) <;> omega)
theorem ok_run {bare : Bool} : ∀ {l : List Int} {r r' : St}, r.ok → runSt bare r l = some r' → r'.ok
  | [], r, r', h, e => by cases e; exact h
  | c :: l, r, r', h, e => by
    simp only [runSt] at e
    cases hs : r.step bare c with
    | none => rw [hs] at e; cases e
    | some r1 =>
      rw [hs] at e
      exact ok_run (ok_step h hs).1 e
def begins : St := ⟨0, 0⟩
theorem ok_begins : begins.ok := by simp [St.ok, begins]

/-- A front goes on just if one of four ends makes it whole. -/
def endsL : List (List Int) := [[], [97], [49], [46, 49]]
theorem goes_on {bare : Bool} {r : St} (h : r.ok) : (endsL.any fun e => acc bare r e) = true := by
  obtain ⟨p, q⟩ := r
  obtain ⟨h1, h2, h3, h4⟩ := h
  simp only at h1 h2 h3 h4
  have : p = 0 ∨ p = 1 ∨ p = 2 ∨ p = 3 ∨ p = 4 ∨ p = 5 ∨ p = 6 := by omega
  have hq : 0 < q + 1 := by omega
  rcases this with rfl | rfl | rfl | rfl | rfl | rfl | rfl <;>
    simp [endsL, acc, runSt, St.step, St.next, St.whole, isLetter, isDigit, isKey, hq]
  have := h4 rfl
  omega
theorem acc_append (bare : Bool) (r : St) (l m : List Int) : acc bare r (l ++ m) = match runSt bare r l with
    | none => false
    | some r' => acc bare r' m := by
  unfold acc
  rw [runSt_append]
  cases runSt bare r l <;> rfl
theorem live_ends {bare : Bool} {r : St} (h : r.ok) (l : List Int) : (endsL.any fun e => acc bare r (l ++ e)) = live bare r l := by
  simp only [acc_append, live]
  cases hr : runSt bare r l with
  | none => simp [endsL]
  | some r' => simpa using goes_on (bare := bare) (ok_run h hr)

/-! ### the document's grammar -/
def splitI (c : Int) : List Int → List (List Int)
  | [] => [[]]
  | x :: l => if x = c then [] :: splitI c l else (x :: (splitI c l).headD []) :: (splitI c l).tail
theorem splitI_ne (c : Int) (l : List Int) : splitI c l ≠ [] := by
  cases l with
  | nil => simp [splitI]
  | cons x l => simp only [splitI]; split <;> simp
theorem splitI_eq (c : Int) (l : List Int) : splitI c l = (splitI c l).headD [] :: (splitI c l).tail := by
  cases h : splitI c l with
  | nil => exact absurd h (splitI_ne c l)
  | cons a b => rfl
def keysP (l : List Int) : Bool := l.all isKey && !l.isEmpty
def numP (l : List Int) : Bool := l.all isDigit && (decide (l = [48]) || (!l.isEmpty && decide (l.headD 0 ≠ 48)))
def isTypeP (l : List Int) : Bool := match l with
  | [] => false
  | c :: _ => if isLetter c = true then keysP l else (splitI 46 l).all numP && decide (1 < (splitI 46 l).length)
def isDescP (l : List Int) : Bool := (splitI 59 l).tail.all keysP && isTypeP ((splitI 59 l).headD [])

theorem key_59 : isKey 59 = false := by decide
theorem digit_key {c : Int} (h : isDigit c = true) : isKey c = true := by simp [isKey, h]
theorem letter_key {c : Int} (h : isLetter c = true) : isKey c = true := by simp [isKey, h]
theorem letter_digit {c : Int} (h : isLetter c = true) : isDigit c = false := by
  simp only [isLetter, isDigit, Bool.or_eq_true, Bool.and_eq_true, decide_eq_true_eq, Bool.and_eq_false_iff, decide_eq_false_iff_not] at *
  omega
theorem digit_letter {c : Int} (h : isDigit c = true) : isLetter c = false := by
  cases hl : isLetter c with
  | false => rfl
  | true => rw [letter_digit hl] at h; cases h
theorem step_full (r : St) (c : Int) : r.step false c = r.next c := by simp [St.step]
theorem acc_nil (b : Bool) (r : St) : acc b r [] = r.whole := rfl
theorem acc_cons (b : Bool) (r : St) (c : Int) (l : List Int) : acc b r (c :: l) = match r.step b c with
    | none => false
    | some r' => acc b r' l := by
  unfold acc
  rw [runSt]
  cases r.step b c <;> rfl
/-- Behind a semicolon, in an option, in a word. -/
theorem acc_keys : ∀ (l : List Int) (p : Int),
    acc false ⟨5, p⟩ l = (keysP ((splitI 59 l).headD []) && (splitI 59 l).tail.all keysP) ∧
    acc false ⟨6, p⟩ l = (((splitI 59 l).headD []).all isKey && (splitI 59 l).tail.all keysP) ∧
    acc false ⟨1, p⟩ l = (((splitI 59 l).headD []).all isKey && (splitI 59 l).tail.all keysP)
  | [], p => by simp [acc_nil, St.whole, splitI, keysP]
  | c :: l, p => by
    have ih := acc_keys l p
    obtain ⟨i5, i6, i1⟩ := ih
    by_cases hc : c = 59
    · subst hc
      simp only [acc_cons, step_full, St.next, if_pos, splitI, List.headD_cons, List.tail_cons, St.whole, keysP]
      refine ⟨by simp, ?_, ?_⟩ <;>
      · rw [splitI_eq 59 l, List.all_cons]
        simpa [keysP] using i5
    · simp only [acc_cons, step_full, St.next, if_neg hc, splitI, List.headD_cons, List.tail_cons, keysP, List.all_cons]
      by_cases hk : isKey c = true
      · simp [hk, i1, i6]
      · have hk' : isKey c = false := by simpa using hk
        have hd : isDigit c = false := by
          cases h : isDigit c with
          | false => rfl
          | true => rw [digit_key h] at hk'; cases hk'
        simp [hk', hd]
theorem numP_cons (c : Int) (l : List Int) : numP (c :: l) = (isDigit c && (if c = 48 then l.isEmpty else l.all isDigit)) := by
  unfold numP
  by_cases h : c = 48
  · subst h
    cases l with
    | nil => decide
    | cons d l => simp
  · simp [h]
/-- In a number, behind its 0, behind a point. -/
theorem acc_nums : ∀ (l : List Int) (p : Int), 0 ≤ p →
    acc false ⟨3, p⟩ l = (((splitI 46 ((splitI 59 l).headD [])).headD []).all isDigit && (splitI 46 ((splitI 59 l).headD [])).tail.all numP && (decide (0 < p) || !(splitI 46 ((splitI 59 l).headD [])).tail.isEmpty) && (splitI 59 l).tail.all keysP) ∧
    acc false ⟨2, p⟩ l = (((splitI 46 ((splitI 59 l).headD [])).headD []).isEmpty && (splitI 46 ((splitI 59 l).headD [])).tail.all numP && (decide (0 < p) || !(splitI 46 ((splitI 59 l).headD [])).tail.isEmpty) && (splitI 59 l).tail.all keysP) ∧
    (1 ≤ p → acc false ⟨4, p⟩ l = (numP ((splitI 46 ((splitI 59 l).headD [])).headD []) && (splitI 46 ((splitI 59 l).headD [])).tail.all numP && (splitI 59 l).tail.all keysP))
  | [], p, hp => by simp [acc_nil, St.whole, splitI, numP]
  | c :: l, p, hp => by
    obtain ⟨i3, i2, i4⟩ := acc_nums l p hp
    obtain ⟨_, _, j4⟩ := acc_nums l (p + 1) (by omega)
    have k5 := (acc_keys l p).1
    have j4 := j4 (by omega)
    by_cases hc : c = 59
    · subst hc
      simp only [acc_cons, step_full, St.next, if_pos, splitI, List.headD_cons, List.tail_cons, St.whole]
      have e := splitI_eq 59 l
      refine ⟨?_, ?_, fun h1 => ?_⟩
      · by_cases hp0 : 0 < p
        · simp [hp0, k5]
          rw [e]; simp
        · simp [hp0]
      · by_cases hp0 : 0 < p
        · simp [hp0, k5]
          rw [e]; simp
        · simp [hp0]
      · simp [numP]
    · by_cases hd : c = 46
      · subst hd
        have e46 : isDigit 46 = false := by decide
        have k46 : isKey 46 = false := by decide
        have l46 : isLetter 46 = false := by decide
        simp only [acc_cons, step_full, St.next, if_neg hc, splitI, if_pos, List.headD_cons, List.tail_cons]
        obtain ⟨a, b, hS⟩ : ∃ a b, splitI 46 ((splitI 59 l).headD []) = a :: b := ⟨_, _, splitI_eq 46 _⟩
        rw [hS] at j4 ⊢
        refine ⟨?_, ?_, fun h1 => ?_⟩
        · simp [e46, k46, l46, j4]
        · simp [e46, k46, l46, j4]
        · simp [e46, k46, l46, numP]
      · simp only [acc_cons, step_full, St.next, if_neg hc, splitI, if_neg hd, List.headD_cons, List.tail_cons, List.all_cons, numP_cons]
        by_cases hg : isDigit c = true
        · by_cases h0 : c = 48
          · subst h0
            refine ⟨?_, ?_, fun h1 => ?_⟩
            · simp [hg, i3]
            · simp
            · simp [hg, i2]
              rw [decide_eq_true (show 0 < p by omega)]
              simp
          · refine ⟨?_, ?_, fun h1 => ?_⟩
            · simp [hg, hd, i3]
            · simp [hd]
            · simp [hg, h0, i3]
              rw [decide_eq_true (show 0 < p by omega)]
              simp
        · have hg' : isDigit c = false := by simpa using hg
          simp [hg', hd]
theorem acc_desc (l : List Int) : acc false begins l = isDescP l := by
  unfold begins isDescP
  cases l with
  | nil => simp [acc_nil, St.whole, splitI, isTypeP]
  | cons c l =>
    obtain ⟨i3, i2, _⟩ := acc_nums l 0 (by omega)
    obtain ⟨_, _, i1⟩ := acc_keys l 0
    by_cases hc : c = 59
    · subst hc
      simp [acc_cons, step_full, St.next, St.whole, splitI, isTypeP]
    · simp only [acc_cons, step_full, St.next, if_neg hc, splitI, List.headD_cons, List.tail_cons, isTypeP]
      by_cases hl : isLetter c = true
      · simp [hl, i1, keysP, letter_key hl]
        rw [Bool.and_comm]
      · have hl' : isLetter c = false := by simpa using hl
        by_cases hd : c = 46
        · subst hd
          simp [hl', isDigit, numP]
        · simp only [splitI, if_neg hd, List.all_cons, numP_cons]
          obtain ⟨a, b, hS⟩ : ∃ a b, splitI 46 ((splitI 59 l).headD []) = a :: b := ⟨_, _, splitI_eq 46 _⟩
          rw [hS] at i2 i3 ⊢
          have hb : decide (0 < b.length) = !b.isEmpty := by cases b <;> simp
          by_cases hg : isDigit c = true
          · by_cases h0 : c = 48
            · subst h0
              simp [hg, hl', i2, hb, Bool.and_comm, Bool.and_left_comm]
            · simp [hg, hl', h0, i3, hb, Bool.and_comm, Bool.and_left_comm]
          · have hg' : isDigit c = false := by simpa using hg
            simp [hg', hl', hd]
/-- Bare: no semicolon, and else as ever. -/
theorem acc_bare : ∀ (l : List Int) (r : St), acc true r l = ((l.all fun c => decide (c ≠ 59)) && acc false r l)
  | [], r => by simp [acc_nil]
  | c :: l, r => by
    rw [acc_cons, acc_cons, step_full, List.all_cons]
    by_cases hc : c = 59
    · subst hc
      simp [St.step]
    · have e : r.step true c = r.next c := by simp [St.step, hc]
      rw [e]
      cases r.next c with
      | none => simp
      | some r' => simp [acc_bare l r', hc]
theorem splitI_none {c : Int} : ∀ {l : List Int}, (l.all fun x => decide (x ≠ c)) = true → splitI c l = [l]
  | [], _ => rfl
  | x :: l, h => by
    simp only [List.all_cons, Bool.and_eq_true, decide_eq_true_eq] at h
    rw [splitI, if_neg h.1, splitI_none h.2]
    rfl
theorem all_split {c : Int} {f : Int → Bool} : ∀ {l : List Int}, (splitI c l).all (fun m => m.all f) = true → ∀ x ∈ l, x = c ∨ f x = true
  | [], _, x, hx => by cases hx
  | y :: l, h, x, hx => by
    rw [splitI] at h
    split at h
    · rename_i hy
      rcases List.mem_cons.1 hx with rfl | hx
      · exact Or.inl hy
      · exact all_split (l := l) (by simpa using h) x hx
    · rename_i hy
      have h' : f y = true ∧ (splitI c l).all (fun m => m.all f) = true := by
        rw [splitI_eq c l]
        simp only [List.all_cons, Bool.and_eq_true] at h ⊢
        exact ⟨h.1.1, h.1.2, h.2⟩
      rcases List.mem_cons.1 hx with rfl | hx
      · exact Or.inr h'.1
      · exact all_split h'.2 x hx
theorem type_free {l : List Int} (h : isTypeP l = true) : (l.all fun c => decide (c ≠ 59)) = true := by
  unfold isTypeP at h
  split at h
  · cases h
  · rename_i c m
    rw [List.all_eq_true]
    intro x hx
    split at h
    · simp only [keysP, Bool.and_eq_true] at h
      have := List.all_eq_true.1 h.1 x hx
      simp only [decide_eq_true_eq]
      rintro rfl
      rw [key_59] at this
      cases this
    · simp only [Bool.and_eq_true] at h
      have h2 : (splitI 46 (c :: m)).all (fun m => m.all isDigit) = true := by
        rw [List.all_eq_true] at h ⊢
        intro y hy
        have := h.1 y hy
        simp only [numP, Bool.and_eq_true] at this
        exact this.1
      simp only [decide_eq_true_eq]
      rintro rfl
      rcases all_split h2 59 hx with e | e
      · cases e
      · revert e; decide
theorem acc_type (l : List Int) : acc true begins l = isTypeP l := by
  rw [acc_bare, acc_desc]
  by_cases h : (l.all fun c => decide (c ≠ 59)) = true
  · rw [h, isDescP, splitI_none h]
    simp
  · have h' : (l.all fun c => decide (c ≠ 59)) = false := by simpa using h
    rw [h']
    cases ht : isTypeP l with
    | false => rfl
    | true => rw [type_free ht] at h'; cases h'

/-! ### the place, by halving -/
def goesL (bare : Bool) (l : List Int) : Bool := endsL.any fun e => acc bare begins (l ++ e)
theorem goes_live (bare : Bool) (l : List Int) : goesL bare l = live bare begins l := live_ends ok_begins l
theorem goes_place (bare : Bool) (l : List Int) (p : Nat) (hp : p ≤ l.length) : goesL bare (l.take p) = decide (p ≤ (scanL bare l).2) := by
  rw [goes_live]
  have := (scanFrom_place bare l begins 0).2.2 p hp
  rw [Nat.zero_add] at this
  by_cases h : p ≤ (scanL bare l).2
  · rw [decide_eq_true h]; exact this.2 h
  · rw [decide_eq_false h]
    cases hl : live bare begins (l.take p) with
    | false => rfl
    | true => exact absurd (this.1 hl) h
theorem scanL_acc (bare : Bool) (l : List Int) : (scanL bare l).1 = acc bare begins l := scanFrom_acc bare l begins 0
theorem scanL_le (bare : Bool) (l : List Int) : (scanL bare l).2 ≤ l.length := by
  have := (scanFrom_place bare l begins 0).2.1
  rw [Nat.zero_add] at this
  exact this
end Go.Proofs.YtdonopoijbokiaaDoor

/-! ### Opts -/
namespace Go.Proofs.YtdonopoijbokiaaDoor
set_option linter.unusedVariables false

theorem lt_irr (x : List UInt8) : ¬ x < x := List.lt_irrefl x
theorem lt_tri {x y : List UInt8} (h : ¬ x < y) (e : ¬ x = y) : y < x := by
  rcases List.le_iff_lt_or_eq.1 (List.not_lt.1 h) with h' | h'
  · exact h'
  · exact absurd h'.symm e
/-- Put in, if it isn't there yet. -/
def insU (x : List UInt8) : List (List UInt8) → List (List UInt8)
  | [] => [x]
  | y :: l => if x < y then x :: y :: l else if x = y then y :: l else y :: insU x l
def optsU (l : List (List UInt8)) : List (List UInt8) := l.foldr insU []
theorem mem_insU (x z : List UInt8) : ∀ l : List (List UInt8), z ∈ insU x l ↔ z = x ∨ z ∈ l
  | [] => by simp [insU]
  | y :: l => by
    unfold insU
    split
    · simp
    · split
      · rename_i h
        subst h
        simp
      · simp only [List.mem_cons, mem_insU x z l]
        constructor
        · rintro (h | h | h)
          · exact .inr (.inl h)
          · exact .inl h
          · exact .inr (.inr h)
        · rintro (h | h | h)
          · exact .inr (.inl h)
          · exact .inl h
          · exact .inr (.inr h)
theorem mem_optsU (z : List UInt8) : ∀ l : List (List UInt8), z ∈ optsU l ↔ z ∈ l
  | [] => by simp [optsU]
  | y :: l => by
    show z ∈ insU y (optsU l) ↔ _
    rw [mem_insU, mem_optsU z l, List.mem_cons]
theorem rising_insU (x : List UInt8) : ∀ l : List (List UInt8), l.Pairwise (· < ·) → (insU x l).Pairwise (· < ·)
  | [], _ => by simp [insU]
  | y :: l, h => by
    obtain ⟨h1, h2⟩ := List.pairwise_cons.1 h
    unfold insU
    split
    · rename_i hlt
      refine List.pairwise_cons.2 ⟨fun z hz => ?_, h⟩
      rcases List.mem_cons.1 hz with rfl | hz
      · exact hlt
      · exact List.lt_trans hlt (h1 z hz)
    · rename_i hlt
      split
      · exact h
      · rename_i hne
        refine List.pairwise_cons.2 ⟨fun z hz => ?_, rising_insU x l h2⟩
        rcases (mem_insU x z l).1 hz with rfl | hz
        · exact lt_tri hlt hne
        · exact h1 z hz
theorem rising_optsU : ∀ l : List (List UInt8), (optsU l).Pairwise (· < ·)
  | [] => List.Pairwise.nil
  | y :: l => rising_insU y (optsU l) (rising_optsU l)
/-- STRICTLY RISING LISTS OF THE SAME TEXTS ARE ONE. -/
theorem rising_unique : ∀ {l m : List (List UInt8)}, l.Pairwise (· < ·) → m.Pairwise (· < ·) → (∀ z, z ∈ l ↔ z ∈ m) → l = m
  | [], [], _, _, _ => rfl
  | [], b :: m, _, _, h => absurd ((h b).2 (List.mem_cons_self ..)) (by simp)
  | a :: l, [], _, _, h => absurd ((h a).1 (List.mem_cons_self ..)) (by simp)
  | a :: l, b :: m, hl, hm, h => by
    obtain ⟨l1, l2⟩ := List.pairwise_cons.1 hl
    obtain ⟨m1, m2⟩ := List.pairwise_cons.1 hm
    have e : a = b := by
      rcases List.mem_cons.1 ((h a).1 (List.mem_cons_self ..)) with e | ha
      · exact e
      · rcases List.mem_cons.1 ((h b).2 (List.mem_cons_self ..)) with e | hb
        · exact e.symm
        · exact absurd (List.lt_trans (m1 a ha) (l1 b hb)) (lt_irr b)
    subst e
    rw [rising_unique l2 m2 fun z => ?_]
    constructor
    · intro hz
      rcases List.mem_cons.1 ((h z).1 (List.mem_cons_of_mem _ hz)) with rfl | hz'
      · exact absurd (l1 z hz) (lt_irr z)
      · exact hz'
    · intro hz
      rcases List.mem_cons.1 ((h z).2 (List.mem_cons_of_mem _ hz)) with rfl | hz'
      · exact absurd (m1 z hz) (lt_irr z)
      · exact hz'
theorem optsU_eq {l m : List (List UInt8)} (hm : m.Pairwise (· < ·)) (h : ∀ z, z ∈ m ↔ z ∈ l) : m = optsU l :=
  rising_unique hm (rising_optsU l) fun z => (h z).trans (mem_optsU z l).symm
theorem optsU_congr {l m : List (List UInt8)} (h : ∀ z, z ∈ l ↔ z ∈ m) : optsU l = optsU m :=
  rising_unique (rising_optsU l) (rising_optsU m) fun z => ((mem_optsU z l).trans (h z)).trans (mem_optsU z m).symm
/-- What was collected without doubles and sorted. -/
theorem optsU_sort {l ss : List (List UInt8)} (hn : ss.Nodup) (h : ∀ z, z ∈ ss ↔ z ∈ l) : ss.mergeSort (fun x y => decide (x ≤ y)) = optsU l := by
  have tr : ∀ a b c : List UInt8, leB a b = true → leB b c = true → leB a c = true := fun a b c h1 h2 => by simp only [leB, decide_eq_true_eq] at *; exact List.le_trans h1 h2
  have to : ∀ a b : List UInt8, (leB a b || leB b a) = true := fun a b => by simp only [leB, Bool.or_eq_true, decide_eq_true_eq]; exact List.le_total a b
  have hp := List.mergeSort_perm ss leB
  have hs := List.pairwise_mergeSort tr to ss
  refine optsU_eq ?_ fun z => (hp.mem_iff).trans (h z)
  have hnd : (ss.mergeSort leB).Nodup := hp.nodup_iff.2 hn
  refine List.Pairwise.imp₂ ?_ hs hnd
  intro a b h1 h2
  rcases List.le_iff_lt_or_eq.1 (by simpa [leB] using h1) with h3 | h3
  · exact h3
  · exact absurd h3 h2
end Go.Proofs.YtdonopoijbokiaaDoor

/-! ### Merge -/
namespace Go.Proofs.YtdonopoijbokiaaDoor
set_option linter.unusedVariables false

def mg : List (List UInt8) → List (List UInt8) → List (List UInt8)
  | [], b => b
  | x :: a, [] => x :: a
  | x :: a, y :: b => if x < y then x :: mg a (y :: b) else if y < x then y :: mg (x :: a) b else mg a (y :: b)
termination_by a b => a.length + b.length
theorem mg_nil (b : List (List UInt8)) : mg [] b = b := by rw [mg]
theorem mg_nil' (a : List (List UInt8)) : mg a [] = a := by
  cases a with
  | nil => rw [mg]
  | cons x a => rw [mg]
theorem mg_lt {x y : List UInt8} {a b : List (List UInt8)} (h : x < y) : mg (x :: a) (y :: b) = x :: mg a (y :: b) := by rw [mg, if_pos h]
theorem mg_gt {x y : List UInt8} {a b : List (List UInt8)} (h : y < x) : mg (x :: a) (y :: b) = y :: mg (x :: a) b := by
  rw [mg, if_neg (fun h' => lt_irr x (List.lt_trans h' h)), if_pos h]
theorem mg_eq {x y : List UInt8} {a b : List (List UInt8)} (h : ¬ x < y) (h' : ¬ y < x) : mg (x :: a) (y :: b) = mg a (y :: b) := by rw [mg, if_neg h, if_neg h']
theorem mem_mg (z : List UInt8) : ∀ (a b : List (List UInt8)), z ∈ mg a b ↔ z ∈ a ∨ z ∈ b
  | [], b => by simp [mg_nil]
  | x :: a, [] => by simp [mg_nil']
  | x :: a, y :: b => by
    by_cases h : x < y
    · rw [mg_lt h, List.mem_cons, mem_mg z a (y :: b), List.mem_cons (a := z) (b := x)]
      exact or_assoc.symm
    · by_cases h' : y < x
      · rw [mg_gt h', List.mem_cons, mem_mg z (x :: a) b, List.mem_cons (a := z) (b := y)]
        exact or_left_comm
      · have e : x = y := by
          by_cases e : x = y
          · exact e
          · exact absurd (lt_tri h e) h'
        rw [mg_eq h h', mem_mg z a (y :: b)]
        subst e
        simp only [List.mem_cons]
        constructor
        · rintro (h | h)
          · exact .inl (.inr h)
          · exact .inr h
        · rintro ((h | h) | h)
          · exact .inr (.inl h)
          · exact .inl h
          · exact .inr h
termination_by a b => a.length + b.length
theorem rising_mg : ∀ (a b : List (List UInt8)), a.Pairwise (· < ·) → b.Pairwise (· < ·) → (mg a b).Pairwise (· < ·)
  | [], b, _, hb => by rw [mg_nil]; exact hb
  | x :: a, [], ha, _ => by rw [mg_nil']; exact ha
  | x :: a, y :: b, ha, hb => by
    obtain ⟨a1, a2⟩ := List.pairwise_cons.1 ha
    obtain ⟨b1, b2⟩ := List.pairwise_cons.1 hb
    by_cases h : x < y
    · rw [mg_lt h]
      refine List.pairwise_cons.2 ⟨fun z hz => ?_, rising_mg a (y :: b) a2 hb⟩
      rcases (mem_mg z a (y :: b)).1 hz with hz | hz
      · exact a1 z hz
      · rcases List.mem_cons.1 hz with rfl | hz
        · exact h
        · exact List.lt_trans h (b1 z hz)
    · by_cases h' : y < x
      · rw [mg_gt h']
        refine List.pairwise_cons.2 ⟨fun z hz => ?_, rising_mg (x :: a) b ha b2⟩
        rcases (mem_mg z (x :: a) b).1 hz with hz | hz
        · rcases List.mem_cons.1 hz with rfl | hz
          · exact h'
          · exact List.lt_trans h' (a1 z hz)
        · exact b1 z hz
      · rw [mg_eq h h']
        exact rising_mg a (y :: b) a2 hb
termination_by a b => a.length + b.length
theorem mg_opts (l m : List (List UInt8)) : mg (optsU l) (optsU m) = optsU (l ++ m) :=
  optsU_eq (rising_mg _ _ (rising_optsU l) (rising_optsU m)) fun z => by rw [mem_mg, mem_optsU, mem_optsU, List.mem_append]
theorem optsU_small {l : List (List UInt8)} (h : l.length < 2) : optsU l = l := by
  match l, h with
  | [], _ => rfl
  | [x], _ => rfl
end Go.Proofs.YtdonopoijbokiaaDoor

/-! ### SortB -/
namespace Go.Proofs.YtdonopoijbokiaaDoor
set_option linter.unusedVariables false

def tl (b : ByteArray) : List UInt8 := b.data.toList
def mkB (l : List UInt8) : ByteArray := ⟨l.toArray⟩
theorem mkB_tl (b : ByteArray) : mkB (tl b) = b := rfl
theorem tl_mkB (l : List UInt8) : tl (mkB l) = l := by simp [tl, mkB]
theorem map_mkB_tl (l : List ByteArray) : (l.map tl).map mkB = l := by
  induction l with
  | nil => rfl
  | cons a l ih => simp only [List.map_cons, ih]; rfl
theorem map_tl_mkB (l : List (List UInt8)) : (l.map mkB).map tl = l := by
  induction l with
  | nil => rfl
  | cons a l ih => simp only [List.map_cons, ih, tl_mkB]
def sortB (xs : List ByteArray) : List ByteArray := (optsU (xs.map tl)).map mkB
theorem sortB_small {xs : List ByteArray} (h : xs.length < 2) : sortB xs = xs := by
  rw [sortB, optsU_small (by rw [List.length_map]; exact h), map_mkB_tl]
theorem insU_length (x : List UInt8) : ∀ l : List (List UInt8), (insU x l).length ≤ l.length + 1
  | [] => by simp [insU]
  | y :: l => by
    unfold insU
    split
    · simp
    · split
      · simp
      · have := insU_length x l
        simp only [List.length_cons]
        omega
theorem optsU_length : ∀ l : List (List UInt8), (optsU l).length ≤ l.length
  | [] => by simp [optsU]
  | y :: l => by
    have h1 := insU_length y (optsU l)
    have h2 := optsU_length l
    show (insU y (optsU l)).length ≤ _
    simp only [List.length_cons]
    omega
theorem sortB_length (xs : List ByteArray) : (sortB xs).length ≤ xs.length := by
  rw [sortB, List.length_map]
  have := optsU_length (xs.map tl)
  rw [List.length_map] at this
  exact this
theorem mg_length : ∀ a b : List (List UInt8), (mg a b).length ≤ a.length + b.length
  | [], b => by rw [mg_nil]; simp
  | x :: a, [] => by rw [mg_nil']; simp
  | x :: a, y :: b => by
    by_cases h : x < y
    · rw [mg_lt h]
      have := mg_length a (y :: b)
      simp only [List.length_cons] at *
      omega
    · by_cases h' : y < x
      · rw [mg_gt h']
        have := mg_length (x :: a) b
        simp only [List.length_cons] at *
        omega
      · rw [mg_eq h h']
        have := mg_length a (y :: b)
        simp only [List.length_cons] at *
        omega
termination_by a b => a.length + b.length
/-- What is put out so far, and what is to come. -/
def MgAt (a b : List ByteArray) (i j : Int) (done : List ByteArray) : Prop := mg (a.map tl) (b.map tl) = done.map tl ++ mg ((a.drop i.toNat).map tl) ((b.drop j.toNat).map tl)
theorem mgAt_start (a b : List ByteArray) : MgAt a b 0 0 [] := rfl
theorem drop_cons_at {a : List ByteArray} {i : Int} (h0 : 0 ≤ i) (h : i < a.length) : a.drop i.toNat = a.getD i.toNat ByteArray.empty :: a.drop (i + 1).toNat := by
  rw [show (i + 1).toNat = i.toNat + 1 by omega, List.drop_eq_getElem_cons (by omega)]
  congr 1
  rw [List.getD_eq_getElem?_getD, List.getElem?_eq_getElem (by omega)]
  rfl
theorem mgAt_lt {a b done : List ByteArray} {i j : Int} (h : MgAt a b i j done) (hi0 : 0 ≤ i) (hi : i < a.length) (hj0 : 0 ≤ j) (hj : j < b.length) (hl : tl (a.getD i.toNat ByteArray.empty) < tl (b.getD j.toNat ByteArray.empty)) : MgAt a b (i + 1) j (done ++ [a.getD i.toNat ByteArray.empty]) := by
  unfold MgAt at *
  rw [h, drop_cons_at hi0 hi, drop_cons_at hj0 hj, List.map_cons, List.map_cons, mg_lt hl]
  simp
theorem mgAt_gt {a b done : List ByteArray} {i j : Int} (h : MgAt a b i j done) (hi0 : 0 ≤ i) (hi : i < a.length) (hj0 : 0 ≤ j) (hj : j < b.length) (hl : tl (b.getD j.toNat ByteArray.empty) < tl (a.getD i.toNat ByteArray.empty)) : MgAt a b i (j + 1) (done ++ [b.getD j.toNat ByteArray.empty]) := by
  unfold MgAt at *
  rw [h, drop_cons_at hi0 hi, drop_cons_at hj0 hj, List.map_cons, List.map_cons, mg_gt hl]
  simp
theorem mgAt_eq {a b done : List ByteArray} {i j : Int} (h : MgAt a b i j done) (hi0 : 0 ≤ i) (hi : i < a.length) (hj0 : 0 ≤ j) (hj : j < b.length) (hl : ¬ tl (a.getD i.toNat ByteArray.empty) < tl (b.getD j.toNat ByteArray.empty)) (hg : ¬ tl (b.getD j.toNat ByteArray.empty) < tl (a.getD i.toNat ByteArray.empty)) : MgAt a b (i + 1) j done := by
  unfold MgAt at *
  rw [h, drop_cons_at hi0 hi, drop_cons_at hj0 hj, List.map_cons, List.map_cons, mg_eq hl hg]
theorem mgAt_a {a b done : List ByteArray} {i j : Int} (h : MgAt a b i j done) (hi0 : 0 ≤ i) (hi : i < a.length) (hj : b.length ≤ j) : MgAt a b (i + 1) j (done ++ [a.getD i.toNat ByteArray.empty]) := by
  unfold MgAt at *
  rw [h, drop_cons_at hi0 hi, show b.drop j.toNat = [] from List.drop_of_length_le (by omega), List.map_nil, mg_nil', mg_nil']
  simp
theorem mgAt_b {a b done : List ByteArray} {i j : Int} (h : MgAt a b i j done) (hi : a.length ≤ i) (hj0 : 0 ≤ j) (hj : j < b.length) : MgAt a b i (j + 1) (done ++ [b.getD j.toNat ByteArray.empty]) := by
  unfold MgAt at *
  rw [h, drop_cons_at hj0 hj, show a.drop i.toNat = [] from List.drop_of_length_le (by omega), List.map_nil, mg_nil, mg_nil]
  simp
theorem mgAt_len {a b done : List ByteArray} {i j : Int} (h : MgAt a b i j done) : done.length ≤ a.length + b.length := by
  have h1 := congrArg List.length (show mg (a.map tl) (b.map tl) = _ from h)
  have h2 := mg_length (a.map tl) (b.map tl)
  rw [List.length_append] at h1
  simp only [List.length_map] at h1 h2
  omega
theorem mgAt_end {xs ys done : List ByteArray} {i j : Int} (h : MgAt (sortB xs) (sortB ys) i j done) (hi : (sortB xs).length ≤ i) (hj : (sortB ys).length ≤ j) : done = sortB (xs ++ ys) := by
  unfold MgAt at h
  rw [List.drop_of_length_le (by omega), List.drop_of_length_le (by omega), List.map_nil, mg_nil, List.append_nil] at h
  rw [sortB, sortB, map_tl_mkB, map_tl_mkB, mg_opts, ← List.map_append] at h
  rw [sortB, h, map_mkB_tl]
end Go.Proofs.YtdonopoijbokiaaDoor
