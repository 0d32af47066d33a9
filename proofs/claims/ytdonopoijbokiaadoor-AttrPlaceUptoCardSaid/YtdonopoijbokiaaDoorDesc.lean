/- Descriptions over bytes as numbers: the automaton, what it takes, the place at which it stops; the document's grammar; the two agree. No program in sight. -/
import Derived.Test.YtdonopoijbokiaaDoorPlain
namespace Go.Proofs.YtdonopoijbokiaaDoor
set_option linter.unusedVariables false
set_option linter.unusedSimpArgs false

def isLetter (c : Int) : Bool := (decide (97 ≤ c) && decide (c ≤ 122)) || (decide (65 ≤ c) && decide (c ≤ 90))
def isDigit (c : Int) : Bool := decide (48 ≤ c) && decide (c ≤ 57)
def isKey (c : Int) : Bool := isLetter c || isDigit c || decide (c = 45)

/-- Where the reader stands, and how many points it met. -/
structure St where
  pos : Int
  pts : Int
def St.whole (r : St) : Bool := decide (r.pos = 1) || decide (r.pos = 6) || ((decide (r.pos = 2) || decide (r.pos = 3)) && decide (0 < r.pts))
def St.next (r : St) (c : Int) : Option St :=
  if c = 59 then (if r.whole = true then some ⟨5, r.pts⟩ else none)
  else if (r.pos = 0 ∧ isLetter c = true) ∨ (r.pos = 1 ∧ isKey c = true) then some ⟨1, r.pts⟩
  else if (r.pos = 5 ∨ r.pos = 6) ∧ isKey c = true then some ⟨6, r.pts⟩
  else if (r.pos = 0 ∨ r.pos = 4) ∧ isDigit c = true then some ⟨if c = 48 then 2 else 3, r.pts⟩
  else if r.pos = 3 ∧ isDigit c = true then some r
  else if (r.pos = 2 ∨ r.pos = 3) ∧ c = 46 then some ⟨4, r.pts + 1⟩
  else none
/-- With 'bare' no semicolon is taken. -/
def St.step (bare : Bool) (r : St) (c : Int) : Option St := if bare = true ∧ c = 59 then none else r.next c
/-- What scan answers. -/
def scanFrom (bare : Bool) : St → List Int → Nat → Bool × Nat
  | r, [], i => (r.whole, i)
  | r, c :: l, i => match r.step bare c with
    | none => (false, i)
    | some r' => scanFrom bare r' l (i + 1)
def scanL (bare : Bool) (l : List Int) : Bool × Nat := scanFrom bare ⟨0, 0⟩ l 0
def runSt (bare : Bool) : St → List Int → Option St
  | r, [] => some r
  | r, c :: l => match r.step bare c with
    | none => none
    | some r' => runSt bare r' l
def acc (bare : Bool) (r : St) (l : List Int) : Bool := match runSt bare r l with
  | none => false
  | some r' => r'.whole
def live (bare : Bool) (r : St) (l : List Int) : Bool := (runSt bare r l).isSome

theorem runSt_append (bare : Bool) : ∀ (l m : List Int) (r : St), runSt bare r (l ++ m) = (runSt bare r l).bind fun r' => runSt bare r' m
  | [], m, r => rfl
  | c :: l, m, r => by
    simp only [List.cons_append, runSt]
    cases r.step bare c with
    | none => rfl
    | some r' => exact runSt_append bare l m r'

theorem scanFrom_acc (bare : Bool) : ∀ (l : List Int) (r : St) (i : Nat), (scanFrom bare r l i).1 = acc bare r l
  | [], r, i => rfl
  | c :: l, r, i => by
    simp only [scanFrom, acc, runSt]
    cases r.step bare c with
    | none => rfl
    | some r' => exact scanFrom_acc bare l r' (i + 1)
theorem scanFrom_place (bare : Bool) : ∀ (l : List Int) (r : St) (i : Nat), i ≤ (scanFrom bare r l i).2 ∧ (scanFrom bare r l i).2 ≤ i + l.length ∧
    ∀ p, p ≤ l.length → (live bare r (l.take p) = true ↔ i + p ≤ (scanFrom bare r l i).2)
  | [], r, i => by
    refine ⟨Nat.le_refl _, Nat.le_refl _, fun p hp => ?_⟩
    have : p = 0 := by simpa using hp
    subst this
    simp [live, runSt, scanFrom]
  | c :: l, r, i => by
    simp only [scanFrom]
    cases h : r.step bare c with
    | none =>
      refine ⟨Nat.le_refl _, by simp, fun p hp => ?_⟩
      cases p with
      | zero => simp [live, runSt]
      | succ p => simp [live, runSt, h]
    | some r' =>
      obtain ⟨h1, h2, h3⟩ := scanFrom_place bare l r' (i + 1)
      refine ⟨by simp only; omega, by simp only [List.length_cons]; omega, fun p hp => ?_⟩
      cases p with
      | zero =>
        simp only [List.take_zero, live, runSt, Option.isSome_some, true_iff]
        omega
      | succ p =>
        have := h3 p (by simpa using hp)
        simp only [List.take_succ_cons, live, runSt, h] at this ⊢
        rw [this]
        omega
/-- What is known of every state that is reached. -/
def St.ok (r : St) : Prop := 0 ≤ r.pts ∧ 0 ≤ r.pos ∧ r.pos ≤ 6 ∧ (r.pos = 4 → 1 ≤ r.pts)
theorem ok_step {bare : Bool} {r r' : St} {c : Int} (h : r.ok) (e : r.step bare c = some r') : r'.ok ∧ r'.pts ≤ r.pts + 1 := by
  obtain ⟨h1, h2, h3, h4⟩ := h
  unfold St.step at e
  split at e
  · cases e
  unfold St.next at e
  (repeat' split at e) <;> first
    | (cases e; done)
    | (cases e
       refine ⟨⟨?_, ?_, ?_, ?_⟩, ?_⟩ <;> (try simp only) <;> (try split) <;> omega)
theorem ok_run {bare : Bool} : ∀ {l : List Int} {r r' : St}, r.ok → runSt bare r l = some r' → r'.ok
  | [], r, r', h, e => by cases e; exact h
  | c :: l, r, r', h, e => by
    simp only [runSt] at e
    cases hs : r.step bare c with
    | none => rw [hs] at e; cases e
    | some r1 =>
      rw [hs] at e
      exact ok_run (ok_step h hs).1 e
def begins : St := ⟨0, 0⟩
theorem ok_begins : begins.ok := by simp [St.ok, begins]

/-- A front goes on just if one of four ends makes it whole. -/
def endsL : List (List Int) := [[], [97], [49], [46, 49]]
theorem goes_on {bare : Bool} {r : St} (h : r.ok) : (endsL.any fun e => acc bare r e) = true := by
  obtain ⟨p, q⟩ := r
  obtain ⟨h1, h2, h3, h4⟩ := h
  simp only at h1 h2 h3 h4
  have : p = 0 ∨ p = 1 ∨ p = 2 ∨ p = 3 ∨ p = 4 ∨ p = 5 ∨ p = 6 := by omega
  have hq : 0 < q + 1 := by omega
  rcases this with rfl | rfl | rfl | rfl | rfl | rfl | rfl <;>
    simp [endsL, acc, runSt, St.step, St.next, St.whole, isLetter, isDigit, isKey, hq]
  have := h4 rfl
  omega
theorem acc_append (bare : Bool) (r : St) (l m : List Int) : acc bare r (l ++ m) = match runSt bare r l with
    | none => false
    | some r' => acc bare r' m := by
  unfold acc
  rw [runSt_append]
  cases runSt bare r l <;> rfl
theorem live_ends {bare : Bool} {r : St} (h : r.ok) (l : List Int) : (endsL.any fun e => acc bare r (l ++ e)) = live bare r l := by
  simp only [acc_append, live]
  cases hr : runSt bare r l with
  | none => simp [endsL]
  | some r' => simpa using goes_on (bare := bare) (ok_run h hr)

/-! ### the document's grammar -/
def splitI (c : Int) : List Int → List (List Int)
  | [] => [[]]
  | x :: l => if x = c then [] :: splitI c l else (x :: (splitI c l).headD []) :: (splitI c l).tail
theorem splitI_ne (c : Int) (l : List Int) : splitI c l ≠ [] := by
  cases l with
  | nil => simp [splitI]
  | cons x l => simp only [splitI]; split <;> simp
theorem splitI_eq (c : Int) (l : List Int) : splitI c l = (splitI c l).headD [] :: (splitI c l).tail := by
  cases h : splitI c l with
  | nil => exact absurd h (splitI_ne c l)
  | cons a b => rfl
def keysP (l : List Int) : Bool := l.all isKey && !l.isEmpty
def numP (l : List Int) : Bool := l.all isDigit && (decide (l = [48]) || (!l.isEmpty && decide (l.headD 0 ≠ 48)))
def isTypeP (l : List Int) : Bool := match l with
  | [] => false
  | c :: _ => if isLetter c = true then keysP l else (splitI 46 l).all numP && decide (1 < (splitI 46 l).length)
def isDescP (l : List Int) : Bool := (splitI 59 l).tail.all keysP && isTypeP ((splitI 59 l).headD [])

theorem key_59 : isKey 59 = false := by decide
theorem digit_key {c : Int} (h : isDigit c = true) : isKey c = true := by simp [isKey, h]
theorem letter_key {c : Int} (h : isLetter c = true) : isKey c = true := by simp [isKey, h]
theorem letter_digit {c : Int} (h : isLetter c = true) : isDigit c = false := by
  simp only [isLetter, isDigit, Bool.or_eq_true, Bool.and_eq_true, decide_eq_true_eq, Bool.and_eq_false_iff, decide_eq_false_iff_not] at *
  omega
theorem digit_letter {c : Int} (h : isDigit c = true) : isLetter c = false := by
  cases hl : isLetter c with
  | false => rfl
  | true => rw [letter_digit hl] at h; cases h
theorem step_full (r : St) (c : Int) : r.step false c = r.next c := by simp [St.step]
theorem acc_nil (b : Bool) (r : St) : acc b r [] = r.whole := rfl
theorem acc_cons (b : Bool) (r : St) (c : Int) (l : List Int) : acc b r (c :: l) = match r.step b c with
    | none => false
    | some r' => acc b r' l := by
  unfold acc
  rw [runSt]
  cases r.step b c <;> rfl
/-- Behind a semicolon, in an option, in a word. -/
theorem acc_keys : ∀ (l : List Int) (p : Int),
    acc false ⟨5, p⟩ l = (keysP ((splitI 59 l).headD []) && (splitI 59 l).tail.all keysP) ∧
    acc false ⟨6, p⟩ l = (((splitI 59 l).headD []).all isKey && (splitI 59 l).tail.all keysP) ∧
    acc false ⟨1, p⟩ l = (((splitI 59 l).headD []).all isKey && (splitI 59 l).tail.all keysP)
  | [], p => by simp [acc_nil, St.whole, splitI, keysP]
  | c :: l, p => by
    have ih := acc_keys l p
    obtain ⟨i5, i6, i1⟩ := ih
    by_cases hc : c = 59
    · subst hc
      simp only [acc_cons, step_full, St.next, if_pos, splitI, List.headD_cons, List.tail_cons, St.whole, keysP]
      refine ⟨by simp, ?_, ?_⟩ <;>
      · rw [splitI_eq 59 l, List.all_cons]
        simpa [keysP] using i5
    · simp only [acc_cons, step_full, St.next, if_neg hc, splitI, List.headD_cons, List.tail_cons, keysP, List.all_cons]
      by_cases hk : isKey c = true
      · simp [hk, i1, i6]
      · have hk' : isKey c = false := by simpa using hk
        have hd : isDigit c = false := by
          cases h : isDigit c with
          | false => rfl
          | true => rw [digit_key h] at hk'; cases hk'
        simp [hk', hd]
theorem numP_cons (c : Int) (l : List Int) : numP (c :: l) = (isDigit c && (if c = 48 then l.isEmpty else l.all isDigit)) := by
  unfold numP
  by_cases h : c = 48
  · subst h
    cases l with
    | nil => decide
    | cons d l => simp
  · simp [h]
/-- In a number, behind its 0, behind a point. -/
theorem acc_nums : ∀ (l : List Int) (p : Int), 0 ≤ p →
    acc false ⟨3, p⟩ l = (((splitI 46 ((splitI 59 l).headD [])).headD []).all isDigit && (splitI 46 ((splitI 59 l).headD [])).tail.all numP && (decide (0 < p) || !(splitI 46 ((splitI 59 l).headD [])).tail.isEmpty) && (splitI 59 l).tail.all keysP) ∧
    acc false ⟨2, p⟩ l = (((splitI 46 ((splitI 59 l).headD [])).headD []).isEmpty && (splitI 46 ((splitI 59 l).headD [])).tail.all numP && (decide (0 < p) || !(splitI 46 ((splitI 59 l).headD [])).tail.isEmpty) && (splitI 59 l).tail.all keysP) ∧
    (1 ≤ p → acc false ⟨4, p⟩ l = (numP ((splitI 46 ((splitI 59 l).headD [])).headD []) && (splitI 46 ((splitI 59 l).headD [])).tail.all numP && (splitI 59 l).tail.all keysP))
  | [], p, hp => by simp [acc_nil, St.whole, splitI, numP]
  | c :: l, p, hp => by
    obtain ⟨i3, i2, i4⟩ := acc_nums l p hp
    obtain ⟨_, _, j4⟩ := acc_nums l (p + 1) (by omega)
    have k5 := (acc_keys l p).1
    have j4 := j4 (by omega)
    by_cases hc : c = 59
    · subst hc
      simp only [acc_cons, step_full, St.next, if_pos, splitI, List.headD_cons, List.tail_cons, St.whole]
      have e := splitI_eq 59 l
      refine ⟨?_, ?_, fun h1 => ?_⟩
      · by_cases hp0 : 0 < p
        · simp [hp0, k5]
          rw [e]; simp
        · simp [hp0]
      · by_cases hp0 : 0 < p
        · simp [hp0, k5]
          rw [e]; simp
        · simp [hp0]
      · simp [numP]
    · by_cases hd : c = 46
      · subst hd
        have e46 : isDigit 46 = false := by decide
        have k46 : isKey 46 = false := by decide
        have l46 : isLetter 46 = false := by decide
        simp only [acc_cons, step_full, St.next, if_neg hc, splitI, if_pos, List.headD_cons, List.tail_cons]
        obtain ⟨a, b, hS⟩ : ∃ a b, splitI 46 ((splitI 59 l).headD []) = a :: b := ⟨_, _, splitI_eq 46 _⟩
        rw [hS] at j4 ⊢
        refine ⟨?_, ?_, fun h1 => ?_⟩
        · simp [e46, k46, l46, j4]
        · simp [e46, k46, l46, j4]
        · simp [e46, k46, l46, numP]
      · simp only [acc_cons, step_full, St.next, if_neg hc, splitI, if_neg hd, List.headD_cons, List.tail_cons, List.all_cons, numP_cons]
        by_cases hg : isDigit c = true
        · by_cases h0 : c = 48
          · subst h0
            refine ⟨?_, ?_, fun h1 => ?_⟩
            · simp [hg, i3]
            · simp
            · simp [hg, i2]
              rw [decide_eq_true (show 0 < p by omega)]
              simp
          · refine ⟨?_, ?_, fun h1 => ?_⟩
            · simp [hg, hd, i3]
            · simp [hd]
            · simp [hg, h0, i3]
              rw [decide_eq_true (show 0 < p by omega)]
              simp
        · have hg' : isDigit c = false := by simpa using hg
          simp [hg', hd]
theorem acc_desc (l : List Int) : acc false begins l = isDescP l := by
  unfold begins isDescP
  cases l with
  | nil => simp [acc_nil, St.whole, splitI, isTypeP]
  | cons c l =>
    obtain ⟨i3, i2, _⟩ := acc_nums l 0 (by omega)
    obtain ⟨_, _, i1⟩ := acc_keys l 0
    by_cases hc : c = 59
    · subst hc
      simp [acc_cons, step_full, St.next, St.whole, splitI, isTypeP]
    · simp only [acc_cons, step_full, St.next, if_neg hc, splitI, List.headD_cons, List.tail_cons, isTypeP]
      by_cases hl : isLetter c = true
      · simp [hl, i1, keysP, letter_key hl]
        rw [Bool.and_comm]
      · have hl' : isLetter c = false := by simpa using hl
        by_cases hd : c = 46
        · subst hd
          simp [hl', isDigit, numP]
        · simp only [splitI, if_neg hd, List.all_cons, numP_cons]
          obtain ⟨a, b, hS⟩ : ∃ a b, splitI 46 ((splitI 59 l).headD []) = a :: b := ⟨_, _, splitI_eq 46 _⟩
          rw [hS] at i2 i3 ⊢
          have hb : decide (0 < b.length) = !b.isEmpty := by cases b <;> simp
          by_cases hg : isDigit c = true
          · by_cases h0 : c = 48
            · subst h0
              simp [hg, hl', i2, hb, Bool.and_comm, Bool.and_left_comm]
            · simp [hg, hl', h0, i3, hb, Bool.and_comm, Bool.and_left_comm]
          · have hg' : isDigit c = false := by simpa using hg
            simp [hg', hl', hd]
/-- Bare: no semicolon, and else as ever. -/
theorem acc_bare : ∀ (l : List Int) (r : St), acc true r l = ((l.all fun c => decide (c ≠ 59)) && acc false r l)
  | [], r => by simp [acc_nil]
  | c :: l, r => by
    rw [acc_cons, acc_cons, step_full, List.all_cons]
    by_cases hc : c = 59
    · subst hc
      simp [St.step]
    · have e : r.step true c = r.next c := by simp [St.step, hc]
      rw [e]
      cases r.next c with
      | none => simp
      | some r' => simp [acc_bare l r', hc]
theorem splitI_none {c : Int} : ∀ {l : List Int}, (l.all fun x => decide (x ≠ c)) = true → splitI c l = [l]
  | [], _ => rfl
  | x :: l, h => by
    simp only [List.all_cons, Bool.and_eq_true, decide_eq_true_eq] at h
    rw [splitI, if_neg h.1, splitI_none h.2]
    rfl
theorem all_split {c : Int} {f : Int → Bool} : ∀ {l : List Int}, (splitI c l).all (fun m => m.all f) = true → ∀ x ∈ l, x = c ∨ f x = true
  | [], _, x, hx => by cases hx
  | y :: l, h, x, hx => by
    rw [splitI] at h
    split at h
    · rename_i hy
      rcases List.mem_cons.1 hx with rfl | hx
      · exact Or.inl hy
      · exact all_split (l := l) (by simpa using h) x hx
    · rename_i hy
      have h' : f y = true ∧ (splitI c l).all (fun m => m.all f) = true := by
        rw [splitI_eq c l]
        simp only [List.all_cons, Bool.and_eq_true] at h ⊢
        exact ⟨h.1.1, h.1.2, h.2⟩
      rcases List.mem_cons.1 hx with rfl | hx
      · exact Or.inr h'.1
      · exact all_split h'.2 x hx
theorem type_free {l : List Int} (h : isTypeP l = true) : (l.all fun c => decide (c ≠ 59)) = true := by
  unfold isTypeP at h
  split at h
  · cases h
  · rename_i c m
    rw [List.all_eq_true]
    intro x hx
    split at h
    · simp only [keysP, Bool.and_eq_true] at h
      have := List.all_eq_true.1 h.1 x hx
      simp only [decide_eq_true_eq]
      rintro rfl
      rw [key_59] at this
      cases this
    · simp only [Bool.and_eq_true] at h
      have h2 : (splitI 46 (c :: m)).all (fun m => m.all isDigit) = true := by
        rw [List.all_eq_true] at h ⊢
        intro y hy
        have := h.1 y hy
        simp only [numP, Bool.and_eq_true] at this
        exact this.1
      simp only [decide_eq_true_eq]
      rintro rfl
      rcases all_split h2 59 hx with e | e
      · cases e
      · revert e; decide
theorem acc_type (l : List Int) : acc true begins l = isTypeP l := by
  rw [acc_bare, acc_desc]
  by_cases h : (l.all fun c => decide (c ≠ 59)) = true
  · rw [h, isDescP, splitI_none h]
    simp
  · have h' : (l.all fun c => decide (c ≠ 59)) = false := by simpa using h
    rw [h']
    cases ht : isTypeP l with
    | false => rfl
    | true => rw [type_free ht] at h'; cases h'

/-! ### the place, by halving -/
def goesL (bare : Bool) (l : List Int) : Bool := endsL.any fun e => acc bare begins (l ++ e)
theorem goes_live (bare : Bool) (l : List Int) : goesL bare l = live bare begins l := live_ends ok_begins l
theorem goes_place (bare : Bool) (l : List Int) (p : Nat) (hp : p ≤ l.length) : goesL bare (l.take p) = decide (p ≤ (scanL bare l).2) := by
  rw [goes_live]
  have := (scanFrom_place bare l begins 0).2.2 p hp
  rw [Nat.zero_add] at this
  by_cases h : p ≤ (scanL bare l).2
  · rw [decide_eq_true h]; exact this.2 h
  · rw [decide_eq_false h]
    cases hl : live bare begins (l.take p) with
    | false => rfl
    | true => exact absurd (this.1 hl) h
theorem scanL_acc (bare : Bool) (l : List Int) : (scanL bare l).1 = acc bare begins l := scanFrom_acc bare l begins 0
theorem scanL_le (bare : Bool) (l : List Int) : (scanL bare l).2 ≤ l.length := by
  have := (scanFrom_place bare l begins 0).2.1
  rw [Nat.zero_add] at this
  exact this
end Go.Proofs.YtdonopoijbokiaaDoor
