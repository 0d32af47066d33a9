/- A switch over a text's constants, read off the code by a function and proved once for every such code. -/
import Derived.Test.YtdonopoijbokiaaDoorBase
namespace Go.Proofs.YtdonopoijbokiaaDoor
open Go.RowKit

theorem wp_eqRegion {Q : Exit → Act → World → Prop} {a : Act} {w : World} {s c : ByteArray} {id t d : Nat} {ty1 ty2 : TypeId} {p1 p2 : String} {f1 f2 : Array Edge} (ht : t < a.tmps.size) (hs : a.tmps.getD 4 undef = .string s)
    (h : Q .normal { a with tmps := (a.tmps.setIfInBounds t (.bool (s.toList == c.toList))).setIfInBounds d (.bool (s.toList == c.toList)) } w) :
    (Code.region id #[{ dst := some t, op := .binOp .eql 9 (.tmp 4) (.const (.string c)) 9, type := ty1, pos := p1, after := f1, guard := none }, { dst := some d, op := .assign (.tmp t), type := ty2, pos := p2, after := f2, guard := none }] false).wp Tryd.prog Q a w := by
  refine wp_region_lit (l := [_, _]) ?_
  go_wp2
  exact h

theorem wp_setRegion {Q : Exit → Act → World → Prop} {a : Act} {w : World} {id : Nat} {r : Int} {ty1 ty2 : TypeId} {p1 p2 : String} {f1 f2 : Array Edge}
    (h : Q .normal { a with tmps := (a.tmps.setIfInBounds 2 (.int .i64 r)).setIfInBounds 3 (.bool true) } w) :
    (Code.region id #[{ dst := some 2, op := .assign (.const (.int .i64 r)), type := ty1, pos := p1, after := f1, guard := none }, { dst := some 3, op := .assign (.const (.bool true)), type := ty2, pos := p2, after := f2, guard := none }] false).wp Tryd.prog Q a w := by
  refine wp_region_lit (l := [_, _]) ?_
  go_wp2
  exact h

/-- One test's operation; one move's; one constant's. -/
def eqOper : Oper → Option (Nat × ByteArray)
  | ⟨some t, .binOp .eql ty (.tmp k) (.const (.string c)) ty', _, _, _, none⟩ => if ty = 9 ∧ k = 4 ∧ ty' = 9 then some (t, c) else none
  | _ => none
def movOper : Oper → Option (Nat × Nat)
  | ⟨some d, .assign (.tmp t), _, _, _, none⟩ => some (d, t)
  | _ => none
def intOper : Oper → Option Int
  | ⟨some k, .assign (.const (.int .i64 r)), _, _, _, none⟩ => if k = 2 then some r else none
  | _ => none
def boolOper : Oper → Bool
  | ⟨some k, .assign (.const (.bool b)), _, _, _, none⟩ => k == 3 && b
  | _ => false
theorem eqOper_is {o : Oper} {t : Nat} {c : ByteArray} (h : eqOper o = some (t, c)) : ∃ ty p f, o = { dst := some t, op := .binOp .eql 9 (.tmp 4) (.const (.string c)) 9, type := ty, pos := p, after := f, guard := none } := by
  unfold eqOper at h
  split at h
  · split at h
    · rename_i hc
      obtain ⟨rfl, rfl, rfl⟩ := hc
      simp only [Option.some.injEq, Prod.mk.injEq] at h
      obtain ⟨rfl, rfl⟩ := h
      exact ⟨_, _, _, rfl⟩
    · cases h
  · cases h
theorem movOper_is {o : Oper} {d t : Nat} (h : movOper o = some (d, t)) : ∃ ty p f, o = { dst := some d, op := .assign (.tmp t), type := ty, pos := p, after := f, guard := none } := by
  unfold movOper at h
  split at h
  · simp only [Option.some.injEq, Prod.mk.injEq] at h
    obtain ⟨rfl, rfl⟩ := h
    exact ⟨_, _, _, rfl⟩
  · cases h
theorem intOper_is {o : Oper} {r : Int} (h : intOper o = some r) : ∃ ty p f, o = { dst := some 2, op := .assign (.const (.int .i64 r)), type := ty, pos := p, after := f, guard := none } := by
  unfold intOper at h
  split at h
  · split at h
    · rename_i hc
      subst hc
      simp only [Option.some.injEq] at h
      subst h
      exact ⟨_, _, _, rfl⟩
    · cases h
  · cases h
theorem boolOper_is {o : Oper} (h : boolOper o = true) : ∃ ty p f, o = { dst := some 3, op := .assign (.const (.bool true)), type := ty, pos := p, after := f, guard := none } := by
  unfold boolOper at h
  split at h
  · simp only [Bool.and_eq_true, beq_iff_eq] at h
    obtain ⟨rfl, rfl⟩ := h
    exact ⟨_, _, _, rfl⟩
  · cases h
/-- The constant and the slots of one test. -/
def eqOf (n : Nat) : Code → Option (ByteArray × Nat)
  | .region _ ops false => match ops.toList with
    | [o1, o2] => (eqOper o1).bind fun (t, c) => (movOper o2).bind fun (d, t') => if t = t' ∧ t < n ∧ 4 < t ∧ 4 < d ∧ d < n then some (c, d) else none
    | _ => none
  | _ => none
/-- The result of one case. -/
def retOf (n : Nat) : Code → Option Int
  | .region _ ops false => match ops.toList with
    | [o1, o2] => if boolOper o2 = true ∧ 4 < n then intOper o1 else none
    | _ => none
  | _ => none
/-- The tests of one case: all write slot d. -/
def testsOf (n : Nat) : Code → Option (List ByteArray × Nat)
  | .seq x (.cond (.tmp d') .skip y) => (eqOf n x).bind fun (c, d) => (testsOf n y).bind fun (l, e) => if d = d' ∧ e = d then some (c :: l, d) else none
  | x => (eqOf n x).map fun (c, d) => ([c], d)
/-- The whole switch: the constants of each case and its answer. -/
def chainOf (n : Nat) : Code → Option (List (List ByteArray × Int))
  | .seq x (.cond (.tmp d') (.seq y .ret) rest) => (testsOf n x).bind fun (l, d) => (retOf n y).bind fun r => (chainOf n rest).bind fun m => if d = d' then some ((l, r) :: m) else none
  | .skip => some []
  | _ => none

def hit (s : ByteArray) (l : List ByteArray) : Bool := l.any fun c => s.toList == c.toList
def look (s : ByteArray) : List (List ByteArray × Int) → Option Int
  | [] => none
  | (l, r) :: m => if hit s l then some r else look s m

/-- What a switch leaves as it was. -/
structure Left (n : Nat) (s : ByteArray) (a : Act) : Prop where
  size : a.tmps.size = n
  text : a.tmps.getD 4 undef = .string s

theorem ops2 {ops : Array Oper} {o1 o2 : Oper} (h : ops.toList = [o1, o2]) : ops = #[o1, o2] := by
  cases ops
  simpa using h
theorem eqOf_wp {n : Nat} {x : Code} {c : ByteArray} {d : Nat} (h : eqOf n x = some (c, d)) {Q : Exit → Act → World → Prop} {a : Act} {w : World} {s : ByteArray} (ha : Left n s a)
    (hq : ∀ a', Left n s a' → a'.defers = a.defers → a'.tmps.getD d undef = .bool (s.toList == c.toList) → (∀ j, j < 5 → a'.tmps.getD j undef = a.tmps.getD j undef) → Q .normal a' w) : x.wp Tryd.prog Q a w := by
  unfold eqOf at h
  split at h
  · split at h
    · rename_i id ops o1 o2 ho
      simp only [Option.bind_eq_some_iff, Prod.exists] at h
      obtain ⟨t, c', e1, d', t', e2, h⟩ := h
      split at h
      · rename_i hc
        obtain ⟨rfl, h1, h2, h3, h4⟩ := hc
        simp only [Option.some.injEq, Prod.mk.injEq] at h
        obtain ⟨rfl, rfl⟩ := h
        obtain ⟨ty1, p1, f1, rfl⟩ := eqOper_is e1
        obtain ⟨ty2, p2, f2, rfl⟩ := movOper_is e2
        rw [ops2 ho]
        refine wp_eqRegion (by rw [ha.size]; exact h1) ha.text (hq _ ⟨by simpa using ha.size, ?_⟩ rfl ?_ ?_)
        · have := ha.text
          simp only [Array.getD_eq_getD_getElem?, Array.getElem?_setIfInBounds] at this ⊢
          rw [if_neg (by omega), if_neg (by omega)]
          exact this
        · simp only [Array.getD_eq_getD_getElem?, Array.getElem?_setIfInBounds, Array.size_setIfInBounds]
          rw [if_pos trivial, if_pos (by rw [ha.size]; exact h4)]
          rfl
        · intro j hj
          simp only [Array.getD_eq_getD_getElem?, Array.getElem?_setIfInBounds]
          rw [if_neg (by omega), if_neg (by omega)]
      · cases h
    · cases h
  · cases h
theorem retOf_wp {n : Nat} {x : Code} {r : Int} (h : retOf n x = some r) {Q : Exit → Act → World → Prop} {a : Act} {w : World} (ha : a.tmps.size = n)
    (hq : ∀ a', a'.defers = a.defers → a'.tmps.size = n → a'.tmps.getD 2 undef = .int .i64 r → a'.tmps.getD 3 undef = .bool true → Q .normal a' w) : x.wp Tryd.prog Q a w := by
  unfold retOf at h
  split at h
  · split at h
    · rename_i id ops o1 o2 ho
      split at h
      · rename_i hc
        obtain ⟨hb, hn⟩ := hc
        obtain ⟨ty1, p1, f1, rfl⟩ := intOper_is h
        obtain ⟨ty2, p2, f2, rfl⟩ := boolOper_is hb
        rw [ops2 ho]
        refine wp_setRegion (hq _ rfl (by simpa using ha) ?_ ?_)
        · simp only [Array.getD_eq_getD_getElem?, Array.getElem?_setIfInBounds, Array.size_setIfInBounds]
          rw [if_neg (by omega), if_pos trivial, if_pos (by omega)]
          rfl
        · simp only [Array.getD_eq_getD_getElem?, Array.getElem?_setIfInBounds, Array.size_setIfInBounds]
          rw [if_pos trivial, if_pos (by omega)]
          rfl
      · cases h
    · cases h
  · cases h

theorem testsOf_wp {n : Nat} {s : ByteArray} {w : World} : ∀ {x : Code} {l : List ByteArray} {d : Nat}, testsOf n x = some (l, d) → ∀ {Q : Exit → Act → World → Prop} {a : Act}, Left n s a →
    (∀ a', Left n s a' → a'.defers = a.defers → a'.tmps.getD d undef = .bool (hit s l) → (∀ j, j < 5 → a'.tmps.getD j undef = a.tmps.getD j undef) → Q .normal a' w) → x.wp Tryd.prog Q a w := by
  intro x
  induction x using testsOf.induct with
  | case1 x d' y ih =>
    intro l d h Q a ha hq
    simp only [testsOf, Option.bind_eq_some_iff, Prod.exists] at h
    obtain ⟨c, d1, h1, l1, e1, h2, h3⟩ := h
    split at h3
    · rename_i hc
      obtain ⟨rfl, rfl⟩ := hc
      simp only [Option.some.injEq, Prod.mk.injEq] at h3
      obtain ⟨rfl, rfl⟩ := h3
      refine wp_seq (eqOf_wp h1 ha fun a1 ha1 hd1 ht1 hk1 => ?_)
      show Code.wp _ _ _ a1 w
      refine wp_cond_split (t := s.toList == c.toList) ht1 (fun e => ?_) (fun e => ?_)
      · exact wp_skip (hq a1 ha1 hd1 (by rw [ht1, hit, List.any_cons, e, Bool.true_or]) hk1)
      · exact ih h2 ha1 fun a2 ha2 hd2 ht2 hk2 => hq a2 ha2 (hd2.trans hd1) (by rw [ht2, hit, hit, List.any_cons, e, Bool.false_or]) fun j hj => (hk2 j hj).trans (hk1 j hj)
    · exact absurd h3 (by simp)
  | case2 x hx =>
    intro l d h Q a ha hq
    unfold testsOf at h
    split at h
    · exact absurd rfl (hx _ _ _)
    · obtain ⟨⟨c, d1⟩, h1, h2⟩ := Option.map_eq_some_iff.1 h
      simp only [Prod.mk.injEq] at h2
      obtain ⟨rfl, rfl⟩ := h2
      exact eqOf_wp h1 ha fun a1 ha1 hd1 ht1 hk1 => hq a1 ha1 hd1 (by rw [ht1, hit, List.any_cons, List.any_nil, Bool.or_false]) hk1

theorem chainOf_wp {n : Nat} {s : ByteArray} {w : World} : ∀ {x : Code} {m : List (List ByteArray × Int)}, chainOf n x = some m → ∀ {Q : Exit → Act → World → Prop} {a : Act}, Left n s a →
    (∀ r, look s m = some r → ∀ a', a'.defers = a.defers → a'.tmps.size = n → a'.tmps.getD 2 undef = .int .i64 r → a'.tmps.getD 3 undef = .bool true → Q .ret a' w) →
    (look s m = none → ∀ a', a'.defers = a.defers → a'.tmps.size = n → (∀ j, j < 5 → a'.tmps.getD j undef = a.tmps.getD j undef) → Q .normal a' w) → x.wp Tryd.prog Q a w := by
  intro x
  induction x using chainOf.induct with
  | case1 x d' y rest ih =>
    intro m h Q a ha hr hn
    simp only [chainOf, Option.bind_eq_some_iff, Prod.exists] at h
    obtain ⟨l, d, h1, r, h2, m1, h3, h4⟩ := h
    split at h4
    · rename_i hc
      subst hc
      simp only [Option.some.injEq] at h4
      subst h4
      refine wp_seq (testsOf_wp h1 ha fun a1 ha1 hd1 ht1 hk1 => ?_)
      show Code.wp _ _ _ a1 w
      refine wp_cond_split (t := hit s l) ht1 (fun e => ?_) (fun e => ?_)
      · refine wp_seq ?_
        refine retOf_wp h2 ha1.size fun a2 hd2 hs2 h2' h3' => ?_
        show Code.wp _ _ _ a2 w
        exact wp_ret (hr _ (by rw [look, if_pos e]) _ (hd2.trans hd1) hs2 h2' h3')
      · exact ih h3 ha1 (fun r' e' a2 hd2 hs2 h2' h3' => hr r' (by rw [look, if_neg (by simp [e])]; exact e') a2 (hd2.trans hd1) hs2 h2' h3')
          (fun e' a2 hd2 hs2 hk2 => hn (by rw [look, if_neg (by simp [e])]; exact e') a2 (hd2.trans hd1) hs2 fun j hj => (hk2 j hj).trans (hk1 j hj))
    · exact absurd h4 (by simp)
  | case2 =>
    intro m h Q a ha hr hn
    simp only [chainOf, Option.some.injEq] at h
    subst h
    exact wp_skip (hn rfl a rfl ha.size fun _ _ => rfl)
  | case3 x h1 h2 =>
    intro m h
    unfold chainOf at h
    split at h
    · exact absurd rfl (h1 _ _ _ _)
    · exact absurd rfl h2
    · exact absurd h (by simp)
end Go.Proofs.YtdonopoijbokiaaDoor
