/- What the walks of this seat lean on: the program, the kit's walk, the print's words; and small facts of the translation. A straight piece of code, run by the kernel. A switch over a text's constants, read off the code by a function and proved once for every such code. attr.byName, attr.laterName: the row that a text names. rosterref04.names: the table of names. rosterref04.kinds: the table of super types, syntaxes and usages, as the row lists it. A map of texts to numbers that the call itself has made: which texts it holds. -/
import Derived.Test.YtdonopoijbokiaaDoorProg
import Derived.Test.YtdonopoijbokiaaDoorWMore
import Derived.WalkKit
import Derived.Outline
import Derived.Lib.Hide
import Derived.Lib.ConvBytes
import Derived.LoopTactic
import Derived.BigQuiet
import Derived.Deep.QuietTactic
import Derived.WalkLawsBesides
import Derived.WalkSpells
import Derived.Deep.CutBlock
import Derived.Deep.DeepCutAuto
import Derived.Laws.Tables
import Derived.Laws.Rows
import Derived.Test.YtdonopoijbokiaaDoorB1
import Derived.Maps.Own
import Derived.Maps.Views
import Derived.StringKeys
import Derived.MapFrom
import Derived.Sort.KeysCollected
set_option linter.unusedVariables false
set_option linter.unusedSimpArgs false

/-! ### Base -/
namespace Go.Proofs.YtdonopoijbokiaaDoor
open Go.RowKit

theorem info5 : (Tryd.prog.info? 5).map (fun i => (i.zero, i.size, i.bytes)) = some (some (.int .u8 0), 1, 1) := by kernel_rfl
theorem info9 : (Tryd.prog.info? 9).map (fun i => (i.zero, i.size, i.bytes)) = some (some (.string ⟨#[]⟩), 1, 16) := by kernel_rfl
end Go.Proofs.YtdonopoijbokiaaDoor

/-! ### Run -/
namespace Go.Proofs.YtdonopoijbokiaaDoor
open Go.RowKit

/-- Operations that yield a value, one behind the other. -/
def runL (P : Program) : List Oper → Act → World → Option (Act × World)
  | [], a, w => some (a, w)
  | o :: l, a, w => match o.guard, (execOp a.eval o).run P w with
    | none, .ok (.value v) w' => runL P l (a.put o.dst v) w'
    | _, _ => none

theorem runL_wp {P : Program} {ops : Array Oper} {Q : Exit → Act → World → Prop} {r : List Oper} : ∀ {l : List Oper} {a a' : Act} {w w' : World}, runL P l a w = some (a', w') → wpList P ops Q r a' w' → wpList P ops Q (l ++ r) a w
  | [], a, a', w, w', h, hq => by
    simp only [runL, Option.some.injEq, Prod.mk.injEq] at h
    obtain ⟨rfl, rfl⟩ := h
    exact hq
  | o :: l, a, a', w, w', h, hq => by
    unfold runL at h
    split at h
    · rename_i v w1 hg hr
      refine wpList_plain hg fun K hK => ?_
      unfold Oper.wp
      rw [hr, Oper.upon_value]
      exact hK _ _ (runL_wp h hq)
    · cases h

end Go.Proofs.YtdonopoijbokiaaDoor

/-! ### Chain -/
namespace Go.Proofs.YtdonopoijbokiaaDoor
open Go.RowKit

theorem wp_eqRegion {Q : Exit → Act → World → Prop} {a : Act} {w : World} {s c : ByteArray} {id t d : Nat} {ty1 ty2 : TypeId} {p1 p2 : String} {f1 f2 : Array Edge} (ht : t < a.tmps.size) (hs : a.tmps.getD 4 undef = .string s)
    (h : Q .normal { a with tmps := (a.tmps.setIfInBounds t (.bool (s.toList == c.toList))).setIfInBounds d (.bool (s.toList == c.toList)) } w) :
    (Code.region id #[{ dst := some t, op := .binOp .eql 9 (.tmp 4) (.const (.string c)) 9, type := ty1, pos := p1, after := f1, guard := none }, { dst := some d, op := .assign (.tmp t), type := ty2, pos := p2, after := f2, guard := none }] false).wp Tryd.prog Q a w := by
  refine wp_region_lit (l := [_, _]) ?_
  go_wp2
  exact h

theorem wp_setRegion {Q : Exit → Act → World → Prop} {a : Act} {w : World} {id : Nat} {r : Int} {ty1 ty2 : TypeId} {p1 p2 : String} {f1 f2 : Array Edge}
    (h : Q .normal { a with tmps := (a.tmps.setIfInBounds 2 (.int .i64 r)).setIfInBounds 3 (.bool true) } w) :
    (Code.region id #[{ dst := some 2, op := .assign (.const (.int .i64 r)), type := ty1, pos := p1, after := f1, guard := none }, { dst := some 3, op := .assign (.const (.bool true)), type := ty2, pos := p2, after := f2, guard := none }] false).wp Tryd.prog Q a w := by
  refine wp_region_lit (l := [_, _]) ?_
  go_wp2
  exact h

/-- One test's operation; one move's; one constant's. -/
def eqOper : Oper → Option (Nat × ByteArray)
  | ⟨some t, .binOp .eql ty (.tmp k) (.const (.string c)) ty', _, _, _, none⟩ => if ty = 9 ∧ k = 4 ∧ ty' = 9 then some (t, c) else none
  | _ => none
def movOper : Oper → Option (Nat × Nat)
  | ⟨some d, .assign (.tmp t), _, _, _, none⟩ => some (d, t)
  | _ => none
def intOper : Oper → Option Int
  | ⟨some k, .assign (.const (.int .i64 r)), _, _, _, none⟩ => if k = 2 then some r else none
  | _ => none
def boolOper : Oper → Bool
  | ⟨some k, .assign (.const (.bool b)), _, _, _, none⟩ => k == 3 && b
  | _ => false
theorem eqOper_is {o : Oper} {t : Nat} {c : ByteArray} (h : eqOper o = some (t, c)) : ∃ ty p f, o = { dst := some t, op := .binOp .eql 9 (.tmp 4) (.const (.string c)) 9, type := ty, pos := p, after := f, guard := none } := by
  unfold eqOper at h
  split at h
  · split at h
    · rename_i hc
      obtain ⟨rfl, rfl, rfl⟩ := hc
      simp only [Option.some.injEq, Prod.mk.injEq] at h
      obtain ⟨rfl, rfl⟩ := h
      exact ⟨_, _, _, rfl⟩
    · cases h
  · cases h
theorem movOper_is {o : Oper} {d t : Nat} (h : movOper o = some (d, t)) : ∃ ty p f, o = { dst := some d, op := .assign (.tmp t), type := ty, pos := p, after := f, guard := none } := by
  unfold movOper at h
  split at h
  · simp only [Option.some.injEq, Prod.mk.injEq] at h
    obtain ⟨rfl, rfl⟩ := h
    exact ⟨_, _, _, rfl⟩
  · cases h
theorem intOper_is {o : Oper} {r : Int} (h : intOper o = some r) : ∃ ty p f, o = { dst := some 2, op := .assign (.const (.int .i64 r)), type := ty, pos := p, after := f, guard := none } := by
  unfold intOper at h
  split at h
  · split at h
    · rename_i hc
      subst hc
      simp only [Option.some.injEq] at h
      subst h
      exact ⟨_, _, _, rfl⟩
    · cases h
  · cases h
theorem boolOper_is {o : Oper} (h : boolOper o = true) : ∃ ty p f, o = { dst := some 3, op := .assign (.const (.bool true)), type := ty, pos := p, after := f, guard := none } := by
  unfold boolOper at h
  split at h
  · simp only [Bool.and_eq_true, beq_iff_eq] at h
    obtain ⟨rfl, rfl⟩ := h
    exact ⟨_, _, _, rfl⟩
  · cases h
/-- The constant and the slots of one test. -/
def eqOf (n : Nat) : Code → Option (ByteArray × Nat)
  | .region _ ops false => match ops.toList with
    | [o1, o2] => (eqOper o1).bind fun (t, c) => (movOper o2).bind fun (d, t') => if t = t' ∧ t < n ∧ 4 < t ∧ 4 < d ∧ d < n then some (c, d) else none
    | _ => none
  | _ => none
/-- The result of one case. -/
def retOf (n : Nat) : Code → Option Int
  | .region _ ops false => match ops.toList with
    | [o1, o2] => if boolOper o2 = true ∧ 4 < n then intOper o1 else none
    | _ => none
  | _ => none
/-- The tests of one case: all write slot d. -/
def testsOf (n : Nat) : Code → Option (List ByteArray × Nat)
  | .seq x (.cond (.tmp d') .skip y) => (eqOf n x).bind fun (c, d) => (testsOf n y).bind fun (l, e) => if d = d' ∧ e = d then some (c :: l, d) else none
  | x => (eqOf n x).map fun (c, d) => ([c], d)
/-- The whole switch: the constants of each case and its answer. -/
def chainOf (n : Nat) : Code → Option (List (List ByteArray × Int))
  | .seq x (.cond (.tmp d') (.seq y .ret) rest) => (testsOf n x).bind fun (l, d) => (retOf n y).bind fun r => (chainOf n rest).bind fun m => if d = d' then some ((l, r) :: m) else none
  | .skip => some []
  | _ => none

def hit (s : ByteArray) (l : List ByteArray) : Bool := l.any fun c => s.toList == c.toList
def look (s : ByteArray) : List (List ByteArray × Int) → Option Int
  | [] => none
  | (l, r) :: m => if hit s l then some r else look s m

/-- What a switch leaves as it was. -/
structure Left (n : Nat) (s : ByteArray) (a : Act) : Prop where
  size : a.tmps.size = n
  text : a.tmps.getD 4 undef = .string s

theorem ops2 {ops : Array Oper} {o1 o2 : Oper} (h : ops.toList = [o1, o2]) : ops = #[o1, o2] := by
  cases ops
  simpa using h
theorem eqOf_wp {n : Nat} {x : Code} {c : ByteArray} {d : Nat} (h : eqOf n x = some (c, d)) {Q : Exit → Act → World → Prop} {a : Act} {w : World} {s : ByteArray} (ha : Left n s a)
    (hq : ∀ a', Left n s a' → a'.defers = a.defers → a'.tmps.getD d undef = .bool (s.toList == c.toList) → (∀ j, j < 5 → a'.tmps.getD j undef = a.tmps.getD j undef) → Q .normal a' w) : x.wp Tryd.prog Q a w := by
  unfold eqOf at h
  split at h
  · split at h
    · rename_i id ops o1 o2 ho
      simp only [Option.bind_eq_some_iff, Prod.exists] at h
      obtain ⟨t, c', e1, d', t', e2, h⟩ := h
      split at h
      · rename_i hc
        obtain ⟨rfl, h1, h2, h3, h4⟩ := hc
        simp only [Option.some.injEq, Prod.mk.injEq] at h
        obtain ⟨rfl, rfl⟩ := h
        obtain ⟨ty1, p1, f1, rfl⟩ := eqOper_is e1
        obtain ⟨ty2, p2, f2, rfl⟩ := movOper_is e2
        rw [ops2 ho]
        refine wp_eqRegion (by rw [ha.size]; exact h1) ha.text (hq _ ⟨by simpa using ha.size, ?_⟩ rfl ?_ ?_)
        · have := ha.text
          simp only [Array.getD_eq_getD_getElem?, Array.getElem?_setIfInBounds] at this ⊢
          rw [if_neg (by omega), if_neg (by omega)]
          exact this
        · simp only [Array.getD_eq_getD_getElem?, Array.getElem?_setIfInBounds, Array.size_setIfInBounds]
          rw [if_pos trivial, if_pos (by rw [ha.size]; exact h4)]
          rfl
        · intro j hj
          simp only [Array.getD_eq_getD_getElem?, Array.getElem?_setIfInBounds]
          rw [if_neg (by omega), if_neg (by omega)]
      · cases h
    · cases h
  · cases h
theorem retOf_wp {n : Nat} {x : Code} {r : Int} (h : retOf n x = some r) {Q : Exit → Act → World → Prop} {a : Act} {w : World} (ha : a.tmps.size = n)
    (hq : ∀ a', a'.defers = a.defers → a'.tmps.size = n → a'.tmps.getD 2 undef = .int .i64 r → a'.tmps.getD 3 undef = .bool true → Q .normal a' w) : x.wp Tryd.prog Q a w := by
  unfold retOf at h
  split at h
  · split at h
    · rename_i id ops o1 o2 ho
      split at h
      · rename_i hc
        obtain ⟨hb, hn⟩ := hc
        obtain ⟨ty1, p1, f1, rfl⟩ := intOper_is h
        obtain ⟨ty2, p2, f2, rfl⟩ := boolOper_is hb
        rw [ops2 ho]
        refine wp_setRegion (hq _ rfl (by simpa using ha) ?_ ?_)
        · simp only [Array.getD_eq_getD_getElem?, Array.getElem?_setIfInBounds, Array.size_setIfInBounds]
          rw [if_neg (by omega), if_pos trivial, if_pos (by omega)]
          rfl
        · simp only [Array.getD_eq_getD_getElem?, Array.getElem?_setIfInBounds, Array.size_setIfInBounds]
          rw [if_pos trivial, if_pos (by omega)]
          rfl
      · cases h
    · cases h
  · cases h

theorem testsOf_wp {n : Nat} {s : ByteArray} {w : World} : ∀ {x : Code} {l : List ByteArray} {d : Nat}, testsOf n x = some (l, d) → ∀ {Q : Exit → Act → World → Prop} {a : Act}, Left n s a →
    (∀ a', Left n s a' → a'.defers = a.defers → a'.tmps.getD d undef = .bool (hit s l) → (∀ j, j < 5 → a'.tmps.getD j undef = a.tmps.getD j undef) → Q .normal a' w) → x.wp Tryd.prog Q a w := by
  intro x
  induction x using testsOf.induct with
  | case1 x d' y ih =>
    intro l d h Q a ha hq
    simp only [testsOf, Option.bind_eq_some_iff, Prod.exists] at h
    obtain ⟨c, d1, h1, l1, e1, h2, h3⟩ := h
    split at h3
    · rename_i hc
      obtain ⟨rfl, rfl⟩ := hc
      simp only [Option.some.injEq, Prod.mk.injEq] at h3
      obtain ⟨rfl, rfl⟩ := h3
      refine wp_seq (eqOf_wp h1 ha fun a1 ha1 hd1 ht1 hk1 => ?_)
      show Code.wp _ _ _ a1 w
      refine wp_cond_split (t := s.toList == c.toList) ht1 (fun e => ?_) (fun e => ?_)
      · exact wp_skip (hq a1 ha1 hd1 (by rw [ht1, hit, List.any_cons, e, Bool.true_or]) hk1)
      · exact ih h2 ha1 fun a2 ha2 hd2 ht2 hk2 => hq a2 ha2 (hd2.trans hd1) (by rw [ht2, hit, hit, List.any_cons, e, Bool.false_or]) fun j hj => (hk2 j hj).trans (hk1 j hj)
    · exact absurd h3 (by simp)
  | case2 x hx =>
    intro l d h Q a ha hq
    unfold testsOf at h
    split at h
    · exact absurd rfl (hx _ _ _)
    · obtain ⟨⟨c, d1⟩, h1, h2⟩ := Option.map_eq_some_iff.1 h
      simp only [Prod.mk.injEq] at h2
      obtain ⟨rfl, rfl⟩ := h2
      exact eqOf_wp h1 ha fun a1 ha1 hd1 ht1 hk1 => hq a1 ha1 hd1 (by rw [ht1, hit, List.any_cons, List.any_nil, Bool.or_false]) hk1

theorem chainOf_wp {n : Nat} {s : ByteArray} {w : World} : ∀ {x : Code} {m : List (List ByteArray × Int)}, chainOf n x = some m → ∀ {Q : Exit → Act → World → Prop} {a : Act}, Left n s a →
    (∀ r, look s m = some r → ∀ a', a'.defers = a.defers → a'.tmps.size = n → a'.tmps.getD 2 undef = .int .i64 r → a'.tmps.getD 3 undef = .bool true → Q .ret a' w) →
    (look s m = none → ∀ a', a'.defers = a.defers → a'.tmps.size = n → (∀ j, j < 5 → a'.tmps.getD j undef = a.tmps.getD j undef) → Q .normal a' w) → x.wp Tryd.prog Q a w := by
  intro x
  induction x using chainOf.induct with
  | case1 x d' y rest ih =>
    intro m h Q a ha hr hn
    simp only [chainOf, Option.bind_eq_some_iff, Prod.exists] at h
    obtain ⟨l, d, h1, r, h2, m1, h3, h4⟩ := h
    split at h4
    · rename_i hc
      subst hc
      simp only [Option.some.injEq] at h4
      subst h4
      refine wp_seq (testsOf_wp h1 ha fun a1 ha1 hd1 ht1 hk1 => ?_)
      show Code.wp _ _ _ a1 w
      refine wp_cond_split (t := hit s l) ht1 (fun e => ?_) (fun e => ?_)
      · refine wp_seq ?_
        refine retOf_wp h2 ha1.size fun a2 hd2 hs2 h2' h3' => ?_
        show Code.wp _ _ _ a2 w
        exact wp_ret (hr _ (by rw [look, if_pos e]) _ (hd2.trans hd1) hs2 h2' h3')
      · exact ih h3 ha1 (fun r' e' a2 hd2 hs2 h2' h3' => hr r' (by rw [look, if_neg (by simp [e])]; exact e') a2 (hd2.trans hd1) hs2 h2' h3')
          (fun e' a2 hd2 hs2 hk2 => hn (by rw [look, if_neg (by simp [e])]; exact e') a2 (hd2.trans hd1) hs2 fun j hj => (hk2 j hj).trans (hk1 j hj))
    · exact absurd h4 (by simp)
  | case2 =>
    intro m h Q a ha hr hn
    simp only [chainOf, Option.some.injEq] at h
    subst h
    exact wp_skip (hn rfl a rfl ha.size fun _ _ => rfl)
  | case3 x h1 h2 =>
    intro m h
    unfold chainOf at h
    split at h
    · exact absurd rfl (h1 _ _ _ _)
    · exact absurd rfl h2
    · exact absurd h (by simp)
end Go.Proofs.YtdonopoijbokiaaDoor

/-! ### ByName -/
namespace Go.Proofs.YtdonopoijbokiaaDoor
open Go.RowKit

def codeOf (f : Func) : Code := f.body.getD .skip
/-- The switch in a body 'region; (region; block); rest'. -/
def blockOf : Code → Code
  | .seq _ (.seq (.seq _ (.block _ c)) _) => c
  | _ => .skip
noncomputable def lateT : List (List ByteArray × Int) := (chainOf 105 (blockOf (codeOf Tryd.f62))).getD []
noncomputable def earlyT : List (List ByteArray × Int) := (chainOf 112 (blockOf (codeOf Tryd.f45))).getD []
theorem late_is : chainOf 105 (blockOf (codeOf Tryd.f62)) = some lateT := by kernel_rfl
theorem early_is : chainOf 112 (blockOf (codeOf Tryd.f45)) = some earlyT := by kernel_rfl
def noOf (o : Option Int) : Int := o.getD 0
def isOf (o : Option Int) : Bool := o.isSome

theorem look_append (s : ByteArray) (l m : List (List ByteArray × Int)) : look s (l ++ m) = (look s l).or (look s m) := by
  induction l with
  | nil => rfl
  | cons x l ih =>
    obtain ⟨c, r⟩ := x
    simp only [List.cons_append, look, ih]
    split <;> rfl

set_option maxRecDepth 100000 in
theorem later_any (s : ByteArray) (w : World) : Calls Tryd.prog 62 #[.string s] w fun e w' => e = .returned (.tuple #[.int .i64 (noOf (look s lateT)), .bool (isOf (look s lateT))]) ∧ w = w' := by
  go_enter Tryd.func62, Tryd.ntmps62
  go_upto_block 0 with (fail)
  refine wp_block (chainOf_wp (n := 105) (s := s) (m := lateT) late_is ⟨rfl, rfl⟩ ?_ ?_)
  · intro r hr a' hd hs h2 h3
    simp only [Exit.inBlock, Exit.then]
    refine bodyPost_ret (results_tmp2 rfl _ _ _) hd ⟨?_, rfl⟩
    rw [h2, h3, hr]
    rfl
  · intro hr a' hd hs hk
    clear hk
    have HR := Lib.hid hr
    clear hr
    go_wp2
    refine bodyPost_ret (results_tmp2 rfl _ _ _) rfl ⟨?_, rfl⟩
    rw [HR.out]
    simp [noOf, isOf, Array.getD_eq_getD_getElem?, Array.getElem?_setIfInBounds, hs]

set_option maxRecDepth 100000 in
theorem byName_any (s : ByteArray) (w : World) : Calls Tryd.prog 45 #[.string s] w fun e w' => e = .returned (.tuple #[.int .i64 (noOf (look s (earlyT ++ lateT))), .bool (isOf (look s (earlyT ++ lateT)))]) ∧ w = w' := by
  go_enter Tryd.func45, Tryd.ntmps45
  go_upto_block 0 with (fail)
  refine wp_block (chainOf_wp (n := 112) (s := s) (m := earlyT) early_is ⟨rfl, rfl⟩ ?_ ?_)
  · intro r hr a' hd hs h2 h3
    simp only [Exit.inBlock, Exit.then]
    refine bodyPost_ret (results_tmp2 rfl _ _ _) hd ⟨?_, rfl⟩
    rw [h2, h3, look_append, hr]
    rfl
  · intro hr a' hd hs hk
    have h0 : a'.tmps.getD 0 undef = .string s := hk 0 (by omega)
    clear hk
    have HR := Lib.hid hr
    clear hr
    go_wp2_with (go_at_call 62; refine (later_any _ _).mono ?_; rintro e w' ⟨rfl, rfl⟩)
    refine bodyPost_ret (results_tmp2 rfl _ _ _) rfl ⟨?_, rfl⟩
    rw [look_append, HR.out]
    simp [Array.getD_eq_getD_getElem?, Array.getElem?_setIfInBounds, hs]
end Go.Proofs.YtdonopoijbokiaaDoor

/-! ### Names -/
namespace Go.Proofs.YtdonopoijbokiaaDoor
open Go.RowKit

def opsOf : Code → List Oper
  | .seq _ (.region _ ops _) => ops.toList
  | .seq _ (.seq (.region _ ops _) _) => ops.toList
  | _ => []
def bodyOf (f : Func) : Code := f.body.getD .skip
def constsOf : Oper → List Value
  | ⟨_, .build _ parts, _, _, _, _⟩ => parts.toList.map fun p => match p.2 with
    | .const v => v
    | _ => undef
  | _ => []
/-- The table's cells: of each row the first name, the other name, the identifier. -/
noncomputable def namesL : List Value := ((opsOf (bodyOf Tryd.f53)).take 62).flatMap constsOf
theorem namesL_length : namesL.length = 186 := by kernel_rfl

theorem runL_wp' {P : Program} {ops : Array Oper} {Q : Exit → Act → World → Prop} {l : List Oper} (n : Nat) {a : Act} {w : World} (a' : Act) (w' : World) (h : runL P (l.take n) a w = some (a', w')) (hq : wpList P ops Q (l.drop n) a' w') : wpList P ops Q l a w := by
  rw [← List.take_append_drop n l]
  exact runL_wp h hq

/-- The frame behind the builds. -/
noncomputable def namesF (w : World) : Act := ((runL Tryd.prog ((opsOf (bodyOf Tryd.f53)).take 63) { tmps := #[.pointer (some ⟨w.heap.size, 0, none⟩)] ++ Array.replicate 63 undef, defers := [] } w).map (·.1)).getD { tmps := #[], defers := [] }

set_option maxRecDepth 100000 in
theorem names_any (w : World) : Calls Tryd.prog 53 #[] w fun e w' => e = .returned (.agg namesL.toArray) ∧ Below w.heap.size w w' := by
  go_enter Tryd.func53, Tryd.ntmps53
  go_upto_region 1 with (fail)
  refine wp_region_list (runL_wp' 63 (namesF w) (w.alloc (.cells Tryd.zeroCells79 79)) (by kernel_rfl) ?_)
  show wpList _ _ _ [_] _ _
  refine wpList_store_row rfl 79 _ _ rfl w.heap.size namesL.toArray (by kernel_rfl) (by kernel_rfl) 79 Tryd.zeroCells79 (heap_alloc_new _ _) (by kernel_rfl) (by kernel_rfl) (by kernel_rfl) ?_
  refine wpList_nil ?_
  simp only [Exit.inBlock, Exit.then]
  go_step
  refine wp_ret (bodyPost_ret (results_cell_row rfl _ _ w.heap.size 79 namesL.toArray (0, 0) _ (by kernel_rfl) (setRow_heap _ _ _ _ _ _ (heap_alloc_new _ _)) Tryd.underlying79 rfl (by kernel_rfl)) (by kernel_rfl) ⟨rfl, ?_⟩)
  exact ⟨rfl, rfl, rfl, by simp, fun i hi => by rw [setRow_other _ _ _ _ (by omega)]; exact ((Below.refl _ w).alloc (Nat.le_refl _) _).block i hi⟩
end Go.Proofs.YtdonopoijbokiaaDoor

/-! ### Kinds -/
namespace Go.Proofs.YtdonopoijbokiaaDoor
open Go.RowKit

def kindsL : List Int := [-1, 11, 0, -1, 10, 0, -1, 1, 0, -1, 10, 0, 2, 1, 0, 2, 1, 0, -1, 1, 0, 2, 1, 0, 2, 1, 0, 2, 1, 0, -1, 1, 0, 2, 1, 0, 2, 1, 0, 2, 1, 0, -1, 1, 0, -1, 1, 0, -1, 13, 0, -1, 1, 0, -1, 1, 0, -1, 1, 0, -1, 6, 0, -1, 6, 0, -1, 5, 0, -1, 5, 0, 16, 13, 0, -1, 1, 0, 3, 10, 0, 3, 10, 0, 3, 10, 0, 3, 10, 0, -1, 9, 0, 2, 1, 0, 2, 1, 0, 2, 1, 0, -1, 1, 0, -1, 1, 0, 8, 1, 0, 9, 1, 0, 11, 1, 0, 12, 1, 0, -1, 1, 0, -1, 3, 0, -1, 1, 0, -1, 10, 0, -1, 6, 0, -1, 10, 0, -1, 3, 0, -1, 6, 0, -1, 6, 0, -1, 1, 0, -1, 1, 0, -1, 7, 0, -1, 7, 0, -1, 4, 0, -1, 4, 0, -1, 2, 0, -1, 12, 1, -1, 12, 1, -1, 10, 1, -1, 10, 1, -1, 8, 1, -1, 14, 0]
theorem kindsL_length : kindsL.length = 186 := by kernel_rfl
/-- Row i's number j: 0 the super type's row or -1, 1 the syntax, 2 the usage. -/
def kindAt (i j : Nat) : Int := kindsL.getD (i * 3 + j) 0
/-- The package variable holds the table. -/
structure KindsAt (w : World) : Prop where
  lt : 1 < w.heap.size
  cell : ∀ i j, i * 3 + j < 186 → w.cell? ⟨1, i * 3 + j, none⟩ = some (.int .i64 (kindAt i j))
theorem KindsAt.below {w w' : World} (h : KindsAt w) (hb : Below w.heap.size w w') : KindsAt w' :=
  ⟨Nat.lt_of_lt_of_le h.lt hb.size, fun i j hk => (hb.cell (p := ⟨1, i * 3 + j, none⟩) h.lt).trans (h.cell i j hk)⟩
theorem kinds_super : (List.range 62).all (fun i => decide (-1 ≤ kindAt i 0) && decide (kindAt i 0 < i)) = true := by kernel_rfl
theorem super_range (i : Nat) (h : i < 62) : -1 ≤ kindAt i 0 ∧ kindAt i 0 < i := by
  have := List.all_eq_true.1 kinds_super i (List.mem_range.2 h)
  simpa using this
end Go.Proofs.YtdonopoijbokiaaDoor

/-! ### Seen -/
namespace Go.Proofs.YtdonopoijbokiaaDoor
open Go.RowKit Go.Maps

theorem law9 : Keyed Tryd.prog 9 := string_keyed Tryd.underlying9
theorem zero3 (w : World) : (zeroValue 3).run Tryd.prog w = .ok (.int .i64 0) w := by kernel_rfl
/-- The map in block b holds just these texts. -/
def SeenAt (w : World) (b n : Nat) (l : List (List UInt8)) : Prop :=
  ∃ D : DataW Unit, w.ownsMap Tryd.prog 9 (plainElem Tryd.prog 3) b n D ∧ ∀ z, has D (.string z) = true ↔ z ∈ l
theorem seen_made (w : World) : SeenAt (w.alloc (.map #[] 0)) w.heap.size 0 [] := ⟨_, World.ownsMap_made _ _ _ _, fun z => by simp [has]⟩
theorem SeenAt.below {w w' : World} {b n B : Nat} {l : List (List UInt8)} (h : SeenAt w b n l) (hb : Below B w w') (hB : b < B) : SeenAt w' b n l := by
  obtain ⟨D, ⟨es, clock, h1, F, hs, hD⟩, hm⟩ := h
  exact ⟨D, ⟨es, clock, (hb.block b hB).trans h1, F, hs, hD⟩, hm⟩
theorem isMap_of {w : World} {b n : Nat} {D : DataW Unit} (h : w.ownsMap Tryd.prog 9 (plainElem Tryd.prog 3) b n D) : IsMap D := by
  obtain ⟨es, clock, _, _, _, rfl⟩ := h
  exact ⟨_, rfl⟩
theorem has_put_iff {D : DataW Unit} (hD : IsMap D) (x z : List UInt8) (d : DataW Unit) : has (D.put (.string x) d) (.string z) = true ↔ z = x ∨ has D (.string z) = true := by
  by_cases e : z = x
  · subst e
    simp [has_put_same hD (k := .string z) trivial d]
  · rw [has_put_other (fun h => e (by injection h)) d]
    simp [e]
theorem key_mk {s : ByteArray} (hs : s.size ≤ maxLen) : keyOf Tryd.prog 9 (.string s) = some (.string s.data.toList) := Go.WideMaps.keyOf_string_mk Tryd.underlying9 hs
/-- clear(m): nothing below the map's block turns. -/
theorem clear_map {w : World} {b n : Nat} {D : DataW Unit} (h : w.ownsMap Tryd.prog 9 (plainElem Tryd.prog 3) b n D) :
    ∃ w', (∀ ty, (Builtin.clear_ #[75] ty #[.map (some b)]).run Tryd.prog w = .ok (.tuple #[]) w') ∧ w.grownBy w' (some b) := by
  obtain ⟨es, clock, hb, _⟩ := h
  refine ⟨{ w with heap := w.heap.setIfInBounds b (.map #[] clock) }, fun ty => ?_, ⟨rfl, rfl, rfl, by simp, fun k _ hk => ?_⟩⟩
  · simp [Builtin.clear_, run_underlying Tryd.underlying75, MapKept.run_getObj_map hb, MapKept.run_setObj_map _ hb, Result.andThen]
  · have : b ≠ k := fun e => hk (by rw [e])
    simp [Array.getElem?_setIfInBounds, this]
end Go.Proofs.YtdonopoijbokiaaDoor
