/- attr.byName, attr.laterName: the row that a text names. -/
import Derived.Test.YtdonopoijbokiaaDoorChain
import Derived.Deep.CutBlock
namespace Go.Proofs.YtdonopoijbokiaaDoor
open Go.RowKit

def codeOf (f : Func) : Code := f.body.getD .skip
/-- The switch in a body 'region; (region; block); rest'. -/
def blockOf : Code → Code
  | .seq _ (.seq (.seq _ (.block _ c)) _) => c
  | _ => .skip
noncomputable def lateT : List (List ByteArray × Int) := (chainOf 105 (blockOf (codeOf Tryd.f62))).getD []
noncomputable def earlyT : List (List ByteArray × Int) := (chainOf 112 (blockOf (codeOf Tryd.f45))).getD []
theorem late_is : chainOf 105 (blockOf (codeOf Tryd.f62)) = some lateT := by kernel_rfl
theorem early_is : chainOf 112 (blockOf (codeOf Tryd.f45)) = some earlyT := by kernel_rfl
def noOf (o : Option Int) : Int := o.getD 0
def isOf (o : Option Int) : Bool := o.isSome

theorem look_append (s : ByteArray) (l m : List (List ByteArray × Int)) : look s (l ++ m) = (look s l).or (look s m) := by
  induction l with
  | nil => rfl
  | cons x l ih =>
    obtain ⟨c, r⟩ := x
    simp only [List.cons_append, look, ih]
    split <;> rfl

set_option maxRecDepth 100000 in
theorem later_any (s : ByteArray) (w : World) : Calls Tryd.prog 62 #[.string s] w fun e w' => e = .returned (.tuple #[.int .i64 (noOf (look s lateT)), .bool (isOf (look s lateT))]) ∧ w = w' := by
  go_enter Tryd.func62, Tryd.ntmps62
  go_upto_block 0 with (fail)
  refine wp_block (chainOf_wp (n := 105) (s := s) (m := lateT) late_is ⟨rfl, rfl⟩ ?_ ?_)
  · intro r hr a' hd hs h2 h3
    simp only [Exit.inBlock, Exit.then]
    refine bodyPost_ret (results_tmp2 rfl _ _ _) hd ⟨?_, rfl⟩
    rw [h2, h3, hr]
    rfl
  · intro hr a' hd hs hk
    clear hk
    have HR := Lib.hid hr
    clear hr
    go_wp2
    refine bodyPost_ret (results_tmp2 rfl _ _ _) rfl ⟨?_, rfl⟩
    rw [HR.out]
    simp [noOf, isOf, Array.getD_eq_getD_getElem?, Array.getElem?_setIfInBounds, hs]

set_option maxRecDepth 100000 in
theorem byName_any (s : ByteArray) (w : World) : Calls Tryd.prog 45 #[.string s] w fun e w' => e = .returned (.tuple #[.int .i64 (noOf (look s (earlyT ++ lateT))), .bool (isOf (look s (earlyT ++ lateT)))]) ∧ w = w' := by
  go_enter Tryd.func45, Tryd.ntmps45
  go_upto_block 0 with (fail)
  refine wp_block (chainOf_wp (n := 112) (s := s) (m := earlyT) early_is ⟨rfl, rfl⟩ ?_ ?_)
  · intro r hr a' hd hs h2 h3
    simp only [Exit.inBlock, Exit.then]
    refine bodyPost_ret (results_tmp2 rfl _ _ _) hd ⟨?_, rfl⟩
    rw [h2, h3, look_append, hr]
    rfl
  · intro hr a' hd hs hk
    have h0 : a'.tmps.getD 0 undef = .string s := hk 0 (by omega)
    clear hk
    have HR := Lib.hid hr
    clear hr
    go_wp2_with (go_at_call 62; refine (later_any _ _).mono ?_; rintro e w' ⟨rfl, rfl⟩)
    refine bodyPost_ret (results_tmp2 rfl _ _ _) rfl ⟨?_, rfl⟩
    rw [look_append, HR.out]
    simp [Array.getD_eq_getD_getElem?, Array.getElem?_setIfInBounds, hs]
end Go.Proofs.YtdonopoijbokiaaDoor
