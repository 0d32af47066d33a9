/- Without the document's answer: an option more: AttrMore answers true: every input of small bulk that the row lets in, where the tables read as the program's text lays them. -/
import Derived.Test.YtdonopoijbokiaaDoorEndMore
import Derived.Test.YtdonopoijbokiaaDoorCards
import Derived.Test.YtdonopoijbokiaaDoorTie
set_option linter.unusedVariables false
set_option linter.unusedSimpArgs false
namespace Go.Proofs.YtdonopoijbokiaaDoor.attrMore
open Go.RowKit Go.ChangeShapes Go.WideShapes Go.ChangeAt

theorem laid_met (os : Os) : laidMet Tryd.prog Rows.attrMoreUptoRow.laid ((metWorld os).forCall (fun _ _ => 0) ⟨#[], #[.string ⟨#[]⟩, .slice none 0 0, .string ⟨#[]⟩], []⟩).memory :=
  laidMet_of_run' 8 (by kernel_rfl) (by kernel_rfl)
theorem reads (os : Os) {H : Type} (enc : TypeId × Value → H) : ∃ places, DataW.whole enc Tryd.prog ((metWorld os).forCall (fun _ _ => 0) ⟨#[], #[.string ⟨#[]⟩, .slice none 0 0, .string ⟨#[]⟩], []⟩).memory Tryd.f9.params.toList Rows.attrMoreSpec.vars false #[Value.string ⟨#[]⟩, .slice none 0 0, .string ⟨#[]⟩].toList 8 = some ([.lit (.string []), .nil, .lit (.string [])], [], places) :=
  ⟨[], by kernel_rfl⟩

set_option maxRecDepth 100000 in
theorem lifted (os : Os) (started : os.Started) (H : Type) (enc : TypeId × Value → H) (F : Stop.Interp) :
    ReturnsInHanded {} Tryd.checked os 9 .any ((Rows.OpenSpec.upto Rows.attrMoreSpec).preRow enc Tryd.prog Tryd.f9 Rows.attrMoreUptoRow.domain false Rows.attrMoreUptoRow.laid) (((Rows.OpenSpec.upto Rows.attrMoreSpec).at F).post enc Tryd.prog Tryd.f9 false true false false) := by
  obtain ⟨places, hx⟩ := reads os enc
  refine returnsInHanded_of_row (C := Tryd.checked) (s := Rows.OpenSpec.upto Rows.attrMoreSpec) own started (by kernel_rfl) Tryd.func9
    (witness_row_at (enc := enc) (C := Tryd.checked) false (metWorld os) #[.string ⟨#[]⟩, .slice none 0 0, .string ⟨#[]⟩] rfl (by kernel_rfl) (by kernel_rfl) (by kernel_rfl)
      (OpenSpec.preRow_of_cond 8 hx (by kernel_rfl) (fun k hk => by cases hk; kernel_rfl) (by kernel_rfl) (laid_met os))) ?_
  intro W base args ds gs before hval hW _ hcond _ hL hsh _
  exact contract H enc W base args ds gs before hval hW (hcond _ rfl) hL hsh

theorem said : Rows.AttrMoreUptoSaid :=
  OpenClaim.holds_of_cond 9 Tryd.f9 rfl rfl rfl rfl rfl rfl rfl ⟨rfl, rfl, rfl, rfl, rfl⟩ rfl rfl rfl rfl rfl (by kernel_rfl) Tryd.func9 (by kernel_rfl)
    (of_decide_eq_true (by kernel_rfl)) (by unfold Func.isWrapper; first | (rw [if_pos (by decide +kernel)]; kernel_rfl) | (rw [if_neg (by decide +kernel)]; exact ⟨rfl, rfl⟩))
    (fun os started H enc _ F => by rw [OpenClaim.pre_eq_preRow]; exact lifted os started H enc F)

/-- No parameter wants a stand-in; the program's own looks are off: what the card asks. -/
theorem plain (f : FuncId) (fn : Func) (hf : Tryd.pinned.checked.prog.funcNamed "roster/rosterlaw04.AttrMore" = some f) (hfn : Tryd.pinned.checked.prog.funcs[f]? = some fn) :
    false = Tryd.pinned.checked.prog.looks [] ∧ ∀ (j : Nat) t, fn.params[j]? = some t → Tryd.pinned.checked.prog.wantsStandIn t = false := by
  obtain rfl : f = 9 := Option.some.inj ((show Tryd.prog.funcNamed "roster/rosterlaw04.AttrMore" = some 9 by kernel_rfl).symm.trans hf) |>.symm
  obtain rfl : fn = Tryd.f9 := (Option.some.inj (Tryd.func9.symm.trans hfn)).symm
  refine ⟨by kernel_rfl, fun j t ht => ?_⟩
  rw [Tryd.params9] at ht
  rcases j with _ | _ | _ | j
  · obtain rfl := Option.some.inj (show some 9 = some t from ht)
    exact (show Tryd.prog.wantsStandIn 9 = false by kernel_rfl)
  · obtain rfl := Option.some.inj (show some 28 = some t from ht)
    exact (show Tryd.prog.wantsStandIn 28 = false by kernel_rfl)
  · obtain rfl := Option.some.inj (show some 9 = some t from ht)
    exact (show Tryd.prog.wantsStandIn 9 = false by kernel_rfl)
  · simp at ht

/-- The card of AttrMore, upto. -/
theorem card : Rows.AttrMoreUptoCardSaid :=
  Claim7.holds_tied_plain_at .later [] _ _ _ _ said (fun _ h => by cases h) (by kernel_rfl) (fun _ h => by cases h) attrMoreUpto_row_tie rfl ⟨rfl, rfl⟩ (by kernel_rfl) rfl plain (by kernel_rfl)
end Go.Proofs.YtdonopoijbokiaaDoor.attrMore
