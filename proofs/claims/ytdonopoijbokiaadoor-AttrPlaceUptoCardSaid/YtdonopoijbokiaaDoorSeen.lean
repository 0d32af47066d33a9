/- A map of texts to numbers that the call itself has made: which texts it holds. -/
import Derived.Test.YtdonopoijbokiaaDoorBase
import Derived.Test.YtdonopoijbokiaaDoorPlain
import Derived.Maps.Own
import Derived.Maps.Views
import Derived.StringKeys
import Derived.MapFrom
import Derived.Sort.KeysCollected
namespace Go.Proofs.YtdonopoijbokiaaDoor
open Go.RowKit Go.Maps

theorem law9 : Keyed Tryd.prog 9 := string_keyed Tryd.underlying9
theorem zero3 (w : World) : (zeroValue 3).run Tryd.prog w = .ok (.int .i64 0) w := by kernel_rfl
/-- The map in block b holds just these texts. -/
def SeenAt (w : World) (b n : Nat) (l : List (List UInt8)) : Prop :=
  ∃ D : DataW Unit, w.ownsMap Tryd.prog 9 (plainElem Tryd.prog 3) b n D ∧ ∀ z, has D (.string z) = true ↔ z ∈ l
theorem seen_made (w : World) : SeenAt (w.alloc (.map #[] 0)) w.heap.size 0 [] := ⟨_, World.ownsMap_made _ _ _ _, fun z => by simp [has]⟩
theorem SeenAt.below {w w' : World} {b n B : Nat} {l : List (List UInt8)} (h : SeenAt w b n l) (hb : Below B w w') (hB : b < B) : SeenAt w' b n l := by
  obtain ⟨D, ⟨es, clock, h1, F, hs, hD⟩, hm⟩ := h
  exact ⟨D, ⟨es, clock, (hb.block b hB).trans h1, F, hs, hD⟩, hm⟩
theorem isMap_of {w : World} {b n : Nat} {D : DataW Unit} (h : w.ownsMap Tryd.prog 9 (plainElem Tryd.prog 3) b n D) : IsMap D := by
  obtain ⟨es, clock, _, _, _, rfl⟩ := h
  exact ⟨_, rfl⟩
theorem has_put_iff {D : DataW Unit} (hD : IsMap D) (x z : List UInt8) (d : DataW Unit) : has (D.put (.string x) d) (.string z) = true ↔ z = x ∨ has D (.string z) = true := by
  by_cases e : z = x
  · subst e
    simp [has_put_same hD (k := .string z) trivial d]
  · rw [has_put_other (fun h => e (by injection h)) d]
    simp [e]
theorem key_mk {s : ByteArray} (hs : s.size ≤ maxLen) : keyOf Tryd.prog 9 (.string s) = some (.string s.data.toList) := Go.WideMaps.keyOf_string_mk Tryd.underlying9 hs
/-- clear(m): nothing below the map's block turns. -/
theorem clear_map {w : World} {b n : Nat} {D : DataW Unit} (h : w.ownsMap Tryd.prog 9 (plainElem Tryd.prog 3) b n D) :
    ∃ w', (∀ ty, (Builtin.clear_ #[75] ty #[.map (some b)]).run Tryd.prog w = .ok (.tuple #[]) w') ∧ w.grownBy w' (some b) := by
  obtain ⟨es, clock, hb, _⟩ := h
  refine ⟨{ w with heap := w.heap.setIfInBounds b (.map #[] clock) }, fun ty => ?_, ⟨rfl, rfl, rfl, by simp, fun k _ hk => ?_⟩⟩
  · simp [Builtin.clear_, run_underlying Tryd.underlying75, MapKept.run_getObj_map hb, MapKept.run_setObj_map _ hb, Result.andThen]
  · have : b ≠ k := fun e => hk (by rw [e])
    simp [Array.getElem?_setIfInBounds, this]
end Go.Proofs.YtdonopoijbokiaaDoor
