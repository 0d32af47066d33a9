/- Without the document's answer: an option more: AttrMore answers true: every input of small bulk that the row lets in, where the tables read as the program's text lays them. -/
import Derived.Test.YtdonopoijbokiaaDoorLawMore
import Derived.Test.YtdonopoijbokiaaDoorMet
import Derived.SliceStrings
import Derived.Carry
set_option linter.unusedVariables false
set_option linter.unusedSimpArgs false
namespace Go.Proofs.YtdonopoijbokiaaDoor.attrMore
open Go.RowKit Go.ChangeShapes Go.WideShapes Go.ChangeAt

theorem laidOut : laidOutB Tryd.prog = true := by kernel_rfl
theorem bulk_strs {H : Type} : ∀ l : List ByteArray, l.length ≤ Rows.uptoBulkAll (strs (H := H) l) ∧ ∀ p ∈ l, p.size + 1 ≤ Rows.uptoBulkAll (strs (H := H) l)
  | [] => ⟨Nat.zero_le _, fun p hp => by cases hp⟩
  | a :: l => by
    obtain ⟨h1, h2⟩ := bulk_strs (H := H) l
    have e : Rows.uptoBulkAll (strs (H := H) (a :: l)) = a.size + 1 + Rows.uptoBulkAll (strs (H := H) l) := by
      simp only [strs, List.map_cons, Rows.uptoBulkAll, Rows.uptoBulk]
      rw [show a.data.toList.length = a.size from Array.length_toList]
    rw [e]
    refine ⟨by simp only [List.length_cons]; omega, fun p hp => ?_⟩
    rcases List.mem_cons.1 hp with rfl | hp
    · omega
    · have := h2 p hp
      omega
theorem opts_of_trod {H : Type} {enc : TypeId × Value → H} (a : Option Addr) (len cap : Nat) (d : DataW H) (p : List MemPlace) (W : World) (h : DataW.Trod enc Tryd.prog W 0 (fun _ => true) true 28 (.slice a len cap) d p) :
    ∃ opts : List ByteArray, opts.length = len ∧ (∀ q ∈ opts, q.size + 1 ≤ Rows.uptoBulk d) ∧ len ≤ Rows.uptoBulk d ∧ YtdonopoijbokiaaDoorW.PrintWords.Kd.C YtdonopoijbokiaaDoorW.PrintWords.Kd.string W a len opts := by
  obtain ⟨fuel, hf⟩ := h
  rcases open_strings Tryd.underlying28 Tryd.underlying9 (by kernel_rfl) hf with ⟨hcs, hx⟩ | ⟨x, l, c, ss, hcs, _, hl, hm, hz, hx, hcell, hwz⟩
  · simp [Value.cells] at hcs
    obtain ⟨rfl, rfl, rfl⟩ := hcs
    exact ⟨[], rfl, fun q hq => (by cases hq), Nat.zero_le _, YtdonopoijbokiaaDoorW.PrintWords.Kd.C_nil _ _⟩
  · simp [Value.cells] at hcs
    obtain ⟨rfl, rfl, rfl⟩ := hcs
    have hd : d = .slice (strs (ss.take len)) (strs (ss.drop len)) := congrArg Prod.fst hx
    have hzl : ss.length = cap := by simpa using hz
    have htl : (ss.take len).length = len := by rw [List.length_take]; omega
    obtain ⟨b1, b2⟩ := bulk_strs (H := H) (ss.take len)
    rw [htl] at b1
    have hbk : Rows.uptoBulkAll (strs (H := H) (ss.take len)) ≤ Rows.uptoBulk d := by rw [hd]; simp only [Rows.uptoBulk]; omega
    refine ⟨ss.take len, htl, fun q hq => Nat.le_trans (b2 q hq) hbk, Nat.le_trans b1 hbk, YtdonopoijbokiaaDoorW.PrintWords.Kd.C_of_reads (d := ByteArray.empty) ⟨htl, by unfold maxLen at hm; omega, fun _ => ⟨x, rfl, fun j hj => ?_⟩⟩⟩
    rw [hcell j (by omega)]
    congr 2
    rw [List.getD_eq_getElem?_getD, List.getD_eq_getElem?_getD, List.getElem?_take_of_lt hj]

set_option maxRecDepth 100000 in
theorem contract (H : Type) (enc : TypeId × Value → H) (W : World) (base : Nat) (args : Array Value) (ds gs : List (DataW H)) (before : List MemPlace)
    (hval : ∀ (j : Nat) t v, Tryd.f9.params[j]? = some t → args[j]? = some v → Value.okWide Tryd.prog W .any base t v)
    (hW : DataW.Whole enc Tryd.prog Tryd.f9.params.toList Rows.attrMoreSpec.vars false W args.toList ds gs before)
    (hk : Rows.uptoSmall H (ds ++ gs) = true) (hL : laidMetH Tryd.prog Rows.attrMoreUptoRow.laid W) (hsh : W.ShapedOpen Tryd.prog) :
    Calls Tryd.prog 9 args W fun e W' => ∃ v, e = .returned v ∧ Rows.attrMoreSpec.post enc Tryd.prog Tryd.f9 false true false false W args v W' := by
  have hW' := hW
  obtain ⟨p, q, hA0, hV, rfl, hfz, hnd⟩ := hW
  have hA : DataW.TrodAll enc Tryd.prog W 0 (fun _ => true) true Tryd.f9.params.toList args.toList ds p := hA0
  rw [Tryd.params9] at hA hval
  obtain ⟨v0, vs0, d0, ds0, p0, q0, hargs0, rfl, rfl, h0, r0⟩ := trodAll_cons hA
  obtain ⟨v1, vs1, d1, ds1, p1, q1, rfl, rfl, rfl, h1, r1⟩ := trodAll_cons r0
  obtain ⟨v2, vs2, d2, ds2, p2, q2, rfl, rfl, rfl, h2, r2⟩ := trodAll_cons r1
  obtain ⟨rfl, rfl, rfl⟩ := trodAll_nil r2
  obtain rfl : args = #[v0, v1, v2] := by cases args; simp_all
  obtain ⟨rfl, rfl⟩ := trodVars_none hV
  obtain ⟨s0, rfl, rfl, rfl, hm0⟩ := Go.ChangeMaps.open_string Tryd.underlying9 (hval 0 9 v0 rfl rfl) h0
  obtain ⟨a1, len1, cap1, rfl⟩ := okWide_slice Tryd.underlying28 (hval 1 28 v1 rfl rfl)
  obtain ⟨s2, rfl, rfl, rfl, hm2⟩ := Go.ChangeMaps.open_string Tryd.underlying9 (hval 2 9 v2 rfl rfl) h2
  have k1 := h1
  have lt1 : ∀ x ∈ p1, x.block < W.heap.size := by
    obtain ⟨m, hm⟩ := k1
    exact DataW.trod_lt m _ _ _ hm
  have hb := of_decide_eq_true hk
  simp only [List.append_nil, List.cons_append, List.nil_append, Rows.uptoBulkAll, Rows.uptoBulk] at hb
  obtain ⟨opts, hol, hos, hon, hoC⟩ := opts_of_trod a1 len1 cap1 d1 p1 W h1
  have e0 : s0.data.toList.length = s0.size := Array.length_toList
  have e2 : s2.data.toList.length = s2.size := Array.length_toList
  clear hA0 hk
  simp only [List.append_nil] at hW'
  refine (attrMore_walk s0 s2 a1 cap1 len1 opts W (by omega) (by omega) hol (by omega) (fun p hp => by have := hos p hp; omega) hoC (maxAt_of_shaped hsh)).mono fun e W' ⟨he, hbl⟩ => ?_
  subst he
  exact ⟨_, rfl, _, _, _, [], _, [], hW', trodAll_mk1 (shut_bool Tryd.underlying4 _), (trodAll_cons_mk (Go.ChangeMaps.shut_string Tryd.underlying9 hm0) (trodAll_cons_mk (Below.trod laidOut (by kernel_rfl) (of_decide_eq_true (by kernel_rfl)) k1 hbl lt1) (trodAll_cons_mk (Go.ChangeMaps.shut_string Tryd.underlying9 hm2) trodAll_mk0))), rfl, hbl.frame _, fun h => by cases h⟩

end Go.Proofs.YtdonopoijbokiaaDoor.attrMore
