/- attr.rows, attr.later: a row of the table, its switch read off the code by a function. -/
import Derived.Test.YtdonopoijbokiaaDoorRowOf
import Derived.Test.YtdonopoijbokiaaDoorChain
namespace Go.Proofs.YtdonopoijbokiaaDoor
open Go.RowKit Go.Proofs.YtdonopoijbokiaaDoorW.PrintWords

theorem wp_eqRegionI {Q : Exit → Act → World → Prop} {a : Act} {w : World} {i c : Int} {id t d : Nat} {ty1 ty2 : TypeId} {p1 p2 : String} {f1 f2 : Array Edge} (ht : t < a.tmps.size) (hs : a.tmps.getD 3 undef = .int .i64 i)
    (h : Q .normal { a with tmps := (a.tmps.setIfInBounds t (.bool (i == c))).setIfInBounds d (.bool (i == c)) } w) :
    (Code.region id #[{ dst := some t, op := .binOp .eql 3 (.tmp 3) (.const (.int .i64 c)) 3, type := ty1, pos := p1, after := f1, guard := none }, { dst := some d, op := .assign (.tmp t), type := ty2, pos := p2, after := f2, guard := none }] false).wp Tryd.prog Q a w := by
  refine wp_region_lit (l := [_, _]) ?_
  go_wp2
  exact h

def eqOperI : Oper → Option (Nat × Int)
  | ⟨some t, .binOp .eql ty (.tmp k) (.const (.int .i64 c)) ty', _, _, _, none⟩ => if ty = 3 ∧ k = 3 ∧ ty' = 3 then some (t, c) else none
  | _ => none
theorem eqOperI_is {o : Oper} {t : Nat} {c : Int} (h : eqOperI o = some (t, c)) : ∃ ty p f, o = { dst := some t, op := .binOp .eql 3 (.tmp 3) (.const (.int .i64 c)) 3, type := ty, pos := p, after := f, guard := none } := by
  unfold eqOperI at h
  split at h
  · split at h
    · rename_i hc
      obtain ⟨rfl, rfl, rfl⟩ := hc
      simp only [Option.some.injEq, Prod.mk.injEq] at h
      obtain ⟨rfl, rfl⟩ := h
      exact ⟨_, _, _, rfl⟩
    · cases h
  · cases h
def eqOfI (n : Nat) : Code → Option (Int × Nat)
  | .region _ ops false => match ops.toList with
    | [o1, o2] => (eqOperI o1).bind fun (t, c) => (movOper o2).bind fun (d, t') => if t = t' ∧ t < n ∧ 3 < t ∧ 3 < d ∧ d < n then some (c, d) else none
    | _ => none
  | _ => none
def opsOf' : Code → Option (List Oper)
  | .region _ ops false => some ops.toList
  | _ => none
def chainI (n : Nat) : Code → Option (List (Int × List Oper))
  | .seq x (.cond (.tmp d') (.seq y .ret) rest) => (eqOfI n x).bind fun (c, d) => (opsOf' y).bind fun l => (chainI n rest).bind fun m => if d = d' then some ((c, l) :: m) else none
  | .skip => some []
  | _ => none
def lookI (i : Int) : List (Int × List Oper) → Option (List Oper)
  | [] => none
  | (c, l) :: m => if i == c then some l else lookI i m

structure LeftI (n : Nat) (i : Int) (b : Value) (a : Act) : Prop where
  size : a.tmps.size = n
  num : a.tmps.getD 3 undef = .int .i64 i
  box : a.tmps.getD 2 undef = b
  arg : a.tmps.getD 0 undef = .int .i64 i

theorem eqOfI_wp {n : Nat} {x : Code} {c : Int} {d : Nat} (h : eqOfI n x = some (c, d)) {Q : Exit → Act → World → Prop} {a : Act} {w : World} {i : Int} {b : Value} (ha : LeftI n i b a)
    (hq : ∀ a', LeftI n i b a' → a'.defers = a.defers → a'.tmps.getD d undef = .bool (i == c) → Q .normal a' w) : x.wp Tryd.prog Q a w := by
  unfold eqOfI at h
  split at h
  · split at h
    · rename_i id ops o1 o2 ho
      simp only [Option.bind_eq_some_iff, Prod.exists] at h
      obtain ⟨t, c', e1, d', t', e2, h⟩ := h
      split at h
      · rename_i hc
        obtain ⟨rfl, h1, h2, h3, h4⟩ := hc
        simp only [Option.some.injEq, Prod.mk.injEq] at h
        obtain ⟨rfl, rfl⟩ := h
        obtain ⟨ty1, p1, f1, rfl⟩ := eqOperI_is e1
        obtain ⟨ty2, p2, f2, rfl⟩ := movOper_is e2
        rw [ops2 ho]
        have keep : ∀ j, j < 4 → ((a.tmps.setIfInBounds t (.bool (i == c'))).setIfInBounds d' (.bool (i == c'))).getD j undef = a.tmps.getD j undef := fun j hj => by
          simp only [Array.getD_eq_getD_getElem?, Array.getElem?_setIfInBounds]
          rw [if_neg (by omega), if_neg (by omega)]
        refine wp_eqRegionI (by rw [ha.size]; exact h1) ha.num (hq _ ⟨by simpa using ha.size, (keep 3 (by omega)).trans ha.num, (keep 2 (by omega)).trans ha.box, (keep 0 (by omega)).trans ha.arg⟩ rfl ?_)
        simp only [Array.getD_eq_getD_getElem?, Array.getElem?_setIfInBounds, Array.size_setIfInBounds]
        rw [if_pos trivial, if_pos (by rw [ha.size]; exact h4)]
        rfl
      · cases h
    · cases h
  · cases h

theorem chainI_wp {n : Nat} {i : Int} {b : Value} {w : World} : ∀ {x : Code} {m : List (Int × List Oper)}, chainI n x = some m → ∀ {Q : Exit → Act → World → Prop} {a : Act}, LeftI n i b a →
    (∀ l, lookI i m = some l → ∀ a' ops, LeftI n i b a' → a'.defers = a.defers → wpList Tryd.prog ops (Exit.then (fun a w => Q .ret a w) Q) l a' w) →
    (lookI i m = none → ∀ a', LeftI n i b a' → a'.defers = a.defers → Q .normal a' w) → x.wp Tryd.prog Q a w := by
  intro x
  induction x using chainI.induct with
  | case1 x d' y rest ih =>
    intro m h Q a ha hr hn
    simp only [chainI, Option.bind_eq_some_iff, Prod.exists] at h
    obtain ⟨c, d, h1, l, h2, m1, h3, h4⟩ := h
    split at h4
    · rename_i hc
      subst hc
      simp only [Option.some.injEq] at h4
      subst h4
      refine wp_seq (eqOfI_wp h1 ha fun a1 ha1 hd1 ht1 => ?_)
      show Code.wp _ _ _ a1 w
      refine wp_cond_split (t := i == c) ht1 (fun e => ?_) (fun e => ?_)
      · refine wp_seq ?_
        unfold opsOf' at h2
        split at h2
        · simp only [Option.some.injEq] at h2
          subst h2
          refine Code.wp_mono ?_ (wp_region_list (hr _ (by rw [lookI, if_pos e]) a1 _ ha1 hd1))
          intro e' a' w' h'
          cases e' <;> first | exact h' | exact wp_ret h'
        · cases h2
      · exact ih h3 ha1 (fun l' e' a2 ops h2 hd2 => hr l' (by rw [lookI, if_neg (by simp [e])]; exact e') a2 ops h2 (hd2.trans hd1))
          (fun e' a2 h2 hd2 => hn (by rw [lookI, if_neg (by simp [e])]; exact e') a2 h2 (hd2.trans hd1))
    · cases h4
  | case2 =>
    intro m h Q a ha hr hn
    simp only [chainI, Option.some.injEq] at h
    subst h
    exact wp_skip (hn rfl a ha rfl)
  | case3 x h1 h2 =>
    intro m h
    unfold chainI at h
    split at h
    · exact absurd rfl (h1 _ _ _ _)
    · exact absurd rfl h2
    · cases h

/-! ### What a case builds and stores -/
def buildOper : Oper → Option (Nat × Array (Nat × Operand))
  | ⟨some t, .build ty parts, _, _, _, none⟩ => if ty = 32 then some (t, parts) else none
  | _ => none
def storeOper (t : Nat) : Oper → Bool
  | ⟨none, .store ty (.tmp k) (.tmp t'), _, _, _, none⟩ => decide (ty = 32 ∧ k = 2 ∧ t' = t)
  | _ => false
def sliceOper : Oper → Option (Nat × ByteArray)
  | ⟨some u, .buildSlice ty n parts, _, _, _, none⟩ => match parts.toList with
    | [(i, .const (.string s))] => if ty = 28 ∧ n = 1 ∧ i = 0 then some (u, s) else none
    | _ => none
  | _ => none
theorem buildOper_is {o : Oper} {t : Nat} {q : Array (Nat × Operand)} (h : buildOper o = some (t, q)) : ∃ ty p f, o = { dst := some t, op := .build 32 q, type := ty, pos := p, after := f, guard := none } := by
  unfold buildOper at h
  split at h
  · split at h
    · rename_i hc
      subst hc
      simp only [Option.some.injEq, Prod.mk.injEq] at h
      obtain ⟨rfl, rfl⟩ := h
      exact ⟨_, _, _, rfl⟩
    · cases h
  · cases h
theorem storeOper_is {o : Oper} {t : Nat} (h : storeOper t o = true) : ∃ ty p f, o = { dst := none, op := .store 32 (.tmp 2) (.tmp t), type := ty, pos := p, after := f, guard := none } := by
  unfold storeOper at h
  split at h
  · obtain ⟨rfl, rfl, rfl⟩ := of_decide_eq_true h
    exact ⟨_, _, _, rfl⟩
  · cases h
theorem sliceOper_is {o : Oper} {u : Nat} {s : ByteArray} (h : sliceOper o = some (u, s)) : ∃ ty p f, o = { dst := some u, op := .buildSlice 28 1 #[(0, .const (.string s))], type := ty, pos := p, after := f, guard := none } := by
  unfold sliceOper at h
  split at h
  · rename_i parts _ _ _
    split at h
    · rename_i i' s' hq
      split at h
      · rename_i hc
        obtain ⟨rfl, rfl, rfl⟩ := hc
        simp only [Option.some.injEq, Prod.mk.injEq] at h
        obtain ⟨rfl, rfl⟩ := h
        have : parts = #[(0, .const (.string s'))] := by
          cases parts
          simpa using hq
        rw [this]
        exact ⟨_, _, _, rfl⟩
      · cases h
    · cases h
  · cases h
/-- A part's value: a constant, or the slice that lies in slot u. -/
def valOf (v : Value) (u : Nat) : Operand → Value
  | .const c => c
  | .tmp t => if t = u then v else undef
  | _ => undef
def plainOperand (u : Nat) : Operand → Bool
  | .const _ => true
  | .tmp t => t == u
  | _ => false
def leafOf (n : Nat) : List Oper → Option (Option (Nat × ByteArray) × Array (Nat × Operand))
  | [o1, o2] => (buildOper o1).bind fun (t, q) => if storeOper t o2 = true ∧ t < n ∧ 2 < t ∧ q.all (fun p => plainOperand n p.2) = true then some (none, q) else none
  | [o0, o1, o2] => (sliceOper o0).bind fun (u, s) => (buildOper o1).bind fun (t, q) => if storeOper t o2 = true ∧ t < n ∧ 2 < t ∧ u < n ∧ 2 < u ∧ q.all (fun p => plainOperand u p.2) = true then some (some (u, s), q) else none
  | _ => none
def partsOf (v : Value) (u : Nat) (q : Array (Nat × Operand)) : List (Nat × Value) := q.toList.map fun p => (p.1, valOf v u p.2)

theorem wp_leafSlice {ops : Array Oper} {rest : List Oper} {Q : Exit → Act → World → Prop} {a : Act} {w : World} {u : Nat} {s : ByteArray} {ty : TypeId} {p : String} {f : Array Edge}
    (h : wpList Tryd.prog ops Q rest { a with tmps := a.tmps.setIfInBounds u (.slice (some ⟨w.heap.size, 0, none⟩) 1 1) } (w.alloc (.cells #[.string s] 9))) :
    wpList Tryd.prog ops Q ({ dst := some u, op := .buildSlice 28 1 #[(0, .const (.string s))], type := ty, pos := p, after := f, guard := none } :: rest) a w := by
  refine wpList_plain rfl fun K hK => ?_
  have hk := hK _ _ h
  clear hK h
  go_simp
  exact hk

theorem eval_parts {a : Act} {u : Nat} {v : Value} {q : Array (Nat × Operand)} (hu : a.tmps.getD u undef = v) (h : q.all (fun p => plainOperand u p.2) = true) : (q.map fun (i, x) => (i, a.eval x)).toList = partsOf v u q := by
  rw [Array.toList_map, partsOf]
  refine List.map_congr_left fun p hp => ?_
  have := (Array.all_eq_true_iff_forall_mem.1 h) p (by simpa using hp)
  obtain ⟨i, x⟩ := p
  cases x with
  | const c => rfl
  | tmp t =>
    have e : t = u := by simpa [plainOperand] using this
    subst e
    simp only [valOf, if_pos]
    rw [← hu]
    rfl
  | global g => cases this
  | func g => cases this

theorem size32 : (Tryd.prog.info? 32).map (·.size) = some 6 := by kernel_rfl

/-- A case walked: the cells that it stores into the result's variable. -/
theorem leaf_wp {n : Nat} {l : List Oper} {al : Option (Nat × ByteArray)} {q : Array (Nat × Operand)} (hl : leafOf n l = some (al, q)) {ops : Array Oper} {Q : Exit → Act → World → Prop} {a : Act} {w : World} {i : Int} {g : Nat} (ha : LeftI n i (.pointer (some ⟨g, 0, none⟩)) a)
    {old : Array Value} (hg : w.heap[g]? = some (.cells old 32 (0, 0))) (hold : old.size = 6) (cells : Array Value) (hs : cells.size = 6) (h1 : cells.all (·.oneCell') = true)
    (hb : match al with
      | none => Tryd.prog.built 32 (partsOf undef n q) = some cells
      | some (u, _) => Tryd.prog.built 32 (partsOf (.slice (some ⟨w.heap.size, 0, none⟩) 1 1) u q) = some cells)
    (hq : ∀ a', a'.defers = a.defers → a'.tmps.getD 2 undef = .pointer (some ⟨g, 0, none⟩) → Q .normal a' ((match al with
      | none => w
      | some (_, s) => w.alloc (.cells #[.string s] 9)).setRow g cells)) : wpList Tryd.prog ops Q l a w := by
  have hsz : (Tryd.prog.info? 32).map (·.size) = some cells.size := by rw [hs]; exact size32
  unfold leafOf at hl
  split at hl
  · rename_i o1 o2
    simp only [Option.bind_eq_some_iff, Prod.exists] at hl
    obtain ⟨t, q', e1, h⟩ := hl
    split at h
    · rename_i hc
      obtain ⟨c1, c2, c3, c4⟩ := hc
      simp only [Option.some.injEq, Prod.mk.injEq] at h
      obtain ⟨rfl, rfl⟩ := h
      obtain ⟨ty1, p1, f1, rfl⟩ := buildOper_is e1
      obtain ⟨ty2, p2, f2, rfl⟩ := storeOper_is c1
      have ep := eval_parts (a := a) (u := n) (v := undef) (by rw [Array.getD_eq_getD_getElem?, Array.getElem?_eq_none (by rw [ha.size]; exact Nat.le_refl _)]; rfl) c4
      have hb' : Tryd.prog.built 32 (partsOf undef n q') = some cells := hb
      refine wpList_build rfl 32 q' rfl (by rw [ep, hb']; rfl) ?_
      rw [ep, hb']
      have k2 : (a.tmps.setIfInBounds t (.agg cells)).getD 2 undef = .pointer (some ⟨g, 0, none⟩) := by
        have := ha.box
        simp only [Array.getD_eq_getD_getElem?, Array.getElem?_setIfInBounds] at this ⊢
        rw [if_neg (by omega)]
        exact this
      refine wpList_store_row rfl 32 (.tmp 2) (.tmp t) rfl g cells k2 ?_ 32 old hg hsz (hold.trans hs.symm) h1 (wpList_nil (hq _ rfl k2))
      show (a.tmps.setIfInBounds t _).getD t undef = _
      simp only [Array.getD_eq_getD_getElem?, Array.getElem?_setIfInBounds]
      rw [if_pos trivial, if_pos (by rw [ha.size]; exact c2)]
      rfl
    · cases h
  · rename_i o0 o1 o2
    simp only [Option.bind_eq_some_iff, Prod.exists] at hl
    obtain ⟨u, s, e0, t, q', e1, h⟩ := hl
    split at h
    · rename_i hc
      obtain ⟨c1, c2, c3, c5, c6, c4⟩ := hc
      simp only [Option.some.injEq, Prod.mk.injEq] at h
      obtain ⟨rfl, rfl⟩ := h
      obtain ⟨ty0, p0, f0, rfl⟩ := sliceOper_is e0
      obtain ⟨ty1, p1, f1, rfl⟩ := buildOper_is e1
      obtain ⟨ty2, p2, f2, rfl⟩ := storeOper_is c1
      refine wp_leafSlice ?_
      have ku : (a.tmps.setIfInBounds u (.slice (some ⟨w.heap.size, 0, none⟩) 1 1)).getD u undef = .slice (some ⟨w.heap.size, 0, none⟩) 1 1 := by
        simp only [Array.getD_eq_getD_getElem?, Array.getElem?_setIfInBounds]
        rw [if_pos trivial, if_pos (by rw [ha.size]; exact c5)]
        rfl
      have ep := eval_parts (a := { a with tmps := a.tmps.setIfInBounds u (.slice (some ⟨w.heap.size, 0, none⟩) 1 1) }) (u := u) ku c4
      have hb' : Tryd.prog.built 32 (partsOf (.slice (some ⟨w.heap.size, 0, none⟩) 1 1) u q') = some cells := hb
      refine wpList_build rfl 32 q' rfl (by rw [ep, hb']; rfl) ?_
      rw [ep, hb']
      have k2 : ((a.tmps.setIfInBounds u (.slice (some ⟨w.heap.size, 0, none⟩) 1 1)).setIfInBounds t (.agg cells)).getD 2 undef = .pointer (some ⟨g, 0, none⟩) := by
        have := ha.box
        simp only [Array.getD_eq_getD_getElem?, Array.getElem?_setIfInBounds] at this ⊢
        rw [if_neg (by omega), if_neg (by omega)]
        exact this
      have hlt : g < w.heap.size := (Array.getElem?_eq_some_iff.1 hg).1
      refine wpList_store_row rfl 32 (.tmp 2) (.tmp t) rfl g cells k2 ?_ 32 old (((Below.refl w.heap.size w).alloc (Nat.le_refl _) _).block g hlt |>.trans hg) hsz (hold.trans hs.symm) h1 (wpList_nil (hq _ rfl k2))
      show ((a.tmps.setIfInBounds u _).setIfInBounds t _).getD t undef = _
      simp only [Array.getD_eq_getD_getElem?, Array.getElem?_setIfInBounds, Array.size_setIfInBounds]
      rw [if_pos trivial, if_pos (by rw [ha.size]; exact c2)]
      rfl
    · cases h
  · cases hl
end Go.Proofs.YtdonopoijbokiaaDoor
