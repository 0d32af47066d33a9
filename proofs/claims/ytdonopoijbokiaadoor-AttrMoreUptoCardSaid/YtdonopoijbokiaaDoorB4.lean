/- attr.rows, attr.later: a row of the table, its switch read off the code by a function. attr.rows, attr.later: what they answer is the table's row. attr.copied; rosterlaw04.same and sameRow of equal things; attr.Find and rosterref04.Find. The row that a text names, told alike by both sides; attr.Find, rosterref04.Find. AttrFinds: for every name attr.Find answers what the document's Find answers. No condition beside the row's own list of the table kinds. -/
import Derived.Test.YtdonopoijbokiaaDoorB3
import Derived.Test.YtdonopoijbokiaaDoorB2
set_option linter.unusedVariables false
set_option linter.unusedSimpArgs false

/-! ### RowsA -/
namespace Go.Proofs.YtdonopoijbokiaaDoor
open Go.RowKit Go.Proofs.YtdonopoijbokiaaDoorW.PrintWords

theorem wp_eqRegionI {Q : Exit → Act → World → Prop} {a : Act} {w : World} {i c : Int} {id t d : Nat} {ty1 ty2 : TypeId} {p1 p2 : String} {f1 f2 : Array Edge} (ht : t < a.tmps.size) (hs : a.tmps.getD 3 undef = .int .i64 i)
    (h : Q .normal { a with tmps := (a.tmps.setIfInBounds t (.bool (i == c))).setIfInBounds d (.bool (i == c)) } w) :
    (Code.region id #[{ dst := some t, op := .binOp .eql 3 (.tmp 3) (.const (.int .i64 c)) 3, type := ty1, pos := p1, after := f1, guard := none }, { dst := some d, op := .assign (.tmp t), type := ty2, pos := p2, after := f2, guard := none }] false).wp Tryd.prog Q a w := by
  refine wp_region_lit (l := [_, _]) ?_
  go_wp2
  exact h

def eqOperI : Oper → Option (Nat × Int)
  | ⟨some t, .binOp .eql ty (.tmp k) (.const (.int .i64 c)) ty', _, _, _, none⟩ => if ty = 3 ∧ k = 3 ∧ ty' = 3 then some (t, c) else none
  | _ => none
theorem eqOperI_is {o : Oper} {t : Nat} {c : Int} (h : eqOperI o = some (t, c)) : ∃ ty p f, o = { dst := some t, op := .binOp .eql 3 (.tmp 3) (.const (.int .i64 c)) 3, type := ty, pos := p, after := f, guard := none } := by
  unfold eqOperI at h
  split at h
  · split at h
    · rename_i hc
      obtain ⟨rfl, rfl, rfl⟩ := hc
      simp only [Option.some.injEq, Prod.mk.injEq] at h
      obtain ⟨rfl, rfl⟩ := h
      exact ⟨_, _, _, rfl⟩
    · cases h
  · cases h
def eqOfI (n : Nat) : Code → Option (Int × Nat)
  | .region _ ops false => match ops.toList with
    | [o1, o2] => (eqOperI o1).bind fun (t, c) => (movOper o2).bind fun (d, t') => if t = t' ∧ t < n ∧ 3 < t ∧ 3 < d ∧ d < n then some (c, d) else none
    | _ => none
  | _ => none
def opsOf' : Code → Option (List Oper)
  | .region _ ops false => some ops.toList
  | _ => none
def chainI (n : Nat) : Code → Option (List (Int × List Oper))
  | .seq x (.cond (.tmp d') (.seq y .ret) rest) => (eqOfI n x).bind fun (c, d) => (opsOf' y).bind fun l => (chainI n rest).bind fun m => if d = d' then some ((c, l) :: m) else none
  | .skip => some []
  | _ => none
def lookI (i : Int) : List (Int × List Oper) → Option (List Oper)
  | [] => none
  | (c, l) :: m => if i == c then some l else lookI i m

structure LeftI (n : Nat) (i : Int) (b : Value) (a : Act) : Prop where
  size : a.tmps.size = n
  num : a.tmps.getD 3 undef = .int .i64 i
  box : a.tmps.getD 2 undef = b
  arg : a.tmps.getD 0 undef = .int .i64 i

theorem eqOfI_wp {n : Nat} {x : Code} {c : Int} {d : Nat} (h : eqOfI n x = some (c, d)) {Q : Exit → Act → World → Prop} {a : Act} {w : World} {i : Int} {b : Value} (ha : LeftI n i b a)
    (hq : ∀ a', LeftI n i b a' → a'.defers = a.defers → a'.tmps.getD d undef = .bool (i == c) → Q .normal a' w) : x.wp Tryd.prog Q a w := by
  unfold eqOfI at h
  split at h
  · split at h
    · rename_i id ops o1 o2 ho
      simp only [Option.bind_eq_some_iff, Prod.exists] at h
      obtain ⟨t, c', e1, d', t', e2, h⟩ := h
      split at h
      · rename_i hc
        obtain ⟨rfl, h1, h2, h3, h4⟩ := hc
        simp only [Option.some.injEq, Prod.mk.injEq] at h
        obtain ⟨rfl, rfl⟩ := h
        obtain ⟨ty1, p1, f1, rfl⟩ := eqOperI_is e1
        obtain ⟨ty2, p2, f2, rfl⟩ := movOper_is e2
        rw [ops2 ho]
        have keep : ∀ j, j < 4 → ((a.tmps.setIfInBounds t (.bool (i == c'))).setIfInBounds d' (.bool (i == c'))).getD j undef = a.tmps.getD j undef := fun j hj => by
          simp only [Array.getD_eq_getD_getElem?, Array.getElem?_setIfInBounds]
          rw [if_neg (by omega), if_neg (by omega)]
        refine wp_eqRegionI (by rw [ha.size]; exact h1) ha.num (hq _ ⟨by simpa using ha.size, (keep 3 (by omega)).trans ha.num, (keep 2 (by omega)).trans ha.box, (keep 0 (by omega)).trans ha.arg⟩ rfl ?_)
        simp only [Array.getD_eq_getD_getElem?, Array.getElem?_setIfInBounds, Array.size_setIfInBounds]
        rw [if_pos trivial, if_pos (by rw [ha.size]; exact h4)]
        rfl
      · cases h
    · cases h
  · cases h

theorem chainI_wp {n : Nat} {i : Int} {b : Value} {w : World} : ∀ {x : Code} {m : List (Int × List Oper)}, chainI n x = some m → ∀ {Q : Exit → Act → World → Prop} {a : Act}, LeftI n i b a →
    (∀ l, lookI i m = some l → ∀ a' ops, LeftI n i b a' → a'.defers = a.defers → wpList Tryd.prog ops (Exit.then (fun a w => Q .ret a w) Q) l a' w) →
    (lookI i m = none → ∀ a', LeftI n i b a' → a'.defers = a.defers → Q .normal a' w) → x.wp Tryd.prog Q a w := by
  intro x
  induction x using chainI.induct with
  | case1 x d' y rest ih =>
    intro m h Q a ha hr hn
    simp only [chainI, Option.bind_eq_some_iff, Prod.exists] at h
    obtain ⟨c, d, h1, l, h2, m1, h3, h4⟩ := h
    split at h4
    · rename_i hc
      subst hc
      simp only [Option.some.injEq] at h4
      subst h4
      refine wp_seq (eqOfI_wp h1 ha fun a1 ha1 hd1 ht1 => ?_)
      show Code.wp _ _ _ a1 w
      refine wp_cond_split (t := i == c) ht1 (fun e => ?_) (fun e => ?_)
      · refine wp_seq ?_
        unfold opsOf' at h2
        split at h2
        · simp only [Option.some.injEq] at h2
          subst h2
          refine Code.wp_mono ?_ (wp_region_list (hr _ (by rw [lookI, if_pos e]) a1 _ ha1 hd1))
          intro e' a' w' h'
          cases e' <;> first | exact h' | exact wp_ret h'
        · cases h2
      · exact ih h3 ha1 (fun l' e' a2 ops h2 hd2 => hr l' (by rw [lookI, if_neg (by simp [e])]; exact e') a2 ops h2 (hd2.trans hd1))
          (fun e' a2 h2 hd2 => hn (by rw [lookI, if_neg (by simp [e])]; exact e') a2 h2 (hd2.trans hd1))
    · cases h4
  | case2 =>
    intro m h Q a ha hr hn
    simp only [chainI, Option.some.injEq] at h
    subst h
    exact wp_skip (hn rfl a ha rfl)
  | case3 x h1 h2 =>
    intro m h
    unfold chainI at h
    split at h
    · exact absurd rfl (h1 _ _ _ _)
    · exact absurd rfl h2
    · cases h

/-! ### What a case builds and stores -/
def buildOper : Oper → Option (Nat × Array (Nat × Operand))
  | ⟨some t, .build ty parts, _, _, _, none⟩ => if ty = 32 then some (t, parts) else none
  | _ => none
def storeOper (t : Nat) : Oper → Bool
  | ⟨none, .store ty (.tmp k) (.tmp t'), _, _, _, none⟩ => decide (ty = 32 ∧ k = 2 ∧ t' = t)
  | _ => false
def sliceOper : Oper → Option (Nat × ByteArray)
  | ⟨some u, .buildSlice ty n parts, _, _, _, none⟩ => match parts.toList with
    | [(i, .const (.string s))] => if ty = 28 ∧ n = 1 ∧ i = 0 then some (u, s) else none
    | _ => none
  | _ => none
theorem buildOper_is {o : Oper} {t : Nat} {q : Array (Nat × Operand)} (h : buildOper o = some (t, q)) : ∃ ty p f, o = { dst := some t, op := .build 32 q, type := ty, pos := p, after := f, guard := none } := by
  unfold buildOper at h
  split at h
  · split at h
    · rename_i hc
      subst hc
      simp only [Option.some.injEq, Prod.mk.injEq] at h
      obtain ⟨rfl, rfl⟩ := h
      exact ⟨_, _, _, rfl⟩
    · cases h
  · cases h
theorem storeOper_is {o : Oper} {t : Nat} (h : storeOper t o = true) : ∃ ty p f, o = { dst := none, op := .store 32 (.tmp 2) (.tmp t), type := ty, pos := p, after := f, guard := none } := by
  unfold storeOper at h
  split at h
  · obtain ⟨rfl, rfl, rfl⟩ := of_decide_eq_true h
    exact ⟨_, _, _, rfl⟩
  · cases h
theorem sliceOper_is {o : Oper} {u : Nat} {s : ByteArray} (h : sliceOper o = some (u, s)) : ∃ ty p f, o = { dst := some u, op := .buildSlice 28 1 #[(0, .const (.string s))], type := ty, pos := p, after := f, guard := none } := by
  unfold sliceOper at h
  split at h
  · rename_i parts _ _ _
    split at h
    · rename_i i' s' hq
      split at h
      · rename_i hc
        obtain ⟨rfl, rfl, rfl⟩ := hc
        simp only [Option.some.injEq, Prod.mk.injEq] at h
        obtain ⟨rfl, rfl⟩ := h
        have : parts = #[(0, .const (.string s'))] := by
          cases parts
          simpa using hq
        rw [this]
        exact ⟨_, _, _, rfl⟩
      · cases h
    · cases h
  · cases h
/-- A part's value: a constant, or the slice that lies in slot u. -/
def valOf (v : Value) (u : Nat) : Operand → Value
  | .const c => c
  | .tmp t => if t = u then v else undef
  | _ => undef
def plainOperand (u : Nat) : Operand → Bool
  | .const _ => true
  | .tmp t => t == u
  | _ => false
def leafOf (n : Nat) : List Oper → Option (Option (Nat × ByteArray) × Array (Nat × Operand))
  | [o1, o2] => (buildOper o1).bind fun (t, q) => if storeOper t o2 = true ∧ t < n ∧ 2 < t ∧ q.all (fun p => plainOperand n p.2) = true then some (none, q) else none
  | [o0, o1, o2] => (sliceOper o0).bind fun (u, s) => (buildOper o1).bind fun (t, q) => if storeOper t o2 = true ∧ t < n ∧ 2 < t ∧ u < n ∧ 2 < u ∧ q.all (fun p => plainOperand u p.2) = true then some (some (u, s), q) else none
  | _ => none
def partsOf (v : Value) (u : Nat) (q : Array (Nat × Operand)) : List (Nat × Value) := q.toList.map fun p => (p.1, valOf v u p.2)

theorem wp_leafSlice {ops : Array Oper} {rest : List Oper} {Q : Exit → Act → World → Prop} {a : Act} {w : World} {u : Nat} {s : ByteArray} {ty : TypeId} {p : String} {f : Array Edge}
    (h : wpList Tryd.prog ops Q rest { a with tmps := a.tmps.setIfInBounds u (.slice (some ⟨w.heap.size, 0, none⟩) 1 1) } (w.alloc (.cells #[.string s] 9))) :
    wpList Tryd.prog ops Q ({ dst := some u, op := .buildSlice 28 1 #[(0, .const (.string s))], type := ty, pos := p, after := f, guard := none } :: rest) a w := by
  refine wpList_plain rfl fun K hK => ?_
  have hk := hK _ _ h
  clear hK h
  go_simp
  exact hk

theorem eval_parts {a : Act} {u : Nat} {v : Value} {q : Array (Nat × Operand)} (hu : a.tmps.getD u undef = v) (h : q.all (fun p => plainOperand u p.2) = true) : (q.map fun (i, x) => (i, a.eval x)).toList = partsOf v u q := by
  rw [Array.toList_map, partsOf]
  refine List.map_congr_left fun p hp => ?_
  have := (Array.all_eq_true_iff_forall_mem.1 h) p (by simpa using hp)
  obtain ⟨i, x⟩ := p
  cases x with
  | const c => rfl
  | tmp t =>
    have e : t = u := by simpa [plainOperand] using this
    subst e
    simp only [valOf, if_pos]
    rw [← hu]
    rfl
  | global g => cases this
  | func g => cases this

theorem size32 : (Tryd.prog.info? 32).map (·.size) = some 6 := by kernel_rfl

/-- A case walked: the cells that it stores into the result's variable. -/
theorem leaf_wp {n : Nat} {l : List Oper} {al : Option (Nat × ByteArray)} {q : Array (Nat × Operand)} (hl : leafOf n l = some (al, q)) {ops : Array Oper} {Q : Exit → Act → World → Prop} {a : Act} {w : World} {i : Int} {g : Nat} (ha : LeftI n i (.pointer (some ⟨g, 0, none⟩)) a)
    {old : Array Value} (hg : w.heap[g]? = some (.cells old 32 (0, 0))) (hold : old.size = 6) (cells : Array Value) (hs : cells.size = 6) (h1 : cells.all (·.oneCell') = true)
    (hb : match al with
      | none => Tryd.prog.built 32 (partsOf undef n q) = some cells
      | some (u, _) => Tryd.prog.built 32 (partsOf (.slice (some ⟨w.heap.size, 0, none⟩) 1 1) u q) = some cells)
    (hq : ∀ a', a'.defers = a.defers → a'.tmps.getD 2 undef = .pointer (some ⟨g, 0, none⟩) → Q .normal a' ((match al with
      | none => w
      | some (_, s) => w.alloc (.cells #[.string s] 9)).setRow g cells)) : wpList Tryd.prog ops Q l a w := by
  have hsz : (Tryd.prog.info? 32).map (·.size) = some cells.size := by rw [hs]; exact size32
  unfold leafOf at hl
  split at hl
  · rename_i o1 o2
    simp only [Option.bind_eq_some_iff, Prod.exists] at hl
    obtain ⟨t, q', e1, h⟩ := hl
    split at h
    · rename_i hc
      obtain ⟨c1, c2, c3, c4⟩ := hc
      simp only [Option.some.injEq, Prod.mk.injEq] at h
      obtain ⟨rfl, rfl⟩ := h
      obtain ⟨ty1, p1, f1, rfl⟩ := buildOper_is e1
      obtain ⟨ty2, p2, f2, rfl⟩ := storeOper_is c1
      have ep := eval_parts (a := a) (u := n) (v := undef) (by rw [Array.getD_eq_getD_getElem?, Array.getElem?_eq_none (by rw [ha.size]; exact Nat.le_refl _)]; rfl) c4
      have hb' : Tryd.prog.built 32 (partsOf undef n q') = some cells := hb
      refine wpList_build rfl 32 q' rfl (by rw [ep, hb']; rfl) ?_
      rw [ep, hb']
      have k2 : (a.tmps.setIfInBounds t (.agg cells)).getD 2 undef = .pointer (some ⟨g, 0, none⟩) := by
        have := ha.box
        simp only [Array.getD_eq_getD_getElem?, Array.getElem?_setIfInBounds] at this ⊢
        rw [if_neg (by omega)]
        exact this
      refine wpList_store_row rfl 32 (.tmp 2) (.tmp t) rfl g cells k2 ?_ 32 old hg hsz (hold.trans hs.symm) h1 (wpList_nil (hq _ rfl k2))
      show (a.tmps.setIfInBounds t _).getD t undef = _
      simp only [Array.getD_eq_getD_getElem?, Array.getElem?_setIfInBounds]
      rw [if_pos trivial, if_pos (by rw [ha.size]; exact c2)]
      rfl
    · cases h
  · rename_i o0 o1 o2
    simp only [Option.bind_eq_some_iff, Prod.exists] at hl
    obtain ⟨u, s, e0, t, q', e1, h⟩ := hl
    split at h
    · rename_i hc
      obtain ⟨c1, c2, c3, c5, c6, c4⟩ := hc
      simp only [Option.some.injEq, Prod.mk.injEq] at h
      obtain ⟨rfl, rfl⟩ := h
      obtain ⟨ty0, p0, f0, rfl⟩ := sliceOper_is e0
      obtain ⟨ty1, p1, f1, rfl⟩ := buildOper_is e1
      obtain ⟨ty2, p2, f2, rfl⟩ := storeOper_is c1
      refine wp_leafSlice ?_
      have ku : (a.tmps.setIfInBounds u (.slice (some ⟨w.heap.size, 0, none⟩) 1 1)).getD u undef = .slice (some ⟨w.heap.size, 0, none⟩) 1 1 := by
        simp only [Array.getD_eq_getD_getElem?, Array.getElem?_setIfInBounds]
        rw [if_pos trivial, if_pos (by rw [ha.size]; exact c5)]
        rfl
      have ep := eval_parts (a := { a with tmps := a.tmps.setIfInBounds u (.slice (some ⟨w.heap.size, 0, none⟩) 1 1) }) (u := u) ku c4
      have hb' : Tryd.prog.built 32 (partsOf (.slice (some ⟨w.heap.size, 0, none⟩) 1 1) u q') = some cells := hb
      refine wpList_build rfl 32 q' rfl (by rw [ep, hb']; rfl) ?_
      rw [ep, hb']
      have k2 : ((a.tmps.setIfInBounds u (.slice (some ⟨w.heap.size, 0, none⟩) 1 1)).setIfInBounds t (.agg cells)).getD 2 undef = .pointer (some ⟨g, 0, none⟩) := by
        have := ha.box
        simp only [Array.getD_eq_getD_getElem?, Array.getElem?_setIfInBounds] at this ⊢
        rw [if_neg (by omega), if_neg (by omega)]
        exact this
      have hlt : g < w.heap.size := (Array.getElem?_eq_some_iff.1 hg).1
      refine wpList_store_row rfl 32 (.tmp 2) (.tmp t) rfl g cells k2 ?_ 32 old (((Below.refl w.heap.size w).alloc (Nat.le_refl _) _).block g hlt |>.trans hg) hsz (hold.trans hs.symm) h1 (wpList_nil (hq _ rfl k2))
      show ((a.tmps.setIfInBounds u _).setIfInBounds t _).getD t undef = _
      simp only [Array.getD_eq_getD_getElem?, Array.getElem?_setIfInBounds, Array.size_setIfInBounds]
      rw [if_pos trivial, if_pos (by rw [ha.size]; exact c2)]
      rfl
    · cases h
  · cases hl
end Go.Proofs.YtdonopoijbokiaaDoor

/-! ### RowsB -/
namespace Go.Proofs.YtdonopoijbokiaaDoor
open Go.RowKit Go.Proofs.YtdonopoijbokiaaDoorW.PrintWords

noncomputable def laterI : List (Int × List Oper) := (chainI 105 (blockOf (codeOf Tryd.f61))).getD []
noncomputable def rowsI : List (Int × List Oper) := (chainI 109 (blockOf (codeOf Tryd.f44))).getD []
theorem laterI_is : chainI 105 (blockOf (codeOf Tryd.f61)) = some laterI := by kernel_rfl
theorem rowsI_is : chainI 109 (blockOf (codeOf Tryd.f44)) = some rowsI := by kernel_rfl

/-- Row k's cells, its list of other names being v. -/
noncomputable def rowCells (k : Nat) (v : Value) : Array Value := #[.string (nameAt k 0), v, .string (nameAt k 2), .string (superAt k), .int .i64 (kindAt k 1), .int .i64 (kindAt k 2)]
/-- What a case of the switch stores where it lies in a world of g blocks. -/
noncomputable def leafGives (n g : Nat) (l : List Oper) : Option (Option ByteArray × Array Value) := (leafOf n l).bind fun (al, q) => match al with
  | none => (Tryd.prog.built 32 (partsOf undef n q)).map fun c => (none, c)
  | some (u, s) => (Tryd.prog.built 32 (partsOf (.slice (some ⟨g, 0, none⟩) 1 1) u q)).map fun c => (some s, c)
noncomputable def rowGives (k g : Nat) : Option (Option ByteArray × Array Value) := if (nameAt k 1).toList.isEmpty then some (none, rowCells k (.slice none 0 0)) else some (some (nameAt k 1), rowCells k (.slice (some ⟨g, 0, none⟩) 1 1))
theorem rowsI_gives (g : Nat) : (List.range 31).map (fun (k : Nat) => (lookI k rowsI).bind (leafGives 109 g)) = (List.range 31).map (fun k => rowGives k g) := by kernel_rfl
theorem laterI_gives (g : Nat) : (List.range 31).map (fun (k : Nat) => (lookI (k + 31 : Nat) laterI).bind (leafGives 105 g)) = (List.range 31).map (fun k => rowGives (k + 31) g) := by kernel_rfl

theorem of_maps {α : Type} {f h : Nat → α} {n : Nat} (e : (List.range n).map f = (List.range n).map h) (k : Nat) (hk : k < n) : f k = h k := by
  have := congrArg (fun l => l[k]?) e
  simpa [hk] using this
theorem rowCells_size (k : Nat) (v : Value) : (rowCells k v).size = 6 := rfl
theorem rowCells_one (k : Nat) (A : Option Addr) (n c : Nat) : (rowCells k (.slice A n c)).all (·.oneCell') = true := by
  simp [rowCells, Value.oneCell']

/-- The world behind a case. -/
noncomputable def rowWorld (k : Nat) (w : World) (g : Nat) : World :=
  if (nameAt k 1).toList.isEmpty then w.setRow g (rowCells k (.slice none 0 0)) else (w.alloc (.cells #[.string (nameAt k 1)] 9)).setRow g (rowCells k (.slice (some ⟨w.heap.size, 0, none⟩) 1 1))
noncomputable def rowSlice (k : Nat) (w : World) : Value := if (nameAt k 1).toList.isEmpty then .slice none 0 0 else .slice (some ⟨w.heap.size, 0, none⟩) 1 1

theorem case_wp {n k : Nat} {l : List Oper} {ops : Array Oper} {Q : Exit → Act → World → Prop} {a : Act} {w : World} {i : Int} {g : Nat} (hl : leafGives n w.heap.size l = rowGives k w.heap.size) (ha : LeftI n i (.pointer (some ⟨g, 0, none⟩)) a)
    {old : Array Value} (hg : w.heap[g]? = some (.cells old 32 (0, 0))) (hold : old.size = 6)
    (hq : ∀ a', a'.defers = a.defers → a'.tmps.getD 2 undef = .pointer (some ⟨g, 0, none⟩) → Q .normal a' (rowWorld k w g)) : wpList Tryd.prog ops Q l a w := by
  unfold leafGives rowGives at hl
  split at hl
  · rename_i he
    simp only [Option.bind_eq_some_iff, Prod.exists] at hl
    obtain ⟨al, q, h1, h2⟩ := hl
    split at h2
    · obtain ⟨c, h3, h4⟩ := Option.map_eq_some_iff.1 h2
      simp only [Prod.mk.injEq, true_and] at h4
      subst h4
      refine leaf_wp h1 ha hg hold _ (rowCells_size _ _) (rowCells_one _ _ _ _) h3 fun a' hd h2' => ?_
      have := hq a' hd h2'
      rw [rowWorld, if_pos he] at this
      exact this
    · obtain ⟨c, h3, h4⟩ := Option.map_eq_some_iff.1 h2
      simp at h4
  · rename_i he
    simp only [Option.bind_eq_some_iff, Prod.exists] at hl
    obtain ⟨al, q, h1, h2⟩ := hl
    split at h2
    · obtain ⟨c, h3, h4⟩ := Option.map_eq_some_iff.1 h2
      simp at h4
    · obtain ⟨c, h3, h4⟩ := Option.map_eq_some_iff.1 h2
      simp only [Prod.mk.injEq, Option.some.injEq] at h4
      obtain ⟨rfl, rfl⟩ := h4
      refine leaf_wp h1 ha hg hold _ (rowCells_size _ _) (rowCells_one _ _ _ _) h3 fun a' hd h2' => ?_
      have := hq a' hd h2'
      rw [rowWorld, if_neg he] at this
      exact this

theorem rowWorld_heap {k : Nat} {w : World} {g : Nat} {old : Array Value} {t : TypeId} (hg : w.heap[g]? = some (.cells old t (0, 0))) : (rowWorld k w g).heap[g]? = some (.cells (rowCells k (rowSlice k w)) t (0, 0)) := by
  have hlt : g < w.heap.size := (Array.getElem?_eq_some_iff.1 hg).1
  unfold rowWorld rowSlice
  split
  · exact setRow_heap _ _ _ _ _ _ hg
  · exact setRow_heap _ _ _ _ _ _ ((((Below.refl w.heap.size w).alloc (Nat.le_refl _) _).block g hlt).trans hg)
theorem rowWorld_below {k : Nat} {w0 w : World} {g : Nat} (h : Below w0.heap.size w0 w) (hg : w0.heap.size ≤ g) : Below w0.heap.size w0 (rowWorld k w g) := by
  have set : ∀ (W : World) (c : Array Value), Below w0.heap.size w0 W → Below w0.heap.size w0 (W.setRow g c) := fun W c hW =>
    ⟨hW.os, hW.tape, hW.output, by rw [size_setRow]; exact hW.size, fun i hi => by rw [setRow_other _ _ _ _ (by omega)]; exact hW.block i hi⟩
  unfold rowWorld
  split
  · exact set _ _ h
  · exact set _ _ (h.alloc h.size _)
theorem rowWorld_own {k : Nat} {w : World} {g : Nat} (hg : g < w.heap.size) {base : Nat} (hb : base ≤ w.heap.size) (ok : Nat → Prop) (hok : ∀ b, w.heap.size ≤ b → ok b) : Kd.R Kd.string 9 (rowWorld k w g) base ok (rowSlice k w) (aliasAt k) := by
  unfold rowWorld rowSlice aliasAt
  split
  · exact Kd.R_nil _ _ _ _ _
  · refine Kd.R_step (w := w.alloc (.cells #[.string (nameAt k 1)] 9)) (ok := fun b => ok b ∧ b = w.heap.size) ?_ (fun b hb' _ => setRow_other _ _ _ _ (by omega)) |> (Kd.R_mono · fun b h => h.1)
    refine Kd.R_of_own (xs := [nameAt k 1]) (World.ownsRow_lit w #[.string (nameAt k 1)] 1 hb (by decide) rfl) (fun b hb' => ?_)
    have : b = w.heap.size := by simpa [Value.ownBlock] using hb'.symm
    exact ⟨hok b (by omega), this⟩

theorem rowsI_none : (rowsI.all fun p => decide (p.1 < 31)) = true := by kernel_rfl
theorem lookI_none {i : Int} : ∀ (m : List (Int × List Oper)), (∀ p, p ∈ m → i ≠ p.1) → lookI i m = none
  | [], _ => rfl
  | (c, l) :: m, h => by
    rw [lookI, if_neg (by simpa using h (c, l) (List.mem_cons_self ..))]
    exact lookI_none m fun p hp => h p (List.mem_cons_of_mem _ hp)

set_option maxRecDepth 100000 in
theorem later_row (k : Nat) (w : World) (h0 : 31 ≤ k) (hk : k < 62) :
    Calls Tryd.prog 61 #[.int .i64 k] w fun e w' => ∃ v, e = .returned (.agg (rowCells k v)) ∧ Kd.R Kd.string 9 w' w.heap.size (fun _ => True) v (aliasAt k) ∧ Below w.heap.size w w' := by
  have hl := of_maps (laterI_gives (w.heap.size + 1)) (k - 31) (by omega)
  simp only [show k - 31 + 31 = k by omega] at hl
  have hl := Lib.hid hl
  go_enter Tryd.func61, Tryd.ntmps61
  go_upto_block 0 with (fail)
  refine wp_block (chainI_wp (n := 105) (i := k) (b := .pointer (some ⟨w.heap.size, 0, none⟩)) (m := laterI) laterI_is ⟨rfl, rfl, rfl, rfl⟩ ?_ ?_)
  · intro l hlk a' ops ha hd
    have hl := hl.out
    rw [hlk] at hl
    refine case_wp (k := k) (by simpa using hl) ha (heap_alloc_new w _) rfl fun a2 hd2 h2 => ?_
    simp only [Exit.inBlock, Exit.then]
    exact bodyPost_ret (results_cell_row rfl _ _ w.heap.size 32 _ (0, 0) _ h2 (rowWorld_heap (heap_alloc_new w _)) Tryd.underlying32 rfl (by kernel_rfl)) (hd2.trans hd)
      ⟨_, rfl, rowWorld_own (by simp) (by simp) _ (fun _ _ => trivial), rowWorld_below ((Below.refl _ _).alloc (Nat.le_refl _) _) (Nat.le_refl _)⟩
  · intro hn
    have hl := hl.out
    rw [hn] at hl
    unfold rowGives at hl
    split at hl <;> cases hl

theorem frame2 {t : Array Value} {x y : Value} {g : Nat} (hs : t.size = 109) (h : t.getD 2 undef = .pointer (some ⟨g, 0, none⟩)) : ((t.setIfInBounds 107 x).setIfInBounds 108 y).getD 2 undef = .pointer (some ⟨g, 0, none⟩) := by
  simp only [Array.getD_eq_getD_getElem?, Array.getElem?_setIfInBounds] at h ⊢
  rw [if_neg (by omega), if_neg (by omega)]
  exact h
theorem frame108 {t : Array Value} {x y : Value} (hs : t.size = 109) : ((t.setIfInBounds 107 x).setIfInBounds 108 y).getD 108 undef = y := by
  simp only [Array.getD_eq_getD_getElem?, Array.getElem?_setIfInBounds, Array.size_setIfInBounds]
  rw [if_pos trivial, if_pos (by omega)]
  rfl
theorem newKept {w w' : World} {o : Obj} (h : Below (w.alloc o).heap.size (w.alloc o) w') : w'.heap[w.heap.size]? = some o := (h.block _ (by simp)).trans (heap_alloc_new w o)
theorem one_of_R {k : Nat} {w : World} {base e : Nat} {ok : Nat → Prop} {v : Value} {xs : List ByteArray} (h : Kd.R Kd.string e w base ok v xs) : (rowCells k v).all (·.oneCell') = true := by
  obtain ⟨A, c, rfl, _⟩ := Kd.R_reads h
  exact rowCells_one _ _ _ _

set_option maxRecDepth 100000 in
theorem rows_row (k : Nat) (w : World) (hk : k < 62) :
    Calls Tryd.prog 44 #[.int .i64 k] w fun e w' => ∃ v, e = .returned (.agg (rowCells k v)) ∧ Kd.R Kd.string 9 w' w.heap.size (fun _ => True) v (aliasAt k) ∧ Below w.heap.size w w' := by
  by_cases h31 : k < 31
  · have hl := Lib.hid (of_maps (rowsI_gives (w.heap.size + 1)) k h31)
    go_enter Tryd.func44, Tryd.ntmps44
    go_upto_block 0 with (fail)
    refine wp_block (chainI_wp (n := 109) (i := k) (b := .pointer (some ⟨w.heap.size, 0, none⟩)) (m := rowsI) rowsI_is ⟨rfl, rfl, rfl, rfl⟩ ?_ ?_)
    · intro l hlk a' ops ha hd
      have hl := hl.out
      rw [hlk] at hl
      refine case_wp (k := k) (by simpa using hl) ha (heap_alloc_new w _) rfl fun a2 hd2 h2 => ?_
      simp only [Exit.inBlock, Exit.then]
      exact bodyPost_ret (results_cell_row rfl _ _ w.heap.size 32 _ (0, 0) _ h2 (rowWorld_heap (heap_alloc_new w _)) Tryd.underlying32 rfl (by kernel_rfl)) (hd2.trans hd)
        ⟨_, rfl, rowWorld_own (by simp) (by simp) _ (fun _ _ => trivial), rowWorld_below ((Below.refl _ _).alloc (Nat.le_refl _) _) (Nat.le_refl _)⟩
    · intro hn
      have hl := hl.out
      rw [hn] at hl
      unfold rowGives at hl
      split at hl <;> cases hl
  · have hno : lookI k rowsI = none := by
      have e := rowsI_none
      exact lookI_none rowsI (fun p hp e' => by
        have := List.all_eq_true.1 e p hp
        have : p.1 < 31 := by simpa using this
        omega)
    have hno := Lib.hid hno
    have h31 : 31 ≤ k := by omega
    go_enter Tryd.func44, Tryd.ntmps44
    go_upto_block 0 with (fail)
    refine wp_block (chainI_wp (n := 109) (i := k) (b := .pointer (some ⟨w.heap.size, 0, none⟩)) (m := rowsI) rowsI_is ⟨rfl, rfl, rfl, rfl⟩ ?_ ?_)
    · intro l hlk
      have hno := hno.out
      rw [hlk] at hno
      cases hno
    · intro _ a' ha hd
      have hs := ha.size
      have hbox := ha.box
      have harg := ha.arg
      clear ha hno
      simp only [Exit.inBlock, Exit.then]
      go_wp2_with (first | (go_at_call 61; refine (later_row _ _ h31 hk).mono ?_; rintro e w' ⟨v, rfl, hR, hB⟩) | (refine wpList_store_row rfl 32 (.tmp 2) (.tmp 108) rfl w.heap.size (rowCells k v) (frame2 hs hbox) (frame108 hs) 32 _ (newKept hB) size32 rfl (one_of_R hR) ?_))
      refine bodyPost_ret (results_cell_row rfl _ _ w.heap.size 32 (rowCells k v) (0, 0) _ (frame2 hs hbox) (setRow_heap _ _ _ _ _ _ (newKept hB)) Tryd.underlying32 rfl (by kernel_rfl)) rfl ⟨v, rfl, ?_, ?_⟩
      · have hsz := World.size_alloc
        refine Kd.R_mono (ok := fun b => True ∧ b ≠ w.heap.size) (Kd.R_move (Kd.R_lower (Kd.R_mono (Kd.R_bound hR) (fun b hb => ⟨trivial, ?_⟩)) (by simp)) (fun b hb => setRow_other _ _ _ _ hb.2)) (fun _ _ => trivial)
        have := hb.2.1
        simp at this
        omega
      · have hb : Below w.heap.size w w' := ((Below.refl _ w).alloc (Nat.le_refl _) _).trans (hB.mono (by simp))
        exact ⟨hb.os, hb.tape, hb.output, by rw [size_setRow]; exact hb.size, fun i hi => by rw [setRow_other _ _ _ _ (by omega)]; exact hb.block i hi⟩
end Go.Proofs.YtdonopoijbokiaaDoor

/-! ### Copied -/
namespace Go.Proofs.YtdonopoijbokiaaDoor
open Go.RowKit Go.Proofs.YtdonopoijbokiaaDoorW.PrintWords

theorem below_of_grown_nil {W w1 : World} (hg : W.grownBy w1 (Value.slice none 0 0).ownBlock) : Below W.heap.size W w1 :=
  (Below.refl _ W).grown hg (Nat.le_refl _) (fun k e => by simp [Value.ownBlock] at e)

theorem two_below (w : World) (o o' : Obj) : Below w.heap.size w ((w.alloc o).alloc o') := ((Below.refl _ w).alloc (Nat.le_refl _) _).alloc (by simp) _

set_option maxRecDepth 100000 in
set_option maxHeartbeats 1000000 in
theorem copied_any (a b s : ByteArray) (A : Option Addr) (c : Nat) (xs : List ByteArray) (x y : Int) (w : World) (hC : Kd.C Kd.string w A xs.length xs) (hn : xs.length * 16 ≤ 140737488355328) :
    Calls Tryd.prog 43 #[.agg #[.string a, .slice A xs.length c, .string b, .string s, .int .i64 x, .int .i64 y]] w fun e w' => ∃ v, e = .returned (.agg #[.string a, v, .string b, .string s, .int .i64 x, .int .i64 y]) ∧ Kd.R Kd.string 9 w' w.heap.size (fun _ => True) v xs ∧ Below w.heap.size w w' := by
  have HC := Lib.hid hC
  clear hC
  go_enter Tryd.func43, Tryd.ntmps43
  go_wp2_with (at_builtin; refine Kd.R_append_row (w0 := w) Value.string ByteArray.empty (h1 := fun _ => rfl) w.heap.size rfl (.const (.slice none 0 0)) (.tmp 4) 28 9 (.string ⟨#[]⟩) 16 rfl Tryd.underlying28 info9 rfl (by omega) (.slice none 0 0) [] xs A xs.length c (fun b => w.heap.size + 2 ≤ b) rfl rfl (fun k hk => by simp at hk; omega) (Kd.R_nil _ _ _ _ _) (Kd.C_below HC.out (two_below w _ _)) (two_below w _ _) (by simp; omega) (by simpa using hn) ?_; intro v1 w1 hR hB hg _; have hb := Lib.hid (below_of_grown_nil hg); have h0 := (hb.out.block w.heap.size (by simp; omega)).trans (heap_alloc2_old w _ _); have h1 := (hb.out.block (w.heap.size + 1) (by simp)).trans (heap_alloc2_new w _ _); obtain ⟨A1, c1, rfl⟩ := Kd.R_slice hR; have HR := Lib.hid hR; have HB := Lib.hid hB; have H0 := Lib.hid h0; have H1 := Lib.hid h1; clear hR hB hg hb; obtain ⟨⟨q0, q1, q2, q3, q4, q5⟩, qf⟩ := cells6 h0; obtain ⟨⟨z0, z1, z2, z3, z4, z5⟩, zf⟩ := cells6 h1; clear h0 h1)
  refine bodyPost_ret (results_cell_row rfl _ _ (w.heap.size + 1) 32 #[.string a, .slice A1 xs.length c1, .string b, .string s, .int .i64 x, .int .i64 y] (0, 0) _ rfl
    (six_block ((heap_setCell_other _ _ _ _ (by simp)).trans H1.out) _ _ _ _ _ _) Tryd.underlying32 rfl (by kernel_rfl)) rfl ⟨.slice A1 xs.length c1, rfl, ?_, ?_⟩
  · refine Kd.R_mono (ok := fun b => w.heap.size + 2 ≤ b) ?_ (fun _ _ => trivial)
    iterate 7 (first | (with_reducible refine Kd.R_far ?_ (fun b hb => (?_ : b ≠ _)) _; rotate_left; (· simp; omega)) | skip)
    exact HR.out
  · repeat (first | (with_reducible exact HB.out) | (with_reducible refine Below.setCell ?_ (by simp) _))

/-! ### same, sameRow: of equal things -/
set_option maxRecDepth 100000 in
set_option maxHeartbeats 1000000 in
theorem same_eq (A B : Option Addr) (c d : Nat) (xs : List ByteArray) (w : World) (hA : Kd.C Kd.string w A xs.length xs) (hB : Kd.C Kd.string w B xs.length xs) (hn : xs.length ≤ 140737488355328) :
    Calls Tryd.prog 26 #[.slice A xs.length c, .slice B xs.length d] w fun e w' => e = .returned (.bool true) ∧ Drawn0 w w' := by
  have HA := Lib.hid hA
  have HB := Lib.hid hB
  clear hA hB
  obtain ⟨n, hx⟩ : ∃ n, xs.length = n := ⟨_, rfl⟩
  rw [hx] at HA HB hn ⊢
  clear hx
  go_enter Tryd.func26, Tryd.ntmps26
  go_wp2
  go_loopw [5] (fun i wr => ∃ x : Int, 0 ≤ x ∧ x ≤ n ∧ i = .int .i64 x ∧ Drawn0 w wr) (fun i wr => n - (intOf i).toNat)
  case atStart => exact ⟨0, Int.le_refl _, by omega, rfl, Drawn0.refl _⟩
  case round =>
    obtain ⟨x, hx0, hx1, rfl, ⟨m, rfl⟩⟩ := hrel
    by_cases hlt : x < n
    · obtain ⟨ad1, e1, hc1⟩ := Kd.at_string HA.out x hx0 hlt
      obtain ⟨ad2, e2, hc2⟩ := Kd.at_string HB.out x hx0 hlt
      cases e1
      cases e2
      go_wp2
      repeat (go_quiet (fail); try go_wp2)
      go_roundw
      case rel => exact ⟨x + 1, by omega, by omega, by go_num, Drawn0.step (Drawn0.refl _) _⟩
      case measure => simp [intOf]; omega
    · go_wp2
      go_ret
      exact ⟨rfl, Drawn0.step (Drawn0.refl _) _⟩

set_option maxRecDepth 100000 in
set_option maxHeartbeats 1000000 in
theorem sameRow_eq (a b s : ByteArray) (x y : Int) (A B : Option Addr) (c d : Nat) (xs : List ByteArray) (w : World) (hA : Kd.C Kd.string w A xs.length xs) (hB : Kd.C Kd.string w B xs.length xs) (hn : xs.length ≤ 140737488355328) :
    Calls Tryd.prog 17 #[.agg #[.string a, .slice A xs.length c, .string b, .string s, .int .i64 x, .int .i64 y], .agg #[.string a, .slice B xs.length d, .string b, .string s, .int .i64 x, .int .i64 y]] w fun e w' => e = .returned (.bool true) ∧ Below w.heap.size w w' := by
  have HA := Lib.hid hA
  have HB := Lib.hid hB
  clear hA hB
  go_enter Tryd.func17, Tryd.ntmps17
  go_wp2_with (go_at_call 26; refine (same_eq _ _ _ _ xs _ (Kd.C_below HA.out (two_below w _ _)) (Kd.C_below HB.out (two_below w _ _)) hn).mono ?_; rintro e w' ⟨rfl, hD⟩)
  go_ret
  exact ⟨rfl, (two_below w _ _).trans (hD.below.mono (by simp; omega))⟩
end Go.Proofs.YtdonopoijbokiaaDoor

/-! ### Finds -/
namespace Go.Proofs.YtdonopoijbokiaaDoor
open Go.RowKit Go.Proofs.YtdonopoijbokiaaDoorW.PrintWords

/-! ### The two tables are one -/
noncomputable def constsAt (i : Nat) : List ByteArray := if (nameAt i 1).toList.isEmpty then [nameAt i 0, nameAt i 2] else [nameAt i 0, nameAt i 1, nameAt i 2]
theorem table_is : earlyT ++ lateT = (List.range' 0 62).map fun (i : Nat) => (constsAt i, (i : Int)) := by kernel_rfl
theorem hit_meets (t : ByteArray) (i : Nat) : hit t (constsAt i) = rowMeets t i := by
  unfold constsAt rowMeets hit
  cases he : (nameAt i 1).toList.isEmpty
  · simp only [Bool.false_eq_true, if_false, List.any_cons, List.any_nil, Bool.or_false]
    cases ht : t.toList.isEmpty
    · simp [Bool.or_assoc]
    · have e1 : t.toList = [] := by simpa using ht
      have e2 : (t.toList == (nameAt i 1).toList) = false := by
        rw [e1]
        cases hx : (nameAt i 1).toList with
        | nil => simp [hx] at he
        | cons b l => rfl
      simp [e2]
  · have e1 : (nameAt i 1).toList = [] := by simpa using he
    simp only [if_true, List.any_cons, List.any_nil, Bool.or_false, e1]
    cases ht : t.toList <;> simp
theorem look_rows (t : ByteArray) : ∀ (n i : Nat), look t ((List.range' i n).map fun (i : Nat) => (constsAt i, (i : Int))) = if rowFrom t n i < 0 then none else some (rowFrom t n i)
  | 0, i => rfl
  | n + 1, i => by
    rw [List.range'_succ, List.map_cons, look, rowFrom, hit_meets]
    cases rowMeets t i
    · simpa using look_rows t n (i + 1)
    · simp
theorem rowFrom_range (t : ByteArray) : ∀ (n i : Nat), rowFrom t n i < 0 ∨ (i ≤ rowFrom t n i ∧ rowFrom t n i < i + n)
  | 0, i => .inl (by rw [rowFrom]; decide)
  | n + 1, i => by
    rw [rowFrom]
    split
    · exact .inr ⟨by omega, by omega⟩
    · rcases rowFrom_range t n (i + 1) with h | h
      · exact .inl h
      · exact .inr ⟨by omega, by omega⟩
theorem rowR_range (s : ByteArray) : rowR s < 0 ∨ (0 ≤ rowR s ∧ rowR s < 62) := by
  have := rowFrom_range (foldB s) 62 0
  simpa [rowR] using this
theorem byName_is (s : ByteArray) : look (foldB s) (earlyT ++ lateT) = if rowR s < 0 then none else some (rowR s) := by
  rw [table_is, look_rows]
  rfl

/-! ### What Find answers -/
noncomputable def findCells (r : Int) (v : Value) : Array Value := if r < 0 then #[.string ⟨#[]⟩, v, .string ⟨#[]⟩, .string ⟨#[]⟩, .int .i64 0, .int .i64 0] else rowCells r.toNat v
noncomputable def findAlias (r : Int) : List ByteArray := if r < 0 then [] else aliasAt r.toNat
theorem aliasAt_length (i : Nat) : (aliasAt i).length ≤ 1 := by
  unfold aliasAt
  split <;> simp

/-- A struct in a variable, and a slot. -/
theorem results_row_tmp {P : Program} {fn : Func} {p u : Tmp} {ty : TypeId} (h : fn.results = #[.cell p ty, .tmp u]) (tmps : Array Value) (w : World) (g : Nat) (t : TypeId) (cs : Array Value) (fr : Nat × Nat) (d : TypeDesc)
    (hp : tmps.getD p undef = .pointer (some ⟨g, 0, none⟩)) (hg : w.heap[g]? = some (.cells cs t fr))
    (hu : P.underlying ty = some d) (hd : (match d with | .struct _ | .array _ _ => true | _ => false) = true) (hi : (P.info? ty).map (·.size) = some cs.size) :
    (results fn tmps).run P w = .ok (.tuple #[.agg cs, tmps.getD u undef]) w := by
  rw [results_cell_tmp h, hp]
  simp [asAddr, run_loadVar_row w g t ty cs fr d hg hu hd hi]

theorem setRow_below {w0 w : World} {g : Nat} (h : Below w0.heap.size w0 w) (hg : w0.heap.size ≤ g) (c : Array Value) : Below w0.heap.size w0 (w.setRow g c) :=
  ⟨h.os, h.tape, h.output, by rw [size_setRow]; exact h.size, fun i hi => by rw [setRow_other _ _ _ _ (by omega)]; exact h.block i hi⟩
theorem alloc_then {w w' : World} {o : Obj} (h : Below (w.alloc o).heap.size (w.alloc o) w') : Below w.heap.size w w' := ((Below.refl _ w).alloc (Nat.le_refl _) _).trans (h.mono (by simp))
/-- What was made behind block g, and what it holds, is not touched by a row stored into g. -/
theorem R_setRow {w : World} {base g e : Nat} {v : Value} {xs : List ByteArray} (h : Kd.R Kd.string e w (g + 1) (fun _ => True) v xs) (hb : base ≤ g + 1) (c : Array Value) : Kd.R Kd.string e (w.setRow g c) base (fun _ => True) v xs :=
  Kd.R_mono (ok := fun b => True ∧ b ≠ g) (Kd.R_move (Kd.R_lower (Kd.R_mono (Kd.R_bound h) (fun b hb' => ⟨trivial, by have := hb'.2.1; omega⟩)) hb) (fun b hb' => setRow_other _ _ _ _ hb'.2)) (fun _ _ => trivial)

def zeroRow : Array Value := #[.string ⟨#[]⟩, .slice none 0 0, .string ⟨#[]⟩, .string ⟨#[]⟩, .int .i64 0, .int .i64 0]
theorem zeroRow_one : zeroRow.all (·.oneCell') = true := by simp [zeroRow, Value.oneCell']

set_option maxRecDepth 100000 in
set_option maxHeartbeats 1000000 in
theorem find_any (s : ByteArray) (w : World) (hs : s.size ≤ 140737488351232) :
    Calls Tryd.prog 19 #[.string s] w fun e w' => ∃ v, e = .returned (.tuple #[.agg (findCells (rowR s) v), .bool (decide (0 ≤ rowR s))]) ∧ Kd.R Kd.string 9 w' w.heap.size (fun _ => True) v (findAlias (rowR s)) ∧ Below w.heap.size w w' := by
  rcases rowR_range s with hr | ⟨h0, h62⟩
  · have hl : look (foldB s) (earlyT ++ lateT) = none := by rw [byName_is, if_pos hr]
    have e1 : noOf (look (foldB s) (earlyT ++ lateT)) = 0 := by rw [hl]; rfl
    have e2 : isOf (look (foldB s) (earlyT ++ lateT)) = false := by rw [hl]; rfl
    go_enter Tryd.func19, Tryd.ntmps19
    go_wp2_with (first | (go_at_call 33; refine (fold_any _ _ hs).mono ?_; rintro e w1 ⟨rfl, hb1⟩) | (go_at_call 45; refine (byName_any _ _).mono ?_; rw [e1, e2]; rintro e w2 ⟨rfl, rfl⟩) | (refine wpList_store_row rfl 32 (.tmp 2) (.tmp 14) rfl w.heap.size zeroRow rfl rfl 32 _ (newKept hb1) size32 rfl zeroRow_one ?_))
    (try simp only [Exit.inBlock, Exit.then])
    refine bodyPost_ret (results_row_tmp rfl _ _ w.heap.size 32 zeroRow (0, 0) _ rfl (setRow_heap _ _ _ _ _ _ (newKept hb1)) Tryd.underlying32 rfl (by kernel_rfl)) rfl ⟨.slice none 0 0, ?_, ?_, setRow_below (alloc_then hb1) (Nat.le_refl _) _⟩
    · rw [findCells, if_pos hr, decide_eq_false (by omega)]
      rfl
    · rw [findAlias, if_pos hr]
      exact Kd.R_nil _ _ _ _ _
  · obtain ⟨k, hk⟩ : ∃ k : Nat, rowR s = k := ⟨_, (Int.toNat_of_nonneg h0).symm⟩
    rw [hk] at h62
    have e1 : noOf (look (foldB s) (earlyT ++ lateT)) = k := by rw [byName_is, if_neg (by omega), hk]; rfl
    have e2 : isOf (look (foldB s) (earlyT ++ lateT)) = true := by rw [byName_is, if_neg (by omega)]; rfl
    have HK := Lib.hid hk
    clear hk h0
    have h62' : k < 62 := by omega
    go_enter Tryd.func19, Tryd.ntmps19
    go_wp2_with (first | (go_at_call 33; refine (fold_any _ _ hs).mono ?_; rintro e w1 ⟨rfl, hb1⟩) | (go_at_call 45; refine (byName_any _ _).mono ?_; rw [e1, e2]; rintro e w2 ⟨rfl, rfl⟩) | (go_at_call 44; refine (rows_row k _ h62').mono ?_; rintro e w2 ⟨v, rfl, hR, hb2⟩; obtain ⟨A, c, rfl, hlc, hC⟩ := Kd.R_reads hR; have HC := Lib.hid hC; clear hC hR) | (go_at_call 43; refine (copied_any _ _ _ A c (aliasAt k) _ _ _ HC.out (by have := aliasAt_length k; omega)).mono ?_; rintro e w3 ⟨v3, rfl, hR3, hb3⟩) | (refine wpList_store_row rfl 32 (.tmp 2) (.tmp 17) rfl w.heap.size (rowCells k v3) rfl rfl 32 _ (newKept (hb1.trans ((hb2.mono hb1.size).trans (hb3.mono (Nat.le_trans hb1.size hb2.size))))) size32 rfl (one_of_R hR3) ?_))
    (try simp only [Exit.inBlock, Exit.then])
    have hb13 := hb1.trans ((hb2.mono hb1.size).trans (hb3.mono (Nat.le_trans hb1.size hb2.size)))
    have hlt : w.heap.size < w2.heap.size := by
      have h1 := hb1.size
      have h2 := hb2.size
      simp at h1
      omega
    refine bodyPost_ret (results_row_tmp rfl _ _ w.heap.size 32 (rowCells k v3) (0, 0) _ rfl (setRow_heap _ _ _ _ _ _ (newKept hb13)) Tryd.underlying32 rfl (by kernel_rfl)) rfl ⟨v3, ?_, ?_, setRow_below (alloc_then hb13) (Nat.le_refl _) _⟩
    · rw [findCells, HK.out, if_neg (by omega), decide_eq_true (show (0 : Int) ≤ (k : Int) by omega)]
      rfl
    · rw [findAlias, HK.out, if_neg (by omega)]
      exact R_setRow (Kd.R_lower hR3 hlt) (by omega) _

set_option maxRecDepth 100000 in
set_option maxHeartbeats 1000000 in
theorem findR_any (s : ByteArray) (w : World) (hs : s.size ≤ 140737488351232) (hG : KindsAt w) :
    Calls Tryd.prog 20 #[.string s] w fun e w' => ∃ v, e = .returned (.tuple #[.agg (findCells (rowR s) v), .bool (decide (0 ≤ rowR s))]) ∧ Kd.R Kd.string 9 w' w.heap.size (fun _ => True) v (findAlias (rowR s)) ∧ Below w.heap.size w w' := by
  have HG := Lib.hid hG
  clear hG
  rcases rowR_range s with hr | ⟨h0, h62⟩
  · go_enter Tryd.func20, Tryd.ntmps20
    go_wp2_with (first | (go_at_call 46; refine (row_any _ _ hs).mono ?_; rintro e w1 ⟨rfl, hb1⟩) | (refine wpList_store_row rfl 32 (.tmp 2) (.tmp 9) rfl w.heap.size zeroRow rfl rfl 32 _ (newKept hb1) size32 rfl zeroRow_one ?_))
    (try simp only [Exit.inBlock, Exit.then])
    refine bodyPost_ret (results_row_tmp rfl _ _ w.heap.size 32 zeroRow (0, 0) _ rfl (setRow_heap _ _ _ _ _ _ (newKept hb1)) Tryd.underlying32 rfl (by kernel_rfl)) rfl ⟨.slice none 0 0, ?_, ?_, setRow_below (alloc_then hb1) (Nat.le_refl _) _⟩
    · rw [findCells, if_pos hr, decide_eq_false (by omega)]
      rfl
    · rw [findAlias, if_pos hr]
      exact Kd.R_nil _ _ _ _ _
  · obtain ⟨k, hk⟩ : ∃ k : Nat, rowR s = k := ⟨_, (Int.toNat_of_nonneg h0).symm⟩
    have hrow := row_any s (w.alloc (.cells zeroRow 32)) hs
    rw [hk] at h62 hrow
    have HK := Lib.hid hk
    clear hk h0
    have h62' : k < 62 := by omega
    go_enter Tryd.func20, Tryd.ntmps20
    go_wp2_with (first | (go_at_call 46; refine hrow.mono ?_; rintro e w1 ⟨rfl, hb1⟩) | (go_at_call 41; refine (rowOf_any k _ h62' (HG.out.below (alloc_then hb1))).mono ?_; rintro e w2 ⟨v3, rfl, hR3, hb2⟩) | (refine wpList_store_row rfl 32 (.tmp 2) (.tmp 11) rfl w.heap.size (rowCells k v3) rfl rfl 32 _ (newKept (hb1.trans (hb2.mono hb1.size))) size32 rfl (one_of_R hR3) ?_))
    (try simp only [Exit.inBlock, Exit.then])
    have hb13 := hb1.trans (hb2.mono hb1.size)
    have hlt : w.heap.size < w1.heap.size := by
      have h1 := hb1.size
      simp at h1
      omega
    refine bodyPost_ret (results_row_tmp rfl _ _ w.heap.size 32 (rowCells k v3) (0, 0) _ rfl (setRow_heap _ _ _ _ _ _ (newKept hb13)) Tryd.underlying32 rfl (by kernel_rfl)) rfl ⟨v3, ?_, ?_, setRow_below (alloc_then hb13) (Nat.le_refl _) _⟩
    · rw [findCells, HK.out, if_neg (by omega), decide_eq_true (show (0 : Int) ≤ (k : Int) by omega)]
      rfl
    · rw [findAlias, HK.out, if_neg (by omega)]
      exact R_setRow (Kd.R_lower hR3 hlt) (by omega) _
end Go.Proofs.YtdonopoijbokiaaDoor

/-! ### LawFinds -/
namespace Go.Proofs.YtdonopoijbokiaaDoor
open Go.RowKit Go.Proofs.YtdonopoijbokiaaDoorW.PrintWords

theorem findAlias_length (r : Int) : (findAlias r).length ≤ 1 := by
  unfold findAlias
  split
  · simp
  · exact aliasAt_length _
theorem C_of_R {w : World} {base e : Nat} {ok : Nat → Prop} {A : Option Addr} {c : Nat} {xs : List ByteArray} (h : Kd.R Kd.string e w base ok (.slice A xs.length c) xs) : Kd.C Kd.string w A xs.length xs := by
  obtain ⟨A', c', he, _, hC⟩ := Kd.R_reads h
  injection he with e1 _ _
  subst e1
  exact hC
theorem findCells_form (r : Int) : ∃ (a b t : ByteArray) (x y : Int), ∀ v, findCells r v = #[.string a, v, .string b, .string t, .int .i64 x, .int .i64 y] := by
  by_cases h : r < 0
  · exact ⟨_, _, _, _, _, fun v => by rw [findCells, if_pos h]⟩
  · exact ⟨_, _, _, _, _, fun v => by rw [findCells, if_neg h, rowCells]⟩

set_option maxRecDepth 100000 in
set_option maxHeartbeats 1000000 in
theorem attrFinds_walk (s : ByteArray) (w : World) (hs : s.size ≤ 140737488351232) (hG : KindsAt w) :
    Calls Tryd.prog 4 #[.string s] w fun e w' => e = .returned (.bool true) ∧ Below w.heap.size w w' := by
  have HG := Lib.hid hG
  clear hG
  obtain ⟨a, b, t, x, y, hf⟩ := findCells_form (rowR s)
  have HF := Lib.hid hf
  obtain ⟨bo, hbo⟩ : ∃ bo, decide (0 ≤ rowR s) = bo := ⟨_, rfl⟩
  have HO := Lib.hid hbo
  obtain ⟨l, hal⟩ : ∃ l, findAlias (rowR s) = l := ⟨_, rfl⟩
  have hll : l.length ≤ 1 := by rw [← hal]; exact findAlias_length _
  have HA := Lib.hid hal
  clear hf hbo hal
  go_enter Tryd.func4, Tryd.ntmps4
  go_wp2_with (go_at_call 19; refine (find_any _ _ hs).mono ?_; rw [HO.out, HA.out]; rintro e w1 ⟨v1, rfl, hR1, hb1⟩; rw [HF.out]; obtain ⟨A1, c1, rfl⟩ := Kd.R_slice hR1; have HR1 := Lib.hid hR1; have HB1 := Lib.hid hb1; clear hR1 hb1)
  refine (findR_any _ _ hs (HG.out.below (HB1.out.trans (((Below.refl w1.heap.size w1).alloc (Nat.le_refl _) _).mono HB1.out.size)))).mono ?_
  rw [HO.out, HA.out]
  rintro e w2 ⟨v2, rfl, hR2, hb2⟩
  rw [HF.out]
  obtain ⟨A2, c2, rfl⟩ := Kd.R_slice hR2
  have hlt : w1.heap.size < w2.heap.size := by
    have := hb2.size
    simp at this
    omega
  obtain ⟨⟨q0, q1, q2, q3, q4, q5⟩, qf⟩ := cells6 ((hb2.block w1.heap.size (by simp)).trans (heap_alloc_new w1 _))
  have hC1 := Kd.C_below (C_of_R HR1.out) (alloc_then hb2)
  have hC2 := C_of_R hR2
  have HC1 := Lib.hid hC1
  have HC2 := Lib.hid hC2
  have HB2 := Lib.hid hb2
  clear hR2 hb2 hC1 hC2
  go_wp2_with (go_at_call 17; refine (sameRow_eq _ _ _ _ _ _ _ _ _ l _ (Kd.C_below HC1.out ((Below.refl _ w2).alloc (Nat.le_refl _) _)) (Kd.C_below HC2.out ((Below.refl _ w2).alloc (Nat.le_refl _) _)) (by omega)).mono ?_; rintro e w3 ⟨rfl, hb3⟩)
  go_ret
  exact ⟨rfl, HB1.out.trans ((alloc_then HB2.out).trans ((alloc_then hb3).mono (Nat.le_of_lt hlt)) |>.mono HB1.out.size)⟩
end Go.Proofs.YtdonopoijbokiaaDoor
