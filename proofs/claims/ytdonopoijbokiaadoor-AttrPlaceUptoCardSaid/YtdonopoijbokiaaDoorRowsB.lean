/- attr.rows, attr.later: what they answer is the table's row. -/
import Derived.Test.YtdonopoijbokiaaDoorRowsA
import Derived.Test.YtdonopoijbokiaaDoorByName
namespace Go.Proofs.YtdonopoijbokiaaDoor
open Go.RowKit Go.Proofs.YtdonopoijbokiaaDoorW.PrintWords

noncomputable def laterI : List (Int × List Oper) := (chainI 105 (blockOf (codeOf Tryd.f61))).getD []
noncomputable def rowsI : List (Int × List Oper) := (chainI 109 (blockOf (codeOf Tryd.f44))).getD []
theorem laterI_is : chainI 105 (blockOf (codeOf Tryd.f61)) = some laterI := by kernel_rfl
theorem rowsI_is : chainI 109 (blockOf (codeOf Tryd.f44)) = some rowsI := by kernel_rfl

/-- Row k's cells, its list of other names being v. -/
noncomputable def rowCells (k : Nat) (v : Value) : Array Value := #[.string (nameAt k 0), v, .string (nameAt k 2), .string (superAt k), .int .i64 (kindAt k 1), .int .i64 (kindAt k 2)]
/-- What a case of the switch stores where it lies in a world of g blocks. -/
noncomputable def leafGives (n g : Nat) (l : List Oper) : Option (Option ByteArray × Array Value) := (leafOf n l).bind fun (al, q) => match al with
  | none => (Tryd.prog.built 32 (partsOf undef n q)).map fun c => (none, c)
  | some (u, s) => (Tryd.prog.built 32 (partsOf (.slice (some ⟨g, 0, none⟩) 1 1) u q)).map fun c => (some s, c)
noncomputable def rowGives (k g : Nat) : Option (Option ByteArray × Array Value) := if (nameAt k 1).toList.isEmpty then some (none, rowCells k (.slice none 0 0)) else some (some (nameAt k 1), rowCells k (.slice (some ⟨g, 0, none⟩) 1 1))
theorem rowsI_gives (g : Nat) : (List.range 31).map (fun (k : Nat) => (lookI k rowsI).bind (leafGives 109 g)) = (List.range 31).map (fun k => rowGives k g) := by kernel_rfl
theorem laterI_gives (g : Nat) : (List.range 31).map (fun (k : Nat) => (lookI (k + 31 : Nat) laterI).bind (leafGives 105 g)) = (List.range 31).map (fun k => rowGives (k + 31) g) := by kernel_rfl

theorem of_maps {α : Type} {f h : Nat → α} {n : Nat} (e : (List.range n).map f = (List.range n).map h) (k : Nat) (hk : k < n) : f k = h k := by
  have := congrArg (fun l => l[k]?) e
  simpa [hk] using this
theorem rowCells_size (k : Nat) (v : Value) : (rowCells k v).size = 6 := rfl
theorem rowCells_one (k : Nat) (A : Option Addr) (n c : Nat) : (rowCells k (.slice A n c)).all (·.oneCell') = true := by
  simp [rowCells, Value.oneCell']

/-- The world behind a case. -/
noncomputable def rowWorld (k : Nat) (w : World) (g : Nat) : World :=
  if (nameAt k 1).toList.isEmpty then w.setRow g (rowCells k (.slice none 0 0)) else (w.alloc (.cells #[.string (nameAt k 1)] 9)).setRow g (rowCells k (.slice (some ⟨w.heap.size, 0, none⟩) 1 1))
noncomputable def rowSlice (k : Nat) (w : World) : Value := if (nameAt k 1).toList.isEmpty then .slice none 0 0 else .slice (some ⟨w.heap.size, 0, none⟩) 1 1

theorem case_wp {n k : Nat} {l : List Oper} {ops : Array Oper} {Q : Exit → Act → World → Prop} {a : Act} {w : World} {i : Int} {g : Nat} (hl : leafGives n w.heap.size l = rowGives k w.heap.size) (ha : LeftI n i (.pointer (some ⟨g, 0, none⟩)) a)
    {old : Array Value} (hg : w.heap[g]? = some (.cells old 32 (0, 0))) (hold : old.size = 6)
    (hq : ∀ a', a'.defers = a.defers → a'.tmps.getD 2 undef = .pointer (some ⟨g, 0, none⟩) → Q .normal a' (rowWorld k w g)) : wpList Tryd.prog ops Q l a w := by
  unfold leafGives rowGives at hl
  split at hl
  · rename_i he
    simp only [Option.bind_eq_some_iff, Prod.exists] at hl
    obtain ⟨al, q, h1, h2⟩ := hl
    split at h2
    · obtain ⟨c, h3, h4⟩ := Option.map_eq_some_iff.1 h2
      simp only [Prod.mk.injEq, true_and] at h4
      subst h4
      refine leaf_wp h1 ha hg hold _ (rowCells_size _ _) (rowCells_one _ _ _ _) h3 fun a' hd h2' => ?_
      have := hq a' hd h2'
      rw [rowWorld, if_pos he] at this
      exact this
    · obtain ⟨c, h3, h4⟩ := Option.map_eq_some_iff.1 h2
      simp at h4
  · rename_i he
    simp only [Option.bind_eq_some_iff, Prod.exists] at hl
    obtain ⟨al, q, h1, h2⟩ := hl
    split at h2
    · obtain ⟨c, h3, h4⟩ := Option.map_eq_some_iff.1 h2
      simp at h4
    · obtain ⟨c, h3, h4⟩ := Option.map_eq_some_iff.1 h2
      simp only [Prod.mk.injEq, Option.some.injEq] at h4
      obtain ⟨rfl, rfl⟩ := h4
      refine leaf_wp h1 ha hg hold _ (rowCells_size _ _) (rowCells_one _ _ _ _) h3 fun a' hd h2' => ?_
      have := hq a' hd h2'
      rw [rowWorld, if_neg he] at this
      exact this

theorem rowWorld_heap {k : Nat} {w : World} {g : Nat} {old : Array Value} {t : TypeId} (hg : w.heap[g]? = some (.cells old t (0, 0))) : (rowWorld k w g).heap[g]? = some (.cells (rowCells k (rowSlice k w)) t (0, 0)) := by
  have hlt : g < w.heap.size := (Array.getElem?_eq_some_iff.1 hg).1
  unfold rowWorld rowSlice
  split
  · exact setRow_heap _ _ _ _ _ _ hg
  · exact setRow_heap _ _ _ _ _ _ ((((Below.refl w.heap.size w).alloc (Nat.le_refl _) _).block g hlt).trans hg)
theorem rowWorld_below {k : Nat} {w0 w : World} {g : Nat} (h : Below w0.heap.size w0 w) (hg : w0.heap.size ≤ g) : Below w0.heap.size w0 (rowWorld k w g) := by
  have set : ∀ (W : World) (c : Array Value), Below w0.heap.size w0 W → Below w0.heap.size w0 (W.setRow g c) := fun W c hW =>
    ⟨hW.os, hW.tape, hW.output, by rw [size_setRow]; exact hW.size, fun i hi => by rw [setRow_other _ _ _ _ (by omega)]; exact hW.block i hi⟩
  unfold rowWorld
  split
  · exact set _ _ h
  · exact set _ _ (h.alloc h.size _)
theorem rowWorld_own {k : Nat} {w : World} {g : Nat} (hg : g < w.heap.size) {base : Nat} (hb : base ≤ w.heap.size) (ok : Nat → Prop) (hok : ∀ b, w.heap.size ≤ b → ok b) : Kd.R Kd.string 9 (rowWorld k w g) base ok (rowSlice k w) (aliasAt k) := by
  unfold rowWorld rowSlice aliasAt
  split
  · exact Kd.R_nil _ _ _ _ _
  · refine Kd.R_step (w := w.alloc (.cells #[.string (nameAt k 1)] 9)) (ok := fun b => ok b ∧ b = w.heap.size) ?_ (fun b hb' _ => setRow_other _ _ _ _ (by omega)) |> (Kd.R_mono · fun b h => h.1)
    refine Kd.R_of_own (xs := [nameAt k 1]) (World.ownsRow_lit w #[.string (nameAt k 1)] 1 hb (by decide) rfl) (fun b hb' => ?_)
    have : b = w.heap.size := by simpa [Value.ownBlock] using hb'.symm
    exact ⟨hok b (by omega), this⟩

theorem rowsI_none : (rowsI.all fun p => decide (p.1 < 31)) = true := by kernel_rfl
theorem lookI_none {i : Int} : ∀ (m : List (Int × List Oper)), (∀ p, p ∈ m → i ≠ p.1) → lookI i m = none
  | [], _ => rfl
  | (c, l) :: m, h => by
    rw [lookI, if_neg (by simpa using h (c, l) (List.mem_cons_self ..))]
    exact lookI_none m fun p hp => h p (List.mem_cons_of_mem _ hp)

set_option maxRecDepth 100000 in
theorem later_row (k : Nat) (w : World) (h0 : 31 ≤ k) (hk : k < 62) :
    Calls Tryd.prog 61 #[.int .i64 k] w fun e w' => ∃ v, e = .returned (.agg (rowCells k v)) ∧ Kd.R Kd.string 9 w' w.heap.size (fun _ => True) v (aliasAt k) ∧ Below w.heap.size w w' := by
  have hl := of_maps (laterI_gives (w.heap.size + 1)) (k - 31) (by omega)
  simp only [show k - 31 + 31 = k by omega] at hl
  have hl := Lib.hid hl
  go_enter Tryd.func61, Tryd.ntmps61
  go_upto_block 0 with (fail)
  refine wp_block (chainI_wp (n := 105) (i := k) (b := .pointer (some ⟨w.heap.size, 0, none⟩)) (m := laterI) laterI_is ⟨rfl, rfl, rfl, rfl⟩ ?_ ?_)
  · intro l hlk a' ops ha hd
    have hl := hl.out
    rw [hlk] at hl
    refine case_wp (k := k) (by simpa using hl) ha (heap_alloc_new w _) rfl fun a2 hd2 h2 => ?_
    simp only [Exit.inBlock, Exit.then]
    exact bodyPost_ret (results_cell_row rfl _ _ w.heap.size 32 _ (0, 0) _ h2 (rowWorld_heap (heap_alloc_new w _)) Tryd.underlying32 rfl (by kernel_rfl)) (hd2.trans hd)
      ⟨_, rfl, rowWorld_own (by simp) (by simp) _ (fun _ _ => trivial), rowWorld_below ((Below.refl _ _).alloc (Nat.le_refl _) _) (Nat.le_refl _)⟩
  · intro hn
    have hl := hl.out
    rw [hn] at hl
    unfold rowGives at hl
    split at hl <;> cases hl

theorem frame2 {t : Array Value} {x y : Value} {g : Nat} (hs : t.size = 109) (h : t.getD 2 undef = .pointer (some ⟨g, 0, none⟩)) : ((t.setIfInBounds 107 x).setIfInBounds 108 y).getD 2 undef = .pointer (some ⟨g, 0, none⟩) := by
  simp only [Array.getD_eq_getD_getElem?, Array.getElem?_setIfInBounds] at h ⊢
  rw [if_neg (by omega), if_neg (by omega)]
  exact h
theorem frame108 {t : Array Value} {x y : Value} (hs : t.size = 109) : ((t.setIfInBounds 107 x).setIfInBounds 108 y).getD 108 undef = y := by
  simp only [Array.getD_eq_getD_getElem?, Array.getElem?_setIfInBounds, Array.size_setIfInBounds]
  rw [if_pos trivial, if_pos (by omega)]
  rfl
theorem newKept {w w' : World} {o : Obj} (h : Below (w.alloc o).heap.size (w.alloc o) w') : w'.heap[w.heap.size]? = some o := (h.block _ (by simp)).trans (heap_alloc_new w o)
theorem one_of_R {k : Nat} {w : World} {base e : Nat} {ok : Nat → Prop} {v : Value} {xs : List ByteArray} (h : Kd.R Kd.string e w base ok v xs) : (rowCells k v).all (·.oneCell') = true := by
  obtain ⟨A, c, rfl, _⟩ := Kd.R_reads h
  exact rowCells_one _ _ _ _

set_option maxRecDepth 100000 in
theorem rows_row (k : Nat) (w : World) (hk : k < 62) :
    Calls Tryd.prog 44 #[.int .i64 k] w fun e w' => ∃ v, e = .returned (.agg (rowCells k v)) ∧ Kd.R Kd.string 9 w' w.heap.size (fun _ => True) v (aliasAt k) ∧ Below w.heap.size w w' := by
  by_cases h31 : k < 31
  · have hl := Lib.hid (of_maps (rowsI_gives (w.heap.size + 1)) k h31)
    go_enter Tryd.func44, Tryd.ntmps44
    go_upto_block 0 with (fail)
    refine wp_block (chainI_wp (n := 109) (i := k) (b := .pointer (some ⟨w.heap.size, 0, none⟩)) (m := rowsI) rowsI_is ⟨rfl, rfl, rfl, rfl⟩ ?_ ?_)
    · intro l hlk a' ops ha hd
      have hl := hl.out
      rw [hlk] at hl
      refine case_wp (k := k) (by simpa using hl) ha (heap_alloc_new w _) rfl fun a2 hd2 h2 => ?_
      simp only [Exit.inBlock, Exit.then]
      exact bodyPost_ret (results_cell_row rfl _ _ w.heap.size 32 _ (0, 0) _ h2 (rowWorld_heap (heap_alloc_new w _)) Tryd.underlying32 rfl (by kernel_rfl)) (hd2.trans hd)
        ⟨_, rfl, rowWorld_own (by simp) (by simp) _ (fun _ _ => trivial), rowWorld_below ((Below.refl _ _).alloc (Nat.le_refl _) _) (Nat.le_refl _)⟩
    · intro hn
      have hl := hl.out
      rw [hn] at hl
      unfold rowGives at hl
      split at hl <;> cases hl
  · have hno : lookI k rowsI = none := by
      have e := rowsI_none
      exact lookI_none rowsI (fun p hp e' => by
        have := List.all_eq_true.1 e p hp
        have : p.1 < 31 := by simpa using this
        omega)
    have hno := Lib.hid hno
    have h31 : 31 ≤ k := by omega
    go_enter Tryd.func44, Tryd.ntmps44
    go_upto_block 0 with (fail)
    refine wp_block (chainI_wp (n := 109) (i := k) (b := .pointer (some ⟨w.heap.size, 0, none⟩)) (m := rowsI) rowsI_is ⟨rfl, rfl, rfl, rfl⟩ ?_ ?_)
    · intro l hlk
      have hno := hno.out
      rw [hlk] at hno
      cases hno
    · intro _ a' ha hd
      have hs := ha.size
      have hbox := ha.box
      have harg := ha.arg
      clear ha hno
      simp only [Exit.inBlock, Exit.then]
      go_wp2_with (first | (go_at_call 61; refine (later_row _ _ h31 hk).mono ?_; rintro e w' ⟨v, rfl, hR, hB⟩) | (refine wpList_store_row rfl 32 (.tmp 2) (.tmp 108) rfl w.heap.size (rowCells k v) (frame2 hs hbox) (frame108 hs) 32 _ (newKept hB) size32 rfl (one_of_R hR) ?_))
      refine bodyPost_ret (results_cell_row rfl _ _ w.heap.size 32 (rowCells k v) (0, 0) _ (frame2 hs hbox) (setRow_heap _ _ _ _ _ _ (newKept hB)) Tryd.underlying32 rfl (by kernel_rfl)) rfl ⟨v, rfl, ?_, ?_⟩
      · have hsz := World.size_alloc
        refine Kd.R_mono (ok := fun b => True ∧ b ≠ w.heap.size) (Kd.R_move (Kd.R_lower (Kd.R_mono (Kd.R_bound hR) (fun b hb => ⟨trivial, ?_⟩)) (by simp)) (fun b hb => setRow_other _ _ _ _ hb.2)) (fun _ _ => trivial)
        have := hb.2.1
        simp at this
        omega
      · have hb : Below w.heap.size w w' := ((Below.refl _ w).alloc (Nat.le_refl _) _).trans (hB.mono (by simp))
        exact ⟨hb.os, hb.tape, hb.output, by rw [size_setRow]; exact hb.size, fun i hi => by rw [setRow_other _ _ _ _ (by omega)]; exact hb.block i hi⟩
end Go.Proofs.YtdonopoijbokiaaDoor
