/- (*strings.Builder).copyCheck and WriteString at this dump (walks turned from the library's shelf, whose laying falls here). A row of bytes whose frozen stretch lies behind all its cells (what []byte(s) lays): appends to it, and its text. attr.Print and rosterref04.Print: the type, and each option behind a semicolon. rosterref04.Print: the type, and each option behind a semicolon. -/
import Derived.Test.YtdonopoijbokiaaDoorB5
import Derived.Test.YtdonopoijbokiaaDoorShelf
import Derived.Lib.Builder
import Derived.Lib.AppendStr
import Derived.Lib.Strings
import Derived.Lib.Slices
import Derived.Laws.Externs
import Derived.Test.YtdonopoijbokiaaDoorB3
import Derived.Test.YtdonopoijbokiaaDoorNext
set_option linter.unusedVariables false
set_option linter.unusedSimpArgs false

/-! ### Builder -/
namespace Go.Proofs.YtdonopoijbokiaaDoor
open Go.RowKit Go.Proofs.YtdonopoijbokiaaDoorW.PrintWords

theorem sizeBuilder : (Tryd.prog.info? 84).map (·.size) = some 2 := by kernel_rfl
theorem liesBuilder : liesAt Tryd.prog Tryd.prog.depth 84 (2 / Tryd.prog.cellsOf 84) 0 84 1 = true := by kernel_rfl

set_option maxHeartbeats 1000000 in
set_option maxRecDepth 100000 in
theorem copyCheck_used (b : Nat) (w : World) (h0 : w.cell? ⟨b, 0, none⟩ = some (.pointer (some ⟨b, 0, none⟩))) :
    Calls Tryd.prog 74 #[.pointer (some ⟨b, 0, none⟩)] w fun e w' => e = .returned (.tuple #[]) ∧ w' = w := by
  obtain ⟨j, hj, _⟩ := Option.map_eq_some_iff.1 sizeBuilder
  go_enter Tryd.func74, Tryd.ntmps74
  go_wp2
  rw [Lib.run_neq_ptr_same w _ Tryd.underlying82 hj]
  go_wp2
  go_end0
  exact ⟨rfl, rfl⟩

set_option maxHeartbeats 1000000 in
set_option maxRecDepth 100000 in
theorem copyCheck_fresh (b : Nat) (w : World) (h0 : w.cell? ⟨b, 0, none⟩ = some (.pointer none)) (hsh : w.shape? b = some (84, 2)) (hfz : w.frozen? ⟨b, 0, none⟩ = false) :
    Calls Tryd.prog 74 #[.pointer (some ⟨b, 0, none⟩)] w fun e w' => e = .returned (.tuple #[]) ∧ w' = w.setCell ⟨b, 0, none⟩ (.pointer (some ⟨b, 0, none⟩)) := by
  obtain ⟨j, hj, hjs⟩ := Option.map_eq_some_iff.1 sizeBuilder
  go_enter Tryd.func74, Tryd.ntmps74
  go_wp2
  rw [Lib.run_to_unsafe w ⟨b, 0, none⟩ Tryd.underlying82 Tryd.underlying107 hj (by rw [hjs]; decide) hsh (Nat.zero_lt_succ 1)]
  simp only [Result.andThen]
  rw [Oper.upon_value]
  go_wp2
  rw [run_callFunc_extern Tryd.func86 (by kernel_rfl) (by kernel_rfl) (by kernel_rfl) (e := Extern.AbiNoEscape.same) (by kernel_rfl)]
  rw [Lib.run_noEscape]
  simp only [Result.andThen]
  rw [Oper.upon_value]
  go_wp2
  rw [Lib.run_from_unsafe w ⟨b, 0, none⟩ Tryd.underlying107 Tryd.underlying82 hj hsh liesBuilder]
  simp only [Result.andThen]
  rw [Oper.upon_value]
  go_wp2
  go_end0
  exact ⟨rfl, rfl⟩

/-- Behind it the builder is 'used': 'addr' holds its own address; its bytes are as they were. -/
theorem copyCheck_any (B b : Nat) (bs : List Value) (w : World) (h : Lib.IsBuilder 84 5 B b bs w) :
    Calls Tryd.prog 74 #[.pointer (some ⟨b, 0, none⟩)] w fun e w' => e = .returned (.tuple #[]) ∧ (Lib.BuilderAt 84 5 B b (.pointer (some ⟨b, 0, none⟩)) bs w' ∧ Below B w w') := by
  rcases h with h | h
  · refine (copyCheck_fresh b w h.cell0 h.shape h.frozen0).mono ?_
    rintro e w' ⟨rfl, rfl⟩
    exact ⟨rfl, h.used _, (Below.refl B w).setCell (p := ⟨b, 0, none⟩) h.1 _⟩
  · refine (copyCheck_used b w h.cell0).mono ?_
    rintro e w' ⟨rfl, rfl⟩
    exact ⟨rfl, h, Below.refl B _⟩

set_option maxHeartbeats 2000000 in
set_option maxRecDepth 100000 in
/-- WriteString: the text is put behind what the builder holds. -/
theorem writeString_any (B b : Nat) (bs : List Value) (s : ByteArray) (w : World) (h : Lib.IsBuilder 84 5 B b bs w) (hlen : bs.length + s.size ≤ 140737488355328) (hBw : B ≤ w.heap.size) :
    Calls Tryd.prog 59 #[.pointer (some ⟨b, 0, none⟩), .string s] w fun e w' => e = .returned (.tuple #[.int .i64 s.size, .nilIface]) ∧ (Lib.IsBuilder 84 5 B b (bs ++ Lib.strCells s) w' ∧ Below B w w') := by
  obtain ⟨i0, hi, hz0, hz1, hz2⟩ := info_parts info5
  go_enter Tryd.func59, Tryd.ntmps59
  go_wp2_with (go_at_call 74; refine (copyCheck_any B b bs _ h).mono ?_)
  rintro e w1 ⟨rfl, h1, hb1⟩
  obtain ⟨hB, v, hbk, hown, hne⟩ := h1
  have c0 : w1.cell? ⟨b, 0, none⟩ = some (.pointer (some ⟨b, 0, none⟩)) := by rw [Lib.cell_of_heap hbk]; rfl
  have c1 : w1.cell? ⟨b, 1, none⟩ = some v := by rw [Lib.cell_of_heap hbk]; rfl
  go_wp2_with (at_builtin; refine Lib.wpList_append_own_string _ rfl _ _ 49 9 rfl B 5 i0 Tryd.underlying49 Tryd.underlying9 hi hz0 hz1 hz2 _ _ _ rfl hown s rfl ?c3 ?c4 ?c5 ?_)
  case c3 => unfold maxLen; omega
  case c4 => omega
  case c5 => have := hb1.size; omega
  intro v' w2 hown' hgrow _
  have hlt : b < w1.heap.size := by
    rcases Nat.lt_or_ge b w1.heap.size with h' | h'
    · exact h'
    · simp [Array.getElem?_eq_none h'] at hbk
  have hb2 : w2.heap[b]? = some (.cells #[.pointer (some ⟨b, 0, none⟩), v] 84 (0, 0)) := by
    rw [hgrow.block b hlt (fun e => hne e.symm)]
    exact hbk
  have d0 : w2.cell? ⟨b, 0, none⟩ = some (.pointer (some ⟨b, 0, none⟩)) := by rw [Lib.cell_of_heap hb2]; rfl
  have d1 : w2.cell? ⟨b, 1, none⟩ = some v := by rw [Lib.cell_of_heap hb2]; rfl
  have f1 : w2.frozen? ⟨b, 1, none⟩ = false := Lib.frozen_of_heap hb2 1
  obtain ⟨ao, n', cap, rfl⟩ : ∃ ao n' cap, v' = .slice ao n' cap := by
    rcases hown'.2 with ⟨hv, _⟩ | ⟨g, cap, cur, hv, _⟩
    · exact ⟨_, _, _, hv⟩
    · exact ⟨_, _, _, hv⟩
  go_wp2
  go_ret2
  refine ⟨rfl, .inr ?_, ?_⟩
  · exact Lib.BuilderAt.put (T := 84) (e := 5) hB hb2 (bs' := bs ++ Lib.strCells s) (by simpa [Lib.strCells_length] using hown') (by decide)
  · exact (hb1.grown hgrow (by have := hb1.size; omega) (fun k hk => (hown.lt k hk).1)).setCell (p := ⟨b, 1, none⟩) hB _
end Go.Proofs.YtdonopoijbokiaaDoor

/-! ### Mark -/
namespace Go.Proofs.YtdonopoijbokiaaDoor
open Go.RowKit Go.Proofs.YtdonopoijbokiaaDoorW.PrintWords

section
variable {P : Program}
theorem storeCells_M (g o : Nat) (t : TypeId) (fz : Nat × Nat) : ∀ (vs : List Value) (i : Nat) (cur : Array Value) (w : World), w.heap[g]? = some (.cells cur t fz) → (∀ j, j < cur.size → ¬ (fz.1 ≤ j ∧ j < fz.2)) → o + i + vs.length ≤ cur.size → (∀ v ∈ vs, v.oneCell' = true) →
    (storeCells ⟨g, o, none⟩ vs i).run P w = .ok () (w.setRow g (cur.toList.take (o + i) ++ vs ++ cur.toList.drop (o + i + vs.length)).toArray)
  | [], i, cur, w, hg, _, _, _ => by
    simp only [storeCells, List.append_nil, List.length_nil, Nat.add_zero, List.take_append_drop, Array.toArray_toList]
    rw [setRow_self w g cur t fz hg]
    rfl
  | v :: rest, i, cur, w, hg, hfz, hl, h1 => by
    have hi : o + i < cur.size := by simp at hl; omega
    have hadd : (⟨g, o, none⟩ : Addr).add i = ⟨g, o + i, none⟩ := by unfold Addr.add; split <;> simp_all
    have hcell : w.cell? ⟨g, o + i, none⟩ = some cur[o + i] := by simp [World.cell?, hg, hi]
    have hfro : w.frozen? ⟨g, o + i, none⟩ = false := by
      have := hfz (o + i) hi
      obtain ⟨lo, hi'⟩ := fz
      simp only [World.frozen?, hg, Bool.and_eq_false_iff, decide_eq_false_iff_not]
      simp only at this
      omega
    have hst : (store ((⟨g, o, none⟩ : Addr).add i) v).run P w = .ok () (w.setRow g (cur.setIfInBounds (o + i) v)) := by
      rw [hadd, run_store P w _ v _ (h1 v (by simp)), hcell]
      simp [hfro, setCell_eq_setRow w g (o + i) cur t fz v hg]
    have ih := storeCells_M g o t fz rest (i + 1) (cur.setIfInBounds (o + i) v) (w.setRow g (cur.setIfInBounds (o + i) v)) (setRow_heap w g cur _ t _ hg) (fun j hj => hfz j (by simpa using hj)) (by simp at hl ⊢; omega) (fun x hx => h1 x (by simp [hx]))
    simp only [storeCells, Sem.run_bind, hst, Result.andThen_ok, ih, setRow_setRow]
    congr 3
    have e := list_seg_step cur.toList (o + i) v rest (by simp at hl ⊢; omega)
    simpa [Array.toList_setIfInBounds, Nat.add_assoc] using e

/-- The slice v owns the cells xs of a row of element type e, whose frozen stretch meets none of its cells. -/
def OwnsM (w : World) (base : Nat) (e : TypeId) (v : Value) (xs : List Value) : Prop :=
  ∃ g cap cur fz, v = .slice (some ⟨g, 0, none⟩) xs.length cap ∧ base ≤ g ∧ w.heap[g]? = some (.cells cur e fz) ∧ (∀ j, j < cur.size → ¬ (fz.1 ≤ j ∧ j < fz.2)) ∧ xs.length ≤ cap ∧ cap ≤ maxLen ∧ cur.size = cap ∧ cur.toList.take xs.length = xs
theorem OwnsM.cells {w : World} {base : Nat} {e : TypeId} {g n cap : Nat} {xs : List Value} (h : OwnsM w base e (.slice (some ⟨g, 0, none⟩) n cap) xs) : ∀ j u, xs[j]? = some u → w.cell? ((⟨g, 0, none⟩ : Addr).add j) = some u := by
  obtain ⟨g', cap', cur, fz, hv, _, hg, _, _, _, _, ht⟩ := h
  injection hv with h1 h2 h3
  injection h1 with h1
  injection h1 with h1
  subst h1
  intro j u hu
  have hadd : (⟨g, 0, none⟩ : Addr).add j = ⟨g, j, none⟩ := by unfold Addr.add; split <;> simp_all
  rw [hadd, cell_of_row w g j cur e fz hg]
  rw [← ht, List.getElem?_take] at hu
  split at hu
  · simpa using hu
  · cases hu
theorem OwnsM.grownBy {w w' : World} {base : Nat} {e : TypeId} {v : Value} {xs : List Value} {row : Option Nat} (h : OwnsM w base e v xs) (hg : w.grownBy w' row) (hne : v.ownBlock ≠ row) : OwnsM w' base e v xs := by
  obtain ⟨g, cap, cur, fz, rfl, hb, hgg, rest⟩ := h
  refine ⟨g, cap, cur, fz, rfl, hb, ?_, rest⟩
  rw [hg.block g (Array.getElem?_eq_some_iff.1 hgg).1 (by simpa [Value.ownBlock] using hne)]
  exact hgg
theorem OwnsM.below {w w' : World} {base : Nat} {e : TypeId} {v : Value} {xs : List Value} (h : OwnsM w base e v xs) (hg : Below w.heap.size w w') : OwnsM w' base e v xs := by
  obtain ⟨g, cap, cur, fz, rfl, hb, hgg, rest⟩ := h
  exact ⟨g, cap, cur, fz, rfl, hb, (hg.block g (Array.getElem?_eq_some_iff.1 hgg).1).trans hgg, rest⟩
theorem OwnsM.slice {w : World} {base : Nat} {e : TypeId} {v : Value} {xs : List Value} (h : OwnsM w base e v xs) : ∃ g cap, v = .slice (some ⟨g, 0, none⟩) xs.length cap ∧ base ≤ g ∧ g < w.heap.size := by
  obtain ⟨g, cap, cur, fz, rfl, hb, hgg, rest⟩ := h
  exact ⟨g, cap, rfl, hb, (Array.getElem?_eq_some_iff.1 hgg).1⟩

/-- A new row that an append has laid. -/
theorem ownsM_new (w : World) (base : Nat) (e : TypeId) (z : Array Value) (hz : z.size = 1) (all : List Value) (old : Nat) (hbase : base ≤ w.heap.size) (h63 : all.length ≤ maxLen) (cur : Array Value) (hcur : cur = all.toArray ++ Builtin.zeroCells z (grownCap w all.length old e - all.length)) :
    OwnsM (w.drew.alloc (.cells cur e)) base e (.slice (some ⟨w.heap.size, 0, none⟩) all.length (grownCap w all.length old e)) all := by
  have hge := grownCap_ge w all.length old e
  refine ⟨w.heap.size, _, _, (0, 0), rfl, hbase, heap_alloc_new w.drew _, fun j _ => by simp, hge, grownCap_le_maxLen w all.length old e h63, ?_, ?_⟩
  · rw [hcur]
    simp only [Array.size_append, List.size_toArray, size_zeroCells, hz]
    omega
  · rw [hcur]
    simp

theorem run_append_M (w : World) (base : Nat) (t ty e : TypeId) (i : TypeInfo) (z : Value) (ht : P.underlying t = some (.slice e)) (hi : P.info? e = some i) (hz : i.zero = some z) (hsize : i.size = 1) (hby : i.bytes = 1) (hzs : z.cells.size = 1)
    (v : Value) (xs : List Value) (hown : OwnsM w base e v xs) (a : Addr) (m c : Nat) (news : List Value) (hl : news.length = m) (hnews : ∀ j u, news[j]? = some u → w.cell? (a.add j) = some u) (h1 : ∀ u ∈ news, u.oneCell' = true)
    (hbytes : xs.length + m ≤ 140737488355328) (hbase : base ≤ w.heap.size) :
    ∃ v' w', (Builtin.append_ #[t, t] ty #[v, .slice (some a) m c]).run P w = .ok v' w' ∧ OwnsM w' base e v' (xs ++ news) ∧ w.grownBy w' v.ownBlock := by
  have hown' := hown
  obtain ⟨g, cap, cur, fz, rfl, hbg, hg, hfz, hnc, hcm, hcs, htake⟩ := hown
  have hlen : (xs ++ news).length = xs.length + m := by rw [List.length_append, hl]
  by_cases hroom : xs.length + m ≤ cap
  · have hf := run_firstCells_some (P := P) w i.size m a m c news (by rw [hl, hsize, Nat.mul_one]) hnews
    have hst := storeCells_M (P := P) g xs.length e fz news 0 cur w hg hfz (by omega) h1
    simp only [Nat.add_zero] at hst
    rw [hsize] at hf
    have hr : (Builtin.append_ #[t, t] ty #[.slice (some ⟨g, 0, none⟩) xs.length cap, .slice (some a) m c]).run P w = .ok (.slice (some ⟨g, 0, none⟩) (xs.length + m) cap) (w.setRow g (cur.toList.take xs.length ++ news ++ cur.toList.drop (xs.length + news.length)).toArray) := by
      simp [Builtin.append_, run_underlying ht, sizeOf, typeInfo, hi, hsize, Builtin.lenOf, hroom, hf, Addr.add_lit, hst]
    refine ⟨_, _, hr, ⟨g, cap, _, fz, by rw [hlen], hbg, setRow_heap w g cur _ e _ hg, fun j hj => hfz j ?_, by omega, hcm, ?_, ?_⟩, ⟨rfl, rfl, rfl, by simp, fun k _ hk => setRow_other w g k _ (fun e => hk (by simp [Value.ownBlock, e]))⟩⟩
    · simp only [List.size_toArray, List.length_append, List.length_take, List.length_drop, Array.length_toList] at hj
      omega
    · simp only [List.size_toArray, List.length_append, List.length_take, List.length_drop, Array.length_toList]
      omega
    · rw [htake]
      exact List.take_left
  · have hr := run_append_grow (P := P) w t ty e i z ht hi hz ⟨g, 0, none⟩ xs.length cap xs (by rw [hsize, Nat.mul_one]) hown'.cells a m c news (by rw [hl, hsize, Nat.mul_one]) hnews (by omega) (by omega) (by rw [hby]; exact growslice_fits (by omega) (by omega))
    refine ⟨_, _, hr, ?_, ⟨rfl, rfl, rfl, by simp, fun k hk _ => Go.heap_alloc_old w.drew _ hk⟩⟩
    have := ownsM_new w base e z.cells hzs (xs ++ news) cap hbase (by unfold maxLen; omega) _ rfl
    rw [hlen] at this
    simpa using this
theorem run_append_str_M (w : World) (base : Nat) (t u ty e : TypeId) (i : TypeInfo) (ht : P.underlying t = some (.slice e)) (hu : P.underlying u = some .string) (hi : P.info? e = some i) (hz : i.zero = some (.int .u8 0)) (hsize : i.size = 1) (hby : i.bytes = 1)
    (v : Value) (xs : List Value) (hown : OwnsM w base e v xs) (s : ByteArray) (hbytes : xs.length + s.size ≤ 140737488355328) (hbase : base ≤ w.heap.size) :
    ∃ v' w', (Builtin.append_ #[t, u] ty #[v, .string s]).run P w = .ok v' w' ∧ OwnsM w' base e v' (xs ++ Lib.strCells s) ∧ w.grownBy w' v.ownBlock := by
  have hown' := hown
  obtain ⟨g, cap, cur, fz, rfl, hbg, hg, hfz, hnc, hcm, hcs, htake⟩ := hown
  have hlen : (xs ++ Lib.strCells s).length = xs.length + s.size := by rw [List.length_append, Lib.strCells_length]
  by_cases hroom : xs.length + s.size ≤ cap
  · have hf := Lib.run_firstCells_string (P := P) w 1 s
    have hst := storeCells_M (P := P) g xs.length e fz (Lib.strCells s) 0 cur w hg hfz (by rw [Lib.strCells_length]; omega) (Lib.strCells_oneCell s)
    simp only [Nat.add_zero, Lib.strCells_length] at hst
    have hr : (Builtin.append_ #[t, u] ty #[.slice (some ⟨g, 0, none⟩) xs.length cap, .string s]).run P w = .ok (.slice (some ⟨g, 0, none⟩) (xs.length + s.size) cap) (w.setRow g (cur.toList.take xs.length ++ Lib.strCells s ++ cur.toList.drop (xs.length + s.size)).toArray) := by
      simp [Builtin.append_, run_underlying ht, run_underlying hu, sizeOf, typeInfo, hi, hsize, Builtin.lenOf, hroom, hf, Addr.add_lit, hst]
    refine ⟨_, _, hr, ⟨g, cap, _, fz, by rw [hlen], hbg, setRow_heap w g cur _ e _ hg, fun j hj => hfz j ?_, by omega, hcm, ?_, ?_⟩, ⟨rfl, rfl, rfl, by simp, fun k _ hk => setRow_other w g k _ (fun e => hk (by simp [Value.ownBlock, e]))⟩⟩
    · simp only [List.size_toArray, List.length_append, List.length_take, List.length_drop, Array.length_toList, Lib.strCells_length] at hj
      omega
    · simp only [List.size_toArray, List.length_append, List.length_take, List.length_drop, Array.length_toList, Lib.strCells_length]
      omega
    · rw [htake]
      exact List.take_left
  · have hr := Lib.run_append_grow_string (P := P) w t u ty e i (.int .u8 0) ht hu hi hz ⟨g, 0, none⟩ xs.length cap xs (by rw [hsize, Nat.mul_one]) hown'.cells s (by omega) (by omega) (by rw [hby]; exact growslice_fits (by omega) (by omega))
    refine ⟨_, _, hr, ?_, ⟨rfl, rfl, rfl, by simp, fun k hk _ => Go.heap_alloc_old w.drew _ hk⟩⟩
    have := ownsM_new w base e (Value.int .u8 0).cells rfl (xs ++ Lib.strCells s) cap hbase (by unfold maxLen; omega) _ rfl
    rw [hlen] at this
    simpa using this

/-- The operations, for the walk: one byte; a text. -/
theorem wpM_one {ops : Array Oper} {rest : List Oper} {o : Oper} {a : Act} {Q : Exit → Act → World → Prop} {w0 W : World} (base : Nat) (hgd : o.guard = none) (s x : Operand) (t e : TypeId) (i : TypeInfo)
    (ho : o.op = .call { callee := .builtin .append, args := #[s, x], argTypes := #[t, t] }) (ht : P.underlying t = some (.slice e)) (hi : P.info? e = some i) (hz : i.zero = some (.int .u8 0)) (hsize : i.size = 1) (hby : i.bytes = 1)
    (v : Value) (xs : List Value) (c : Int) (hs : a.eval s = v) (hx : a.eval x = .slice (some ⟨W.heap.size, 0, none⟩) 1 1) (HO : OwnsM W base e v xs) (HB : Below base w0 W) (hbase : base ≤ W.heap.size) (hl : xs.length + 1 ≤ 140737488355328)
    (h : ∀ v1 w1, OwnsM w1 base e v1 (xs ++ [.int .u8 c]) → Below base w0 w1 → wpList P ops Q rest (a.put o.dst v1) w1) : wpList P ops Q (o :: rest) a (W.alloc (.cells #[.int .u8 c] e)) := by
  refine wpList_plain hgd fun K hK => ?_
  obtain ⟨g, cap, rfl, hbg, hgl⟩ := HO.slice
  obtain ⟨v', w', hr, h2, h3⟩ := run_append_M (P := P) (W.alloc (.cells #[.int .u8 c] e)) base t o.type e i (.int .u8 0) ht hi hz hsize hby rfl _ xs (HO.below ((Below.refl _ W).alloc (Nat.le_refl _) _)) ⟨W.heap.size, 0, none⟩ 1 1 [.int .u8 c] rfl (fun j u hj => by
    rcases j with _ | j
    · simp only [List.getElem?_cons_zero, Option.some.injEq] at hj
      subst hj
      exact cell_of_row _ W.heap.size 0 _ e (0, 0) (heap_alloc_new W _)
    · simp at hj) (by simp [Value.oneCell']) hl (by simp; omega)
  unfold Oper.wp execOp
  simp only [ho, resolve, invoke, builtin, Sem.run_bind, Sem.run_pure, Result.andThen_ok, List.map_toArray, List.map_cons, List.map_nil, hs, hx, hr]
  exact hK _ _ (h v' w' h2 ((HB.alloc hbase _).grown h3 (by simp; omega) (fun k hk => by simp [Value.ownBlock] at hk; omega)))
theorem wpM_str {ops : Array Oper} {rest : List Oper} {o : Oper} {a : Act} {Q : Exit → Act → World → Prop} {w0 W : World} (base : Nat) (hgd : o.guard = none) (sl x : Operand) (t u e : TypeId) (i : TypeInfo)
    (ho : o.op = .call { callee := .builtin .append, args := #[sl, x], argTypes := #[t, u] }) (ht : P.underlying t = some (.slice e)) (hu : P.underlying u = some .string) (hi : P.info? e = some i) (hz : i.zero = some (.int .u8 0)) (hsize : i.size = 1) (hby : i.bytes = 1)
    (v : Value) (xs : List Value) (s : ByteArray) (hs : a.eval sl = v) (hx : a.eval x = .string s) (HO : OwnsM W base e v xs) (HB : Below base w0 W) (hbase : base ≤ W.heap.size) (hl : xs.length + s.size ≤ 140737488355328)
    (h : ∀ v1 w1, OwnsM w1 base e v1 (xs ++ Lib.strCells s) → Below base w0 w1 → wpList P ops Q rest (a.put o.dst v1) w1) : wpList P ops Q (o :: rest) a W := by
  refine wpList_plain hgd fun K hK => ?_
  obtain ⟨g, cap, rfl, hbg, hgl⟩ := HO.slice
  obtain ⟨v', w', hr, h2, h3⟩ := run_append_str_M (P := P) W base t u o.type e i ht hu hi hz hsize hby _ xs HO s hl hbase
  unfold Oper.wp execOp
  simp only [ho, resolve, invoke, builtin, Sem.run_bind, Sem.run_pure, Result.andThen_ok, List.map_toArray, List.map_cons, List.map_nil, hs, hx, hr]
  exact hK _ _ (h v' w' h2 (HB.grown h3 hbase (fun k hk => by simp [Value.ownBlock] at hk; omega)))
/-- []byte(s). -/
theorem ownsM_conv (w : World) (base : Nat) (e : TypeId) (s : ByteArray) (hb : base ≤ w.heap.size) (hs : s.size ≤ 140737488355328) : OwnsM (Lib.bytesWorld w e s) base e (.slice (some ⟨w.heap.size, 0, none⟩) s.size (grownCap w s.size 0 e)) (Lib.strCells s) := by
  have hge := grownCap_ge w s.size 0 e
  have hsz : (Lib.bytesCells w e s).size = grownCap w s.size 0 e := by
    simp only [Lib.bytesCells, Array.size_append, Array.size_map, Array.size_replicate]
    have : s.data.size = s.size := rfl
    omega
  refine ⟨w.heap.size, _, _, _, by rw [Lib.strCells_length], hb, Lib.bytesWorld_at_new w e s, fun j hj => by simp only; omega, by rw [Lib.strCells_length]; exact hge, grownCap_le_maxLen w s.size 0 e (by unfold maxLen; omega), hsz, ?_⟩
  rw [Lib.strCells_length]
  simp only [Lib.bytesCells, Array.toList_append, Array.toList_map]
  have hln : (s.data.toList.map fun b : UInt8 => Value.int .u8 b.toNat).length = s.size := by rw [List.length_map]; exact Array.length_toList
  rw [List.take_append_of_le_length (by rw [hln]; exact Nat.le_refl _), List.take_of_length_le (by rw [hln]; exact Nat.le_refl _)]
  rfl
/-- string(b). -/
theorem ownsM_string {w : World} {base : Nat} {e src dst : TypeId} {v : Value} {l : List UInt8} (hs : P.underlying src = some (.slice e)) (he : P.underlying e = some (.int .u8)) (hd : P.underlying dst = some .string)
    (h : OwnsM w base e v (Lib.byteCells l)) : (convert src dst v).run P w = .ok (.string ⟨l.toArray⟩) w := by
  obtain ⟨g, cap, rfl, _, _⟩ := h.slice
  have e1 : (⟨l.toArray⟩ : ByteArray) = strOfNums (l.map fun b => (b.toNat : Int)) := by
    have : (l.map fun b => (b.toNat : Int)).map (fun n => UInt8.ofNat n.toNat) = l := by
      rw [List.map_map]
      refine (List.map_congr_left fun b _ => ?_).trans (List.map_id l)
      simp
    rw [strOfNums, this]
  rw [e1]
  refine run_convert_bytes_arg w src e hs he g 0 _ cap _ (by simp [Lib.byteCells_length]) (fun i hi => ?_) dst hd
  have hi' : i < l.length := by simpa [Lib.byteCells_length] using hi
  have hc := h.cells i (.int .u8 ((l.map fun b => (b.toNat : Int)).getD i 0)) (by simp [Lib.byteCells, List.getElem?_eq_getElem hi', List.getD_eq_getElem?_getD])
  have ha : (⟨g, 0, none⟩ : Addr).add i = ⟨g, 0 + i, none⟩ := by unfold Addr.add; split <;> simp_all
  rwa [ha] at hc
end
end Go.Proofs.YtdonopoijbokiaaDoor

/-! ### Print -/
namespace Go.Proofs.YtdonopoijbokiaaDoor
open Go.RowKit Go.Proofs.YtdonopoijbokiaaDoorW.PrintWords

def printL (t : ByteArray) (os : List ByteArray) : List UInt8 := t.data.toList ++ os.flatMap fun o => 59 :: o.data.toList
def printB (t : ByteArray) (os : List ByteArray) : ByteArray := ⟨(printL t os).toArray⟩
theorem printL_next (t : ByteArray) {os : List ByteArray} {x : Int} (h0 : 0 ≤ x) (hx : x < os.length) : printL t (os.take (x + 1).toNat) = printL t (os.take x.toNat) ++ [59] ++ (rdOf ByteArray.empty os x).data.toList := by
  rw [show (x + 1).toNat = x.toNat + 1 by omega, take_snoc' _ ByteArray.empty _ (by omega)]
  simp [printL, rdOf, List.flatMap_append]
theorem printL_le (t : ByteArray) (os : List ByteArray) (k : Nat) : (printL t (os.take k)).length ≤ (printL t os).length := by
  have h : (os.flatMap fun o => (59 : UInt8) :: o.data.toList) = ((os.take k).flatMap fun o => (59 : UInt8) :: o.data.toList) ++ ((os.drop k).flatMap fun o => (59 : UInt8) :: o.data.toList) := by rw [← List.flatMap_append, List.take_append_drop]
  have : printL t os = printL t (os.take k) ++ (os.drop k).flatMap fun o => 59 :: o.data.toList := by
    unfold printL
    rw [h, List.append_assoc]
  rw [this, List.length_append]
  omega
theorem strCells_semi : Lib.strCells ⟨#[59]⟩ = Lib.byteCells [59] := rfl
theorem byteCells_next (t : ByteArray) {os : List ByteArray} {x : Int} (h0 : 0 ≤ x) (hx : x < os.length) : Lib.byteCells (printL t (os.take x.toNat)) ++ Lib.byteCells [59] ++ Lib.strCells (rdOf ByteArray.empty os x) = Lib.byteCells (printL t (os.take (x + 1).toNat)) := by
  rw [printL_next t h0 hx, Lib.strCells_eq, Lib.byteCells_append, Lib.byteCells_append]
theorem print_room (t : ByteArray) {os : List ByteArray} {x : Int} (h0 : 0 ≤ x) (hx : x < os.length) (hl : (printL t os).length ≤ 4294967296) : (printL t (os.take x.toNat)).length + 1 + (rdOf ByteArray.empty os x).size ≤ 4294967296 := by
  have h1 := printL_le t os (x + 1).toNat
  rw [printL_next t h0 hx, List.length_append, List.length_append] at h1
  have : (rdOf ByteArray.empty os x).data.toList.length = (rdOf ByteArray.empty os x).size := Array.length_toList
  simp only [List.length_cons, List.length_nil] at h1
  omega

theorem print_len {t : ByteArray} {os : List ByteArray} {n : Nat} (hn : os.length = n) (hl : (printL t os).length ≤ 4294967296) : n ≤ 4294967296 := by
  have h1 : os.length ≤ (os.flatMap fun o => 59 :: o.data.toList).length := by
    clear hl hn
    induction os with
    | nil => simp
    | cons a l ih => simp only [List.flatMap_cons, List.length_append, List.length_cons]; omega
  rw [printL, List.length_append] at hl
  omega
theorem print_type {t : ByteArray} {os : List ByteArray} (hl : (printL t os).length ≤ 4294967296) : t.size ≤ 4294967296 := by
  rw [printL, List.length_append, show t.data.toList.length = t.size from Array.length_toList] at hl
  omega

set_option maxRecDepth 100000 in
set_option maxHeartbeats 1000000 in
theorem print_any (t : ByteArray) (A : Option Addr) (c n : Nat) (os : List ByteArray) (w : World) (hn : os.length = n) (hC : Kd.C Kd.string w A n os) (hl : (printL t os).length ≤ 4294967296) :
    Calls Tryd.prog 39 #[.agg #[.string t, .slice A n c]] w fun e w' => e = .returned (.string (printB t os)) ∧ Below w.heap.size w w' := by
  have HC := Lib.hid hC
  clear hC
  have hnl : n ≤ 4294967296 := print_len hn hl
  have ht : t.size ≤ 4294967296 := print_type hl
  have HN := Lib.hid hn
  have HL := Lib.hid hl
  clear hn hl
  have hI : Lib.IsBuilder 84 5 (w.heap.size + 1) (w.heap.size + 1) [] ((w.alloc (.cells #[.string t, .slice A n c] 40)).alloc (.cells #[.pointer none, .slice none 0 0] 84)) :=
    .inl ⟨Nat.le_refl _, .slice none 0 0, heap_alloc2_new w _ _, World.ownsRow_nil _ _ _ _, by simp [Value.ownBlock]⟩
  have hws := writeString_any (w.heap.size + 1) (w.heap.size + 1) [] t _ hI (by simp; omega) (by simp)
  clear hI
  go_enter Tryd.func39, Tryd.ntmps39
  go_wp2_with (go_at_call 59; (refine hws.mono ?_; rintro e w1 ⟨rfl, hI1, hb1⟩; have hbd : w1.heap[w.heap.size]? = some (.cells #[.string t, .slice A n c] 40 (0, 0)) := (hb1.block w.heap.size (by omega)).trans (heap_alloc2_old w _ _); obtain ⟨⟨q0, q1⟩, qf⟩ := cells2 hbd; have HI1 := Lib.hid hI1; have HB1 := Lib.hid hb1; clear hbd hI1 hb1))
  have hI0 : Lib.IsBuilder 84 5 (w.heap.size + 1) (w.heap.size + 1) (Lib.byteCells (printL t (os.take (0 : Int).toNat))) w1 := by simpa [printL, Lib.strCells_eq] using HI1.out
  have HI0 := Lib.hid hI0
  clear hI0 HI1
  go_loopw [12] (fun i wr => ∃ x : Int, i = .int .i64 x ∧ 0 ≤ x ∧ x ≤ n ∧ Hid (Lib.IsBuilder 84 5 (w.heap.size + 1) (w.heap.size + 1) (Lib.byteCells (printL t (os.take x.toNat))) wr) ∧ Hid (Below (w.heap.size + 1) ((w.alloc (.cells #[.string t, .slice A n c] 40)).alloc (.cells #[.pointer none, .slice none 0 0] 84)) wr)) (fun i _ => n - (intOf i).toNat)
  case atStart => exact ⟨0, rfl, Int.le_refl _, by omega, HI0, HB1⟩
  case round =>
    obtain ⟨x, rfl, hx0, hx1, HI, HB⟩ := hrel
    have hsz : w.heap.size + 1 ≤ wr.heap.size := by have := HB.out.size; simp at this; omega
    have HW := Lib.hid ((two_below w (.cells #[.string t, .slice A n c] 40) (.cells #[.pointer none, .slice none 0 0] 84)).trans (HB.out.mono (by omega)))
    by_cases hlt : x < n
    · obtain ⟨ad, e1, hp1⟩ := Kd.at_string (Kd.C_below HC.out HW.out) x hx0 hlt
      have hroom := print_room t (os := os) hx0 (by rw [HN.out]; exact hlt) HL.out
      have HNX := Lib.hid (byteCells_next t (os := os) hx0 (by rw [HN.out]; exact hlt))
      obtain ⟨p, hp⟩ : ∃ p, rdOf ByteArray.empty os x = p := ⟨_, rfl⟩
      rw [hp] at hp1 hroom HNX
      cases e1
      clear hp
      go_wp2_with (first
        | (go_at_call 59; refine (writeString_any (w.heap.size + 1) (w.heap.size + 1) _ p _ HI3.out (by rw [List.length_append, Lib.byteCells_length, Lib.byteCells_length]; simp; omega) (Nat.le_trans hsz HB3.out.size)).mono ?_; rintro e w4 ⟨rfl, hI4, hb4⟩; have HI4 := Lib.hid hI4; have HB4 := Lib.hid (HB.out.trans (HB3.out.trans hb4)); clear hI4 hb4)
        | (go_at_call 59; refine (writeString_any (w.heap.size + 1) (w.heap.size + 1) _ ⟨#[59]⟩ _ HI.out (by rw [Lib.byteCells_length]; show _ + 1 ≤ _; omega) hsz).mono ?_; rintro e w3 ⟨rfl, hI3, hb3⟩; rw [strCells_semi] at hI3; have HI3 := Lib.hid hI3; have HB3 := Lib.hid hb3; clear hI3 hb3))
      go_roundw
      case rel => exact ⟨x + 1, by go_num, by omega, by omega, Lib.hid (by rw [← HNX.out]; exact HI4.out), HB4⟩
      case measure => simp [intOf]; omega
    · have HI' : Hid (Lib.IsBuilder 84 5 (w.heap.size + 1) (w.heap.size + 1) (Lib.byteCells (printL t os)) wr) := Lib.hid (by have := HI.out; rw [List.take_of_length_le (by have := HN.out; omega)] at this; exact this)
      go_wp2_with (go_at_call 60; refine (Tryd.Builder_String_any (w.heap.size + 1) (w.heap.size + 1) (printL t os) _ HI'.out hsz).mono ?_; rintro e w5 ⟨rfl, hb5⟩)
      go_ret
      exact ⟨rfl, HW.out.trans (hb5.mono (by omega))⟩
end Go.Proofs.YtdonopoijbokiaaDoor

/-! ### PrintR -/
namespace Go.Proofs.YtdonopoijbokiaaDoor
open Go.RowKit Go.Proofs.YtdonopoijbokiaaDoorW.PrintWords

theorem byteCells_more (l : List UInt8) (c : UInt8) : Lib.byteCells l ++ [.int .u8 (c.toNat : Int)] = Lib.byteCells (l ++ [c]) := by
  rw [Lib.byteCells_append]
  rfl

set_option maxRecDepth 100000 in
set_option maxHeartbeats 1000000 in
theorem refPrint_any (t : ByteArray) (A : Option Addr) (c n : Nat) (os : List ByteArray) (w : World) (hn : os.length = n) (hC : Kd.C Kd.string w A n os) (hl : (printL t os).length ≤ 4294967296) :
    Calls Tryd.prog 73 #[.agg #[.string t, .slice A n c]] w fun e w' => e = .returned (.string (printB t os)) ∧ Below w.heap.size w w' := by
  have HC := Lib.hid hC
  clear hC
  obtain ⟨i0, hi, hz0, hz1, hz2⟩ := info_parts info5
  have hnl : n ≤ 4294967296 := print_len hn hl
  have ht : t.size ≤ 4294967296 := print_type hl
  have HN := Lib.hid hn
  have HL := Lib.hid hl
  clear hn hl
  have hconv := ownsM_conv (w.alloc (.cells #[.string t, .slice A n c] 40)) (w.heap.size + 1) 5 t (by simp) (by omega)
  have hcb := bytes_below (Below.refl (w.heap.size + 1) (w.alloc (.cells #[.string t, .slice A n c] 40))) (by simp) 5 t
  obtain ⟨W0, hW0⟩ : ∃ W0, Lib.bytesWorld (w.alloc (.cells #[.string t, .slice A n c] 40)) 5 t = W0 := ⟨_, rfl⟩
  have hcv := Lib.run_convert_string_bytes (P := Tryd.prog) (w.alloc (.cells #[.string t, .slice A n c] 40)) 9 49 5 t Tryd.underlying9 Tryd.underlying49 Tryd.underlying5
  rw [hW0] at hconv hcb hcv
  have ha : (w.alloc (.cells #[.string t, .slice A n c] 40)).heap.size = w.heap.size + 1 := by simp
  rw [ha] at hconv hcv
  clear ha
  generalize hgc : grownCap (w.alloc (.cells #[.string t, .slice A n c] 40)) t.size 0 5 = gc at hconv hcv
  have HCV := Lib.hid hconv
  have HCB := Lib.hid hcb
  clear hconv hcb hW0 hgc
  go_enter Tryd.func73, Tryd.ntmps73
  go_wp2
  go_loopw [3, 4] (fun v i wr => ∃ x : Int, i = .int .i64 x ∧ 0 ≤ x ∧ x ≤ n ∧ Hid (OwnsM wr (w.heap.size + 1) 5 v (Lib.byteCells (printL t (os.take x.toNat)))) ∧ Hid (Below (w.heap.size + 1) (w.alloc (.cells #[.string t, .slice A n c] 40)) wr)) (fun _ i _ => n - (intOf i).toNat)
  case atStart => exact ⟨0, rfl, Int.le_refl _, by omega, Lib.hid (by have h0 : printL t (os.take (0 : Int).toNat) = t.data.toList := (by simp [printL]); rw [h0]; exact HCV.out), HCB⟩
  case round =>
    obtain ⟨x, rfl, hx0, hx1, HI, HB⟩ := hrel
    have hsz : w.heap.size + 1 ≤ wr.heap.size := by have := HB.out.size; simp at this; omega
    have HW := Lib.hid (((Below.refl w.heap.size w).alloc (Nat.le_refl _) (.cells #[.string t, .slice A n c] 40)).trans (HB.out.mono (by omega)))
    have hbd := (HB.out.block w.heap.size (by omega)).trans (heap_alloc_new w _)
    obtain ⟨⟨q0, q1⟩, qf⟩ := cells2 hbd
    clear hbd
    by_cases hlt : x < n
    · have hroom := print_room t (os := os) hx0 (by rw [HN.out]; exact hlt) HL.out
      have HNX := Lib.hid (byteCells_next t (os := os) hx0 (by rw [HN.out]; exact hlt))
      obtain ⟨p, hp⟩ : ∃ p, rdOf ByteArray.empty os x = p := ⟨_, rfl⟩
      have HPp := Lib.hid hp
      rw [hp] at hroom HNX
      clear hp
      obtain ⟨ad, e1, hp0⟩ := Kd.at_string (Kd.C_below HC.out HW.out) x hx0 hlt
      cases e1
      clear hp0
      go_wp2_with (first
        | (at_builtin; refine wpM_str (w0 := w.alloc (.cells #[.string t, .slice (some ad) n c] 40)) (w.heap.size + 1) rfl (.tmp 18) (.tmp 23) 49 9 5 i0 rfl Tryd.underlying49 Tryd.underlying9 hi hz0 hz1 hz2 _ _ p rfl rfl HI3.out HB3.out (by have := HB3.out.size; simp at this; omega) (by rw [List.length_append, Lib.byteCells_length]; simp; omega) ?_; intro v4 w4 hI4 hb4; have HI4 := Lib.hid hI4; have HB4 := Lib.hid hb4; clear hI4 hb4)
        | (at_builtin; (refine wpM_one (w0 := w.alloc (.cells #[.string t, .slice (some ad) n c] 40)) (w.heap.size + 1) rfl (.tmp 15) (.tmp 16) 49 5 i0 rfl Tryd.underlying49 hi hz0 hz1 hz2 _ _ 59 rfl rfl HI.out HB.out hsz (by rw [Lib.byteCells_length]; omega) ?_; intro v3 w3 hI3 hb3; have hbd := (hb3.block w.heap.size (by omega)).trans (heap_alloc_new w _); obtain ⟨⟨z0, z1⟩, zf⟩ := cells2 hbd; obtain ⟨ad', e1, hp1⟩ := Kd.at_string (Kd.C_below HC.out (((Below.refl w.heap.size w).alloc (Nat.le_refl _) (.cells #[.string t, .slice (some ad) n c] 40)).trans (hb3.mono (by omega)))) x hx0 hlt; cases e1; rw [HPp.out] at hp1; have HI3 := Lib.hid hI3; have HB3 := Lib.hid hb3; clear hI3 hb3 hbd)))
      go_roundw
      case rel => exact ⟨x + 1, by go_num, by omega, by omega, Lib.hid (by rw [← HNX.out]; exact HI4.out), HB4⟩
      case measure => simp [intOf]; omega
    · have HI' : Hid (OwnsM wr (w.heap.size + 1) 5 u3 (Lib.byteCells (printL t os))) := Lib.hid (by have := HI.out; rw [List.take_of_length_le (by have := HN.out; omega)] at this; exact this)
      have hst := ownsM_string (P := Tryd.prog) (src := 49) (dst := 9) Tryd.underlying49 Tryd.underlying5 Tryd.underlying9 HI'.out
      go_wp2
      go_ret
      exact ⟨rfl, HW.out⟩
end Go.Proofs.YtdonopoijbokiaaDoor
