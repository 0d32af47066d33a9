/- attr.Parse: what it answers. attr.Parse of a text that is refused. rosterlaw04.num and rosterlaw04.goes: what they answer. -/
import Derived.Test.YtdonopoijbokiaaDoorScan
import Derived.Test.YtdonopoijbokiaaDoorB5
import Derived.Test.YtdonopoijbokiaaDoorB1
import Derived.Test.YtdonopoijbokiaaDoorShelf
import Derived.Test.YtdonopoijbokiaaDoorB2
import Derived.Maps.RangeWalk
import Derived.Maps.OwnSet
import Derived.Maps.AppendAt
import Derived.Sort.OwnSorted
set_option linter.unusedVariables false
set_option linter.unusedSimpArgs false

/-! ### Parse -/
namespace Go.Proofs.YtdonopoijbokiaaDoor
open Go.RowKit Go.Proofs.YtdonopoijbokiaaDoorW.PrintWords

/-- The library's own variable holds some number. -/
structure MaxAt (w : World) : Prop where
  lt : 2 < w.heap.size
  cell : ∃ m : Int, w.cell? ⟨2, 0, none⟩ = some (.int .i64 m)
theorem MaxAt.below {w w' : World} (h : MaxAt w) (hb : Below w.heap.size w w') : MaxAt w' :=
  ⟨Nat.lt_of_lt_of_le h.lt hb.size, let ⟨m, hm⟩ := h.cell; ⟨m, (hb.cell (p := ⟨2, 0, none⟩) h.lt).trans hm⟩⟩
theorem split_any (s : ByteArray) (w : World) (hs : s.size ≤ 4294967000) (hM : MaxAt w) :
    Calls Tryd.prog 48 #[.string s, .string ⟨#[59]⟩] w fun e w' =>
      e = .returned (.slice (some ⟨w.heap.size, 0, none⟩) (partsB s 59).length (partsB s 59).length) ∧ w' = w.alloc (.cells ((partsB s 59).map Value.string).toArray 9) := by
  obtain ⟨m, hm⟩ := hM.cell
  refine (Tryd.strings_Split s ⟨#[59]⟩ m w (by omega) hm (Nat.le_refl 1)).mono ?_
  have e : Lib.splitB ⟨#[59]⟩ 0 (Lib.countB s ⟨#[59]⟩) s = partsB s 59 := splitB_parts 59 s
  have e2 : Lib.countB s ⟨#[59]⟩ + 1 = (partsB s 59).length := countB_parts 59 s
  rw [e, e2]
  exact fun _ _ h => h

theorem cell_of_parts {w1 wr : World} {xs : List ByteArray} {o : Obj} {k : Nat} (hB : Below (w1.heap.size + 1) ((w1.alloc (.cells (xs.map Value.string).toArray 9)).alloc o) wr) (hk : k + 1 < xs.length) :
    wr.cell? ⟨w1.heap.size, 1 + k, none⟩ = some (.string (rdOf ByteArray.empty xs ((k : Int) + 1))) := by
  have h1 := (hB.block w1.heap.size (by omega)).trans (heap_alloc2_old w1 _ _)
  have e : rdOf ByteArray.empty xs ((k : Int) + 1) = xs[1 + k]'(by omega) := by
    rw [rdOf, show ((k : Int) + 1).toNat = 1 + k by omega, List.getD_eq_getElem?_getD, List.getElem?_eq_getElem (by omega)]
    rfl
  rw [e]
  refine cell_of_row _ _ _ _ _ _ h1 |>.trans ?_
  simp
theorem cell_of_first {w1 wr : World} {xs : List ByteArray} {o : Obj} (hB : Below (w1.heap.size + 1) ((w1.alloc (.cells (xs.map Value.string).toArray 9)).alloc o) wr) (hk : 0 < xs.length) :
    wr.cell? ⟨w1.heap.size, 0, none⟩ = some (.string (rdOf ByteArray.empty xs 0)) := by
  have h1 := (hB.block w1.heap.size (by omega)).trans (heap_alloc2_old w1 _ _)
  have e : rdOf ByteArray.empty xs 0 = xs[0]'hk := by
    rw [rdOf, List.getD_eq_getElem?_getD, show (0 : Int).toNat = 0 from rfl, List.getElem?_eq_getElem hk]
    rfl
  rw [e]
  refine cell_of_row _ _ _ _ _ _ h1 |>.trans ?_
  simp
theorem below_none {w w' : World} {B : Nat} (h : w.grownBy w' none) (_ : B ≤ w.heap.size) : Below B w w' :=
  ⟨h.os, h.tape, h.output, h.size, fun k hk => h.block k (by omega) (by simp)⟩
theorem grownBy_set (w : World) (g j : Nat) (v : Value) : w.grownBy (w.setCell ⟨g, j, none⟩ v) (some g) :=
  ⟨rfl, rfl, rfl, by simp, fun k _ hk => heap_setCell_other _ _ _ _ (fun e => hk (by rw [e]))⟩
theorem below_iter {w w' : World} {B r : Nat} (h : w.grownBy w' (some r)) (hB : B ≤ r) (_ : B ≤ w.heap.size) : Below B w w' :=
  ⟨h.os, h.tape, h.output, h.size, fun k hk => h.block k (by omega) (fun e => by injection e; omega)⟩
theorem results_row_tmp2 {P : Program} {fn : Func} {p u v : Tmp} {ty : TypeId} (h : fn.results = #[.cell p ty, .tmp u, .tmp v]) (tmps : Array Value) (w : World) (g : Nat) (t : TypeId) (cs : Array Value) (fr : Nat × Nat) (d : TypeDesc)
    (hp : tmps.getD p undef = .pointer (some ⟨g, 0, none⟩)) (hg : w.heap[g]? = some (.cells cs t fr))
    (hu : P.underlying ty = some d) (hd : (match d with | .struct _ | .array _ _ => true | _ => false) = true) (hi : (P.info? ty).map (·.size) = some cs.size) :
    (results fn tmps).run P w = .ok (.tuple #[.agg cs, tmps.getD u undef, tmps.getD v undef]) w := by
  have e : (results fn tmps).run P w = ((asAddr (tmps.getD p undef)).run P w).andThen fun a w₁ => ((loadVar ty a).run P w₁).andThen fun x w₂ => .ok (.tuple #[x, tmps.getD u undef, tmps.getD v undef]) w₂ := by
    simp only [results, h]
    simp [Sem.run_bind, Result.andThen]
  rw [e, hp]
  simp [asAddr, run_loadVar_row w g t ty cs fr d hg hu hd hi]
theorem enc_strs (bs : List ByteArray) : encs Value.string bs = (bs.map (·.data.toList)).map Go.Proofs.encStr := by
  simp [encs, Go.Proofs.encStr]
theorem sizeDesc : (Tryd.prog.info? 40).map (·.size) = some 2 := by kernel_rfl
/-- The options of the pieces xs, folded. -/
def optTexts (xs : List ByteArray) : List (List UInt8) := xs.tail.map fun p => (foldB p).data.toList
def optsSoFar (xs : List ByteArray) (k : Nat) : List (List UInt8) := (xs.tail.take k).map fun p => (foldB p).data.toList
theorem opts_next {xs : List ByteArray} {k : Nat} (hk : k + 1 < xs.length) (z : List UInt8) : z ∈ optsSoFar xs (k + 1) ↔ z = (foldB (rdOf ByteArray.empty xs ((k : Int) + 1))).data.toList ∨ z ∈ optsSoFar xs k := by
  have ht : k < xs.tail.length := by rw [List.length_tail]; omega
  have e : xs.tail.getD k ByteArray.empty = rdOf ByteArray.empty xs ((k : Int) + 1) := by
    rw [rdOf, show ((k : Int) + 1).toNat = k + 1 by omega]
    cases xs with
    | nil => simp at hk
    | cons a l => rfl
  unfold optsSoFar
  rw [take_snoc' _ ByteArray.empty _ ht, e]
  simp [or_comm]
theorem opts_all {xs : List ByteArray} {k : Nat} (hk : xs.length ≤ k + 1) : optsSoFar xs k = optTexts xs := by
  unfold optsSoFar optTexts
  rw [List.take_of_length_le (by rw [List.length_tail]; omega)]

/-- The options: strictly rising, folded. -/
def optsB (xs : List ByteArray) : List ByteArray := (optsU (optTexts xs)).map fun l => ⟨l.toArray⟩
theorem opts_of {D : DataW Unit} {left : Lit → Bool} {bs xs : List ByteArray} {l : List (List UInt8)} {k : Nat} (hC : Collected D left (bs.map (·.data.toList))) (h0 : ∀ kl, left kl = false) (hm : ∀ z, Maps.has D (.string z) = true ↔ z ∈ l) (hl : ∀ z, z ∈ l ↔ z ∈ optsSoFar xs k) (he : optsSoFar xs k = optTexts xs) :
    (bs.map (·.data.toList)).mergeSort (fun x y => decide (x ≤ y)) = optsU (optTexts xs) :=
  optsU_sort hC.1 fun z => by rw [hC.2 z, h0, hm, hl, he]; simp
theorem optsB_nil {D : DataW Unit} {left : Lit → Bool} {bs xs : List ByteArray} {l : List (List UInt8)} {k : Nat} (hb : bs = []) (hC : Collected D left (bs.map (·.data.toList))) (h0 : ∀ kl, left kl = false) (hm : ∀ z, Maps.has D (.string z) = true ↔ z ∈ l) (hl : ∀ z, z ∈ l ↔ z ∈ optsSoFar xs k) (he : optsSoFar xs k = optTexts xs) : optsB xs = [] := by
  have h := opts_of hC h0 hm hl he
  subst hb
  rw [optsB, ← h]
  simp
theorem optsB_enc (xs : List ByteArray) : (optsU (optTexts xs)).map Go.Proofs.encStr = encs Value.string (optsB xs) := by
  simp [encs, optsB, Go.Proofs.encStr]
set_option maxRecDepth 100000 in
set_option maxHeartbeats 4000000 in
theorem parse_any (s : ByteArray) (w : World) (hs : s.size ≤ 4294967000) (hM : MaxAt w) (hok : acc false begins (nb s) = true) :
    Calls Tryd.prog 22 #[.string s] w fun e w' => ∃ v, e = .returned (.tuple #[.agg #[.string (canonB (rdOf ByteArray.empty (partsB s 59) 0)), v], .int .i64 0, .int .i64 s.size]) ∧ Kd.R Kd.string 9 w' w.heap.size (fun _ => True) v (optsB (partsB s 59)) ∧ Below w.heap.size w w' := by
  have hs1 : (scanL false (nb s)).1 = true := by rw [scanL_acc]; exact hok
  have hsc := fun w => scan_any s false w (by omega)
  rw [hs1] at hsc
  obtain ⟨xs, hxs⟩ : ∃ xs, partsB s 59 = xs := ⟨_, rfl⟩
  have hsp := fun w hM => split_any s w hs hM
  rw [hxs] at hsp ⊢
  have hmm := @run_makeMap Tryd.prog
  have hn0 : 0 < xs.length := parts_ne hxs
  have hnl : xs.length ≤ 4294967001 := by have := parts_length hxs; omega
  have hsz := parts_sizes hxs
  clear hs1
  go_enter Tryd.func22, Tryd.ntmps22
  go_wp2_with (first | (go_at_call 47; refine (hsc _).mono ?_; rintro e w1 ⟨rfl, hb1⟩) | (go_at_call 48; refine (hsp _ (hM.below (alloc_then hb1))).mono ?_; rintro e w2 ⟨rfl, rfl⟩))
  all_goals
    go_loopw [28] (fun i wr => ∃ k : Nat, i = .int .i64 k ∧ k + 1 ≤ xs.length ∧ (∃ l, SeenAt wr (w1.heap.size + 1) k l ∧ ∀ z, z ∈ l ↔ z ∈ optsSoFar xs k) ∧ Below (w1.heap.size + 1) ((w1.alloc (.cells (xs.map Value.string).toArray 9)).alloc (.map #[] 0)) wr) (fun i _ => xs.length - (intOf i).toNat)
    case atStart => exact ⟨0, rfl, by omega, ⟨[], by simpa using seen_made (w1.alloc (.cells (xs.map Value.string).toArray 9)), fun z => by simp [optsSoFar]⟩, Below.refl _ _⟩
    case round =>
      obtain ⟨k, rfl, hk, ⟨l, hS, hl⟩, hB⟩ := hrel
      have HL := Lib.hid hl
      clear hl
      by_cases hlt : k + 1 < xs.length
      · first
          | (exfalso; omega)
          | skip
        all_goals
          obtain ⟨p, hp⟩ : ∃ p, p = rdOf ByteArray.empty xs ((k : Int) + 1) := ⟨_, rfl⟩
          have hps : p.size ≤ 140737488351232 := by
            have := hsz p (by rw [hp]; exact rd_mem (by omega) (by omega))
            omega
          have hsf : (foldB p).size ≤ maxLen := by rw [foldB_size]; unfold maxLen; omega
          have hcx : wr.cell? ⟨w1.heap.size, 1 + k, none⟩ = some (.string p) := by
            rw [hp]
            exact cell_of_parts hB hlt
          have HP := Lib.hid hp
          have hbl : w1.heap.size + 1 < wr.heap.size := by have := hB.size; simp at this; omega
          have HB := Lib.hid hB
          clear hp hB
          go_wp2_with (first
            | (go_at_call 33; refine (fold_any _ _ hps).mono ?_; rintro e w3 ⟨rfl, hb3⟩; obtain ⟨D, hown, hmem⟩ := hS.below hb3 hbl; obtain ⟨c, hrun, _, _⟩ := hown.lookup_int law9 Tryd.underlying75 Tryd.underlying3 (zero3 _) (key_mk hsf); have HM := Lib.hid hmem; have HB3 := Lib.hid hb3; clear hmem hb3)
            | (at_mapUpdate; refine wpList_mapUpdate_own _ rfl _ _ _ 75 rfl 9 3 law9 Tryd.underlying75 _ (w1.heap.size + 1) k _ rfl hown (by unfold maxLen; omega) _ _ _ rfl rfl (key_mk hsf) _ [] (plainElem_int Tryd.underlying3 (wrap64_wf _)) ?_; intro w4 hown4 hg4; have HO := Lib.hid hown4; have HG := Lib.hid hg4; clear hown4 hg4))
          go_roundw
          case rel =>
            refine ⟨k + 1, by go_num, by omega, ⟨(foldB p).data.toList :: l, ⟨_, HO.out, fun z => ?_⟩, fun z => ?_⟩, (HB.out.trans (HB3.out.mono (Nat.le_of_lt hbl))).grown HG.out (Nat.le_trans (Nat.le_of_lt hbl) HB3.out.size) (fun j hj => by cases hj; exact Nat.le_refl _)⟩
            · rw [has_put_iff (isMap_of hown), HM.out z, List.mem_cons]
            · rw [opts_next hlt, ← HP.out, List.mem_cons, HL.out z]
          case measure => simp [intOf]; omega
      · have HE := Lib.hid (opts_all (xs := xs) (k := k) (by omega))
        obtain ⟨p, hp⟩ : ∃ p, p = rdOf ByteArray.empty xs 0 := ⟨_, rfl⟩
        have hps : p.size ≤ 140737488351232 := by
          have := hsz p (by rw [hp]; exact rd_mem (by omega) (by omega))
          omega
        have hcx : wr.cell? ⟨w1.heap.size, 0, none⟩ = some (.string p) := by
          rw [hp]
          exact cell_of_first hB hn0
        have HP := Lib.hid hp
        have hbl : w1.heap.size + 1 < wr.heap.size := by have := hB.size; simp at this; omega
        have HB := Lib.hid hB
        clear hp hB
        go_wp2_with (first
          | (go_at_call 49; refine (canonical_any _ _ hps).mono ?_; rintro e w3 ⟨rfl, hb3⟩; obtain ⟨D, hown, hmem⟩ := hS.below hb3 hbl; have HM := Lib.hid hmem; have HB3 := Lib.hid hb3; clear hmem hb3)
          | (at_range; refine wpList_range_own _ rfl _ 75 rfl 9 3 law9 Tryd.underlying75 (plainElem Tryd.prog 3) (w1.heap.size + 1) k D rfl (hown.alloc _) ?_; intro w6 hrg hg6 hs6; generalize hri : (w3.alloc (.cells #[.string (canonB p), .slice none 0 0] 40)).heap.size = ri at hrg hs6 ⊢))
        have hri' : ri = w3.heap.size + 1 := by rw [← hri]; simp
        clear hri
        subst hri'
        have hDk : Maps.size D ≤ k := hown.size_le
        have hbd : w6.heap[w3.heap.size]? = some (.cells #[.string (canonB p), .slice none 0 0] 40 (0, 0)) := (hg6.block _ (by simp) (by simp)).trans (heap_alloc_new w3 _)
        have hs6' : w6.heap.size = w3.heap.size + 2 := by rw [hs6]
        clear hs6
        have h13 : w1.heap.size + 1 < w3.heap.size := Nat.lt_of_lt_of_le hbl HB3.out.size
        generalize hcn : canonB p = cn at hbd hg6 ⊢
        go_frame
        go_loopw [45] (fun _ wq => ∃ (left : Lit → Bool) (cnt : Nat) (bs : List ByteArray) (v : Value), wq.ranges Tryd.prog 9 (plainElem Tryd.prog 3) (w1.heap.size + 1) (w3.heap.size + 1) k D left cnt ∧ bs.length + cnt ≤ Maps.size D ∧ wq.heap[w3.heap.size]? = some (.cells #[.string cn, v] 40 (0, 0)) ∧
            wq.ownsRow (w3.heap.size + 2) 9 1 v bs.length (encs Value.string bs) ∧ Hid (Collected D left (bs.map (·.data.toList))) ∧ Hid (Below w3.heap.size (w3.alloc (.cells #[.string cn, .slice none 0 0] 40)) wq) ∧ w3.heap.size + 2 ≤ wq.heap.size)
          (fun _ wq => wq.rangeLeft (w1.heap.size + 1) (w3.heap.size + 1))
        case atStart =>
          exact ⟨_, _, [], .slice none 0 0, by simpa using hrg, by simp, hbd, own_nil _ _ _ _, Lib.hid (Collected.start D), Lib.hid (below_none hg6 (by simp)), by omega⟩
        case round =>
          obtain ⟨left, cnt, bs, v, hrq, hcs, hbq, hrow, HC, HBq, hlq⟩ := hrel
          obtain ⟨⟨q0, q1⟩, qf⟩ := cells2 hbq
          have hokD := Lib.hid hbq
          clear hbq
          go_wp2_with (at_next; go_loud (refine wpList_next_ranges _ rfl _ rfl 9 law9 (plainElem Tryd.prog 3) Go.Proofs.encStr (Value.int .i64) (fun key kl hk => by obtain ⟨x, hx, _⟩ := Maps.keyOf_str Tryd.underlying9 hk; exact ⟨x, hx⟩) (fun v y hv => by obtain ⟨c, rfl, _⟩ := plainElem_int_inv Tryd.underlying3 hv; exact ⟨c, rfl⟩) (w1.heap.size + 1) (w3.heap.size + 1) k _ _ _ rfl hrq ?_ ?_))
          · intro hc0 hl0
            obtain ⟨wc, hcl, hgc⟩ := clear_map hrq.owns
            have hbc : wc.heap[w3.heap.size]? = some (.cells #[.string cn, v] 40 (0, 0)) := (hgc.block _ (by omega) (by simp; omega)).trans hokD.out
            obtain ⟨⟨y0, y1⟩, yf⟩ := cells2 hbc
            have hrc := hrow.kept hgc (Or.inr (fun e => row_ne_low hrow (b := w1.heap.size + 1) (by omega) e.symm))
            have HBC := Lib.hid hbc
            have HGC := Lib.hid hgc
            clear hbc hgc
            have hA4 : Below w1.heap.size w1 wc := ((((two_below w1 _ _).trans (HB.out.mono (by omega))).trans (HB3.out.mono (by omega))).trans (((Below.refl w1.heap.size w3).alloc (by omega) _).trans (HBq.out.mono (by omega)))).trans (below_iter HGC.out (by omega) (by omega))
            have HA4 := Lib.hid hA4
            clear hA4
            rcases hrc.2 with ⟨rfl, hnil⟩ | ⟨g, cap, cur, rfl, hbase, hbg, h1, h2, h3, h4⟩
            · have hbs : bs = [] := List.eq_nil_of_length_eq_zero hnil
              have HRES := Lib.hid (show wc.heap[w.heap.size]? = some (.cells #[.string ⟨#[]⟩, .slice none 0 0] 40 (0, 0)) from (HA4.out.block w.heap.size (by have := hb1.size; simp at this; omega)).trans (newKept hb1))
              go_wp2_with (first | (refine wpList_store_row rfl 40 (.tmp 2) (.tmp 59) rfl w.heap.size #[.string cn, .slice none 0 0] rfl rfl 40 _ HRES.out sizeDesc rfl (by simp [Value.oneCell']) ?_) | (go_at_call 50; refine (Tryd.sort_Strings_none none 0 _).mono ?_; rintro e w10 ⟨rfl, rfl⟩))
              (try simp only [Exit.inBlock, Exit.then])
              refine bodyPost_ret (results_row_tmp2 rfl _ _ w.heap.size 40 #[.string cn, .slice none 0 0] (0, 0) _ rfl (setRow_heap _ _ _ _ _ _ HRES.out) Tryd.underlying40 rfl (by kernel_rfl)) rfl ⟨.slice none 0 0, ?_, ?_, ?_⟩
              · rw [← HP.out, hcn]
                rfl
              · rw [optsB_nil hbs HC.out hl0 HM.out HL.out HE.out]
                exact Kd.R_nil _ _ _ _ _
              · exact setRow_below ((alloc_then hb1).trans (HA4.out.mono (by have := hb1.size; simp at this; omega))) (Nat.le_refl _) _
            · have hH : Go.Sort.Holds Go.Proofs.encStr wc g 0 (bs.map (·.data.toList)).toArray := holds_of_block hbg (by rw [List.length_map, ← enc_strs]; simpa using h4)
              have hc := Tryd.sort_Strings g 0 cap (bs.map (·.data.toList)) wc hH (Array.getElem?_eq_some_iff.1 hbg).1 (by simp; omega)
              rw [List.length_map] at hc
              go_wp2_with (first | (refine wpList_store_row rfl 40 (.tmp 2) (.tmp 59) rfl w.heap.size #[.string cn, .slice (some ⟨g, 0, none⟩) bs.length cap] rfl rfl 40 _ HRES.out sizeDesc rfl (by simp [Value.oneCell']) ?_) | (go_at_call 50; (refine hc.mono ?_; rintro e w10 ⟨rfl, nn, os, hw10⟩; have hg10 : wc.grownBy w10 (some g) := (by subst hw10; exact grownBy_sorted _); have hb10 := (hg10.block _ (by have := HGC.out.size; omega) (fun e => by injection e; omega)).trans HBC.out; have HB10 := Lib.hid hb10; have HG10 := Lib.hid hg10; have HW10 := Lib.hid hw10; obtain ⟨⟨x0, x1⟩, xf⟩ := cells2 hb10; clear hb10 hg10 hw10; have HRES := Lib.hid (show w10.heap[w.heap.size]? = some (.cells #[.string ⟨#[]⟩, .slice none 0 0] 40 (0, 0)) from ((HA4.out.trans (below_iter HG10.out (by omega) (by have := HGC.out.size; omega))).block w.heap.size (by have := hb1.size; simp at this; omega)).trans (newKept hb1)))))
              (try simp only [Exit.inBlock, Exit.then])
              refine bodyPost_ret (results_row_tmp2 rfl _ _ w.heap.size 40 #[.string cn, .slice (some ⟨g, 0, none⟩) bs.length cap] (0, 0) _ rfl (setRow_heap _ _ _ _ _ _ HRES.out) Tryd.underlying40 rfl (by kernel_rfl)) rfl ⟨.slice (some ⟨g, 0, none⟩) bs.length cap, ?_, ?_, ?_⟩
              · rw [← HP.out, hcn]
                rfl
              · have hO := ownsRow_sorted (w := wc) (g := g) (cap := cap) (n := nn) (e := 9) (os := os) (cur := cur) (ss := bs.map (·.data.toList)) (ts := (bs.map (·.data.toList)).mergeSort (fun x y => decide (x ≤ y))) (by simp) hbase hbg (by simpa using h1) h2 h3
                rw [← HW10.out, opts_of HC.out hl0 HM.out HL.out HE.out, optsB_enc] at hO
                have hlen : bs.length = (optsB xs).length := by
                  have := congrArg List.length (opts_of HC.out hl0 HM.out HL.out HE.out)
                  simpa [optsB] using this
                rw [List.length_map, hlen] at hO
                rw [hlen]
                exact R_setRow (Kd.R_lower (Kd.R_of_own hO (fun _ _ => trivial)) (by have := hb1.size; simp at this; omega)) (Nat.le_succ _) _
              · exact setRow_below ((alloc_then hb1).trans ((HA4.out.trans (below_iter HG10.out (by omega) (by have := HGC.out.size; omega))).mono (by have := hb1.size; simp at this; omega))) (Nat.le_refl _) _
          · intro x c kl yd yp w7 cnt2 hkey hlk hv hat hrg2 hlt2 hg2 hs2 hen
            first
              | (exfalso; omega)
              | skip
            all_goals
              obtain ⟨x', ex, rfl, _⟩ := Maps.keyOf_str Tryd.underlying9 hkey
              obtain rfl : x = x' := encStr_inj ex
              have hb7 : w7.heap[w3.heap.size]? = some (.cells #[.string cn, v] 40 (0, 0)) := (hg2.block _ (by omega) (by simp)).trans hokD.out
              obtain ⟨⟨p0, p1⟩, pf⟩ := cells2 hb7
              have hrow2 := hrow.kept hg2 (Or.inr (row_ne_iter hrow hrq).symm)
              have HB7 := Lib.hid hb7
              have HR2 := Lib.hid hrow2
              have HG2 := Lib.hid hg2
              have hl7 : w3.heap.size + 2 ≤ w7.heap.size := by have := hg2.size; omega
              have hbl7 : bs.length ≤ 4294967001 := by omega
              clear hb7 hrow2 hg2 hrow hs2
              go_wp2_with (at_builtin; refine print_append_of (w0 := w7) Value.string (w3.heap.size + 2) rfl (.tmp 50) (.tmp 52) 28 9 (.string ⟨#[]⟩) 16 rfl Tryd.underlying28 info9 rfl (by decide) v bs ⟨x.toArray⟩ rfl rfl rfl HR2.out (Below.refl _ _) hl7 (by omega) ?_; intro v1 w8 hown8 hb8 hg8 _; obtain ⟨A1, c1, rfl, _⟩ := own_reads_of (d := ByteArray.empty) hown8; have hb8' := (hb8.block w3.heap.size (by omega)).trans HB7.out; have HO8 := Lib.hid hown8; have HB8 := Lib.hid hb8; have HD8 := Lib.hid hb8'; have HG8 := Lib.hid hg8; obtain ⟨⟨z0, z1⟩, zf⟩ := cells2 hb8'; clear hown8 hb8 hg8 hb8')
              have hne : some (w1.heap.size + 1) ≠ v.ownBlock := row_ne_low HR2.out (by omega)
              have hne2 : some (w3.heap.size + 1) ≠ v.ownBlock := row_ne_low HR2.out (by omega)
              have hgs := grownBy_set w8 w3.heap.size 1 (.slice A1 (bs.length + 1) c1)
              have hr9 := ((hrg2.kept HG8.out hne hne2).kept hgs (by simp; omega) (by simp))
              go_roundw
              case rel =>
                exact ⟨_, cnt2, bs ++ [⟨x.toArray⟩], .slice A1 (bs.length + 1) c1, hr9, by simp; omega, heap_setCell_same _ _ 1 _ _ _ HD8.out, by simpa using HO8.out.kept hgs (Or.inr (fun e => row_ne_low HO8.out (b := w3.heap.size) (by omega) e.symm)), Lib.hid (by simpa using HC.out.step hlk hat),
                  Lib.hid ((HBq.out.trans (below_iter HG2.out (by omega) (by omega))).trans ((HB8.out.mono (by omega)).trans ((Below.refl _ w8).setCell (p := ⟨w3.heap.size, 1, none⟩) (Nat.le_refl _) _))), by simp; have := HB8.out.size; omega⟩
              case measure => rw [hr9.left_eq, hrq.left_eq]; exact hlt2
end Go.Proofs.YtdonopoijbokiaaDoor

/-! ### ParseNo -/
namespace Go.Proofs.YtdonopoijbokiaaDoor
open Go.RowKit Go.Proofs.YtdonopoijbokiaaDoorW.PrintWords

set_option maxRecDepth 100000 in
set_option maxHeartbeats 1000000 in
theorem parse_no (s : ByteArray) (w : World) (hs : s.size ≤ 4294967000) (hok : acc false begins (nb s) = false) :
    Calls Tryd.prog 22 #[.string s] w fun e w' => e = .returned (.tuple #[.agg #[.string ⟨#[]⟩, .slice none 0 0], .int .i64 40, .int .i64 (scanL false (nb s)).2]) ∧ Below w.heap.size w w' := by
  have hs1 : (scanL false (nb s)).1 = false := by rw [scanL_acc]; exact hok
  have hsc := fun w => scan_any s false w (by omega)
  rw [hs1] at hsc
  go_enter Tryd.func22, Tryd.ntmps22
  go_wp2_with (first | (refine wpList_store_row rfl 40 (.tmp 2) (.tmp 20) rfl w.heap.size #[.string ⟨#[]⟩, .slice none 0 0] rfl rfl 40 _ HRES.out sizeDesc rfl (by simp [Value.oneCell']) ?_) | (go_at_call 47; refine (hsc _).mono ?_; rintro e w1 ⟨rfl, hb1⟩; have HRES := Lib.hid (newKept hb1)))
  (try simp only [Exit.inBlock, Exit.then])
  refine bodyPost_ret (results_row_tmp2 rfl _ _ w.heap.size 40 #[.string ⟨#[]⟩, .slice none 0 0] (0, 0) _ rfl (setRow_heap _ _ _ _ _ _ HRES.out) Tryd.underlying40 rfl (by kernel_rfl)) rfl ⟨rfl, setRow_below (alloc_then hb1) (Nat.le_refl _) _⟩
end Go.Proofs.YtdonopoijbokiaaDoor

/-! ### LawGoes -/
namespace Go.Proofs.YtdonopoijbokiaaDoor
open Go.RowKit Go.Proofs.YtdonopoijbokiaaDoorW.PrintWords

set_option maxRecDepth 100000 in
theorem num_zero (w : World) : Calls Tryd.prog 23 #[.int .i64 0] w fun e w' => e = .returned (.int .i64 0) ∧ w' = w := by
  go_enter Tryd.func23, Tryd.ntmps23
  go_wp2
  go_ret
  exact ⟨rfl, rfl⟩
set_option maxRecDepth 100000 in
theorem num_forty (w : World) : Calls Tryd.prog 23 #[.int .i64 40] w fun e w' => e = .returned (.int .i64 40) ∧ w' = w := by
  go_enter Tryd.func23, Tryd.ntmps23
  go_wp2
  go_ret
  exact ⟨rfl, rfl⟩

/-- The description's type and options. -/
noncomputable def typeB (s : ByteArray) : ByteArray := canonB (rdOf ByteArray.empty (partsB s 59) 0)
def optB (s : ByteArray) : List ByteArray := optsB (partsB s 59)
theorem parse_ok (s : ByteArray) (w : World) (hs : s.size ≤ 4294967000) (hM : MaxAt w) (hok : acc false begins (nb s) = true) :
    Calls Tryd.prog 22 #[.string s] w fun e w' => ∃ A c, e = .returned (.tuple #[.agg #[.string (typeB s), .slice A (optB s).length c], .int .i64 0, .int .i64 s.size]) ∧ Kd.R Kd.string 9 w' w.heap.size (fun _ => True) (.slice A (optB s).length c) (optB s) ∧ Below w.heap.size w w' := by
  refine (parse_any s w hs hM hok).mono ?_
  rintro e w' ⟨v, rfl, hR, hb⟩
  obtain ⟨A, c, rfl⟩ := Kd.R_slice hR
  exact ⟨A, c, rfl, hR, hb⟩

set_option maxRecDepth 100000 in
set_option maxHeartbeats 1000000 in
theorem lawGoes_any (s : ByteArray) (w : World) (hs : s.size ≤ 4294966000) (hM : MaxAt w) :
    Calls Tryd.prog 21 #[.string s] w fun e w' => e = .returned (.bool (goesL false (nb s))) ∧ Below w.heap.size w w' := by
  go_enter Tryd.func21, Tryd.ntmps21
  go_wp2
  go_loopw [4] (fun i wr => ∃ k : Nat, i = .int .i64 k ∧ k ≤ 4 ∧ Hid (∀ j, j < k → acc false begins (nb s ++ endsL.getD j []) = false) ∧ Hid (wr.heap[w.heap.size]? = some (.cells endsC 71 (0, 0))) ∧ Hid (Below w.heap.size w wr) ∧ w.heap.size < wr.heap.size) (fun i _ => 4 - (intOf i).toNat)
  case atStart => exact ⟨0, rfl, by omega, Lib.hid (fun j hj => by omega), Lib.hid (heap_alloc_new w _), Lib.hid ((Below.refl _ w).alloc (Nat.le_refl _) _), by simp⟩
  case round =>
    obtain ⟨k, rfl, hk, HA, HE, HB, hlt⟩ := hrel
    by_cases hk4 : k < 4
    · obtain ⟨ee, hc, hne, hse⟩ := ends_at HE.out k hk4
      have hst : (s ++ ee).size ≤ 4294967000 := by rw [ByteArray.size_append]; omega
      obtain ⟨b, hb⟩ : ∃ b, acc false begins (nb s ++ endsL.getD k []) = b := ⟨_, rfl⟩
      have hb' := hb
      rw [← hne, ← nb_append] at hb'
      have HB' := Lib.hid hb
      clear hb hne
      have HK := Lib.hid hb'
      clear hb'
      cases b
      · go_wp2_with (first | (go_at_call 22; refine (parse_no _ _ hst HK.out).mono ?_; rintro e w2 ⟨rfl, hb2⟩; have hb2 := hb2.alloc hb2.size (.cells #[.string ⟨#[]⟩, .slice none 0 0] 40)) | (go_at_call 23; refine (num_forty _).mono ?_; rintro e w3 ⟨rfl, rfl⟩))
        go_roundw
        case rel => exact ⟨k + 1, by go_num, by omega, Lib.hid (upto_nat (P := fun j => acc _ begins (nb s ++ endsL.getD j []) = false) HA.out HB'.out), Lib.hid ((hb2.block _ hlt).trans HE.out), Lib.hid (HB.out.trans (hb2.mono HB.out.size)), Nat.lt_of_lt_of_le hlt hb2.size⟩
        case measure => simp [intOf]; omega
      · go_wp2_with (first | (go_at_call 22; refine (parse_ok _ _ hst (hM.below HB.out) HK.out).mono ?_; rintro e w2 ⟨A, c, rfl, -, hb2⟩; have hb2 := hb2.alloc hb2.size (.cells #[.string (typeB (s ++ ee)), .slice A (optB (s ++ ee)).length c] 40)) | (go_at_call 23; refine (num_zero _).mono ?_; rintro e w3 ⟨rfl, rfl⟩))
        go_ret
        exact ⟨by rw [goes_yes hk4 HB'.out]; rfl, HB.out.trans (hb2.mono HB.out.size)⟩
    · obtain rfl : k = 4 := by omega
      go_wp2
      go_ret
      exact ⟨by rw [goes_no HA.out]; rfl, HB.out⟩
end Go.Proofs.YtdonopoijbokiaaDoor
