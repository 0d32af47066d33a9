/- rosterlaw04.AttrMore: it answers true. -/
import Derived.Test.YtdonopoijbokiaaDoorB15
set_option linter.unusedVariables false
set_option linter.unusedSimpArgs false
namespace Go.Proofs.YtdonopoijbokiaaDoor
open Go.RowKit Go.Proofs.YtdonopoijbokiaaDoorW.PrintWords

theorem more_1 : coversB ⟨#[99, 110]⟩ ⟨#[99, 110, 59, 108, 97, 110, 103, 45, 120]⟩ = true := by kernel_rfl
theorem more_2 : coversB ⟨#[99, 110, 59, 108, 97, 110, 103, 45, 120]⟩ ⟨#[99, 110]⟩ = false := by kernel_rfl
theorem more_3 : coversB ⟨#[99, 110]⟩ ⟨#[115, 110, 59, 108, 97, 110, 103, 45, 120]⟩ = false := by kernel_rfl
/-- The options so far. -/
def ysAt (opts : List ByteArray) (k : Int) : List ByteArray := (opts.take k.toNat).map optionB
def hasAt (opts : List ByteArray) (o : ByteArray) (k : Int) : Bool := (ysAt opts k).any fun y => decide (foldB (optionB o) = foldB y)
theorem ysAt_next {opts : List ByteArray} {k : Int} (h0 : 0 ≤ k) (hk : k < opts.length) : ysAt opts (k + 1) = ysAt opts k ++ [optionB (rdOf ByteArray.empty opts k)] := by
  unfold ysAt
  rw [show (k + 1).toNat = k.toNat + 1 by omega, take_snoc' _ ByteArray.empty _ (by omega), List.map_append]
  rfl
theorem hasAt_next {opts : List ByteArray} {o : ByteArray} {k : Int} (h0 : 0 ≤ k) (hk : k < opts.length) : hasAt opts o (k + 1) = (hasAt opts o k || decide (foldB (optionB o) = foldB (optionB (rdOf ByteArray.empty opts k)))) := by
  unfold hasAt
  rw [ysAt_next h0 hk]
  simp
theorem ysAt_keys (opts : List ByteArray) (k : Int) : ∀ y ∈ ysAt opts k, keysP (nb y) = true := fun y hy => by
  obtain ⟨p, _, rfl⟩ := List.mem_map.1 hy
  exact option_keys p
theorem print_size (s : ByteArray) (ys : List ByteArray) (hy : ∀ y ∈ ys, y.size ≤ 1048577) : (printB s ys).size ≤ s.size + ys.length * 1048578 := by
  rw [← nb_length, nb_print, List.length_append, nb_length]
  have : ((ys.map nb).flatMap fun o => (59 : Int) :: o).length ≤ ys.length * 1048578 := by
    induction ys with
    | nil => simp
    | cons a l ih =>
      have h1 := ih fun y h => hy y (List.mem_cons_of_mem _ h)
      have h2 := hy a (List.mem_cons_self ..)
      simp only [List.map_cons, List.flatMap_cons, List.length_append, List.length_cons, nb_length]
      omega
  omega
theorem ysAt_size {opts : List ByteArray} {s : ByteArray} {k : Int} (h0 : 0 ≤ k) (hk : k ≤ 20) (ho : ∀ p ∈ opts, p.size ≤ 1048576) : (printB s (ysAt opts k)).size ≤ s.size + 20971560 := by
  have h1 := print_size s (ysAt opts k) fun y hy => by
    obtain ⟨p, hp, rfl⟩ := List.mem_map.1 hy
    have := option_size p
    have := ho p (List.mem_of_mem_take hp)
    omega
  have h2 : (ysAt opts k).length ≤ 20 := by
    unfold ysAt
    rw [List.length_map, List.length_take]
    omega
  have h3 : (ysAt opts k).length * 1048578 ≤ 20 * 1048578 := Nat.mul_le_mul_right _ h2
  omega

set_option maxRecDepth 100000 in
set_option maxHeartbeats 4000000 in
theorem attrMore_ok (s o : ByteArray) (A : Option Addr) (c n : Nat) (opts : List ByteArray) (w : World) (hs : s.size ≤ 1048576) (ho : o.size ≤ 1048576) (hn : opts.length = n) (hnl : n ≤ 1048576) (hos : ∀ p ∈ opts, p.size ≤ 1048576) (hC : Kd.C Kd.string w A n opts) (hM : MaxAt w)
    (ht : acc true begins (nb s) = true) :
    Calls Tryd.prog 9 #[.string s, .slice A n c, .string o] w fun en w' => en = .returned (.bool true) ∧ Below w.heap.size w w' := by
  have HM := Lib.hid hM
  have HC := Lib.hid hC
  have HN := Lib.hid hn
  have HOS := Lib.hid hos
  clear hM hC hn hos
  have HB := Lib.hid (Below.refl w.heap.size w)
  have hxs := option_size o
  have hop := fun w => option_any o w (by omega)
  obtain ⟨x, hx⟩ : ∃ x, optionB o = x := ⟨_, rfl⟩
  rw [hx] at hop hxs
  have HX := Lib.hid hx
  clear hx
  go_enter Tryd.func9, Tryd.ntmps9
  go_wp2_with (go_at_call 32; with_reducible refine (hop _).mono ?_; rintro en w1 ⟨rfl, hb1⟩; have HB := Lib.hid (HB.out.trans (hb1.mono HB.out.size)); clear hb1)
  go_loopw [7, 8, 10] (fun t has i wr => ∃ k : Int, i = .int .i64 k ∧ 0 ≤ k ∧ k ≤ n ∧ k ≤ 20 ∧ t = .string (printB s (ysAt opts k)) ∧ has = .bool (hasAt opts o k) ∧ Below w.heap.size w wr) (fun _ _ i _ => n - (intOf i).toNat)
  case atStart => exact ⟨0, rfl, Int.le_refl _, by omega, by omega, by rw [show ysAt opts 0 = [] from rfl, print_nil], rfl, HB.out⟩
  case round =>
    clear HB
    obtain ⟨k, rfl, hk0, hk1, hk2, rfl, rfl, hB⟩ := hrel
    have HB := Lib.hid hB
    clear hB
    have hsz := ysAt_size (s := s) hk0 hk2 HOS.out
    by_cases hlt : k < n ∧ k < 20
    · obtain ⟨hlt, hlt2⟩ := hlt
      obtain ⟨ad, e1, hp1⟩ := Kd.at_string (Kd.C_below HC.out HB.out) k hk0 hlt
      cases e1
      have hps := HOS.out (rdOf ByteArray.empty opts k) (rd_mem hk0 (by rw [HN.out]; exact hlt))
      have HY := Lib.hid (ysAt_next hk0 (by rw [HN.out]; exact hlt))
      have HH := Lib.hid (hasAt_next (o := o) hk0 (by rw [HN.out]; exact hlt))
      have hys := option_size (rdOf ByteArray.empty opts k)
      have hoy := fun w => option_any (rdOf ByteArray.empty opts k) w (by omega)
      obtain ⟨y, hy⟩ : ∃ y, optionB (rdOf ByteArray.empty opts k) = y := ⟨_, rfl⟩
      rw [hy] at HY HH hys hoy
      rw [HX.out] at HH
      clear hy
      generalize rdOf ByteArray.empty opts k = p at hp1 hps hoy hys
      have hfx := fun w => fold_any x w (by omega)
      have hfy := fun w => fold_any y w (by omega)
      have HPS := Lib.hid (print_snoc s (ysAt opts k) y)
      generalize hasAt opts o k = hb at *
      generalize printB s (ysAt opts k) = t at *
      have hcat : (t ++ ⟨#[59]⟩ : ByteArray).size = t.size + 1 := ByteArray.size_append
      have hcat2 : (t ++ ⟨#[59]⟩ ++ y : ByteArray).size = t.size + 1 + y.size := by rw [ByteArray.size_append, hcat]
      by_cases e : foldB x = foldB y
      · rw [decide_eq_true e, Bool.or_true] at HH
        rw [← e] at hfy
        generalize foldB x = fx at hfx hfy
        go_wp2_with (first
          | (go_at_call 33; with_reducible refine (hfx _).mono ?_; rintro en wx ⟨rfl, hbx⟩; have HB := Lib.hid (HB.out.trans (hbx.mono HB.out.size)); clear hbx)
          | (go_at_call 33; with_reducible refine (hfy _).mono ?_; rintro en wx ⟨rfl, hbx⟩; have HB := Lib.hid (HB.out.trans (hbx.mono HB.out.size)); clear hbx)
          | (go_at_call 32; with_reducible refine (hoy _).mono ?_; rintro en wx ⟨rfl, hbx⟩; have HB := Lib.hid (HB.out.trans (hbx.mono HB.out.size)); clear hbx))
        go_roundw
        case rel => exact ⟨k + 1, by go_num, by omega, by omega, by omega, by rw [HY.out, ← HPS.out], by rw [HH.out], HB.out⟩
        case measure => simp [intOf]; omega
      · have hne := bytes_ne e
        rw [decide_eq_false e, Bool.or_false] at HH
        generalize foldB x = fx at hfx hne
        generalize foldB y = fy at hfy hne
        clear e
        go_wp2_with (first
          | (go_at_call 33; with_reducible refine (hfx _).mono ?_; rintro en wx ⟨rfl, hbx⟩; have HB := Lib.hid (HB.out.trans (hbx.mono HB.out.size)); clear hbx)
          | (go_at_call 33; with_reducible refine (hfy _).mono ?_; rintro en wx ⟨rfl, hbx⟩; have HB := Lib.hid (HB.out.trans (hbx.mono HB.out.size)); clear hbx)
          | (go_at_call 32; with_reducible refine (hoy _).mono ?_; rintro en wx ⟨rfl, hbx⟩; have HB := Lib.hid (HB.out.trans (hbx.mono HB.out.size)); clear hbx))
        go_roundw
        case rel => exact ⟨k + 1, by go_num, by omega, by omega, by omega, by rw [HY.out, ← HPS.out], by rw [HH.out], HB.out⟩
        case measure => simp [intOf]; omega
    · have htp : isTypeP (nb s) = true := by rw [← acc_type]; exact ht
      have hxk : keysP (nb x) = true := by rw [← HX.out]; exact option_keys o
      have hyk := ysAt_keys opts k
      have hyx : ∀ y ∈ ysAt opts k ++ [x], keysP (nb y) = true := fun y hy => by
        rcases List.mem_append.1 hy with h | h
        · exact hyk y h
        · rw [List.mem_singleton.1 h]; exact hxk
      have hsn := print_snoc s (ysAt opts k) x
      have hma : acc false begins (nb (printB s (ysAt opts k) ++ ⟨#[59]⟩ ++ x)) = true := by rw [hsn, printed_acc (type_nosemi htp) hyx]; exact htp
      have hc1 : coversB (printB s (ysAt opts k)) (printB s (ysAt opts k) ++ ⟨#[59]⟩ ++ x) = true := by
        rw [hsn, covers_more htp hyk hyx]
        exact fun y hy => ⟨y, List.mem_append_left _ hy, rfl⟩
      have hc2 : coversB s (printB s (ysAt opts k) ++ ⟨#[59]⟩ ++ x) = true := by
        have := (covers_more (ys := []) htp (fun y hy => by cases hy) hyx).2 (fun y hy => by cases hy)
        rw [print_nil] at this
        rw [hsn]
        exact this
      have hc3 : coversB (printB s (ysAt opts k) ++ ⟨#[59]⟩ ++ x) (printB s (ysAt opts k)) = hasAt opts o k := by
        rw [hsn, Bool.eq_iff_iff, covers_more htp hyx hyk, hasAt, HX.out, List.any_eq_true]
        constructor
        · intro h
          obtain ⟨z, hz, e⟩ := h x (List.mem_append_right _ (List.mem_singleton.2 rfl))
          exact ⟨z, hz, decide_eq_true e⟩
        · rintro ⟨z, hz, e⟩ y hy
          rcases List.mem_append.1 hy with h | h
          · exact ⟨y, h, rfl⟩
          · rw [List.mem_singleton.1 h]
            exact ⟨z, hz, of_decide_eq_true e⟩
      clear hsn hyx hyk hxk htp
      generalize hasAt opts o k = hb at *
      generalize printB s (ysAt opts k) = t at *
      have hcat : (t ++ ⟨#[59]⟩ : ByteArray).size = t.size + 1 := ByteArray.size_append
      have hcat2 : (t ++ ⟨#[59]⟩ ++ x : ByteArray).size = t.size + 1 + x.size := by rw [ByteArray.size_append, hcat]
      have hp := fun w hM => parse_ok (t ++ ⟨#[59]⟩ ++ x) w (by omega) hM hma
      have hpt := fun w => parseType_ok s w (by omega) ht
      have hv1 := fun w hM => covers_any t (t ++ ⟨#[59]⟩ ++ x) w (by omega) (by omega) hM
      have hv2 := fun w hM => covers_any s (t ++ ⟨#[59]⟩ ++ x) w (by omega) (by omega) hM
      have hv3 := fun w hM => covers_any (t ++ ⟨#[59]⟩ ++ x) t w (by omega) (by omega) hM
      have hk1 := fun w hM => covers_any ⟨#[99, 110]⟩ ⟨#[99, 110, 59, 108, 97, 110, 103, 45, 120]⟩ w (by decide) (by decide) hM
      have hk2 := fun w hM => covers_any ⟨#[99, 110, 59, 108, 97, 110, 103, 45, 120]⟩ ⟨#[99, 110]⟩ w (by decide) (by decide) hM
      have hk3 := fun w hM => covers_any ⟨#[99, 110]⟩ ⟨#[115, 110, 59, 108, 97, 110, 103, 45, 120]⟩ w (by decide) (by decide) hM
      rw [hc1] at hv1
      rw [hc2] at hv2
      rw [hc3] at hv3
      rw [more_1] at hk1
      rw [more_2] at hk2
      rw [more_3] at hk3
      clear hc1 hc2 hc3 hma ht
      have hex : ¬ k < n ∨ (k < n ∧ ¬ k < 20) := by omega
      clear hlt
      rcases hex with hlt | ⟨hlt, hlt2⟩
      all_goals
        go_wp2_with (first
          | (go_at_call 23; with_reducible refine (num_zero _).mono ?_; rintro en wn ⟨rfl, rfl⟩)
          | (go_at_call 34; with_reducible refine (hpt _).mono ?_; rintro en wx ⟨rfl, hbx⟩; have HB := Lib.hid (HB.out.trans (hbx.mono HB.out.size)); clear hbx)
          | (go_at_call 22; with_reducible refine (hp _ (HM.out.below HB.out)).mono ?_; rintro en wx ⟨A1, c1, rfl, -, hbx⟩; have HB := Lib.hid ((HB.out.trans (hbx.mono HB.out.size)).alloc (HB.out.trans (hbx.mono HB.out.size)).size (.cells #[.string (typeB (t ++ ⟨#[59]⟩ ++ x)), .slice A1 (optB (t ++ ⟨#[59]⟩ ++ x)).length c1] 40)); clear hbx)
          | (go_at_call 30; with_reducible refine (hk1 _ (HM.out.below HB.out)).mono ?_; rintro en wx ⟨rfl, hbx⟩; have HB := Lib.hid (HB.out.trans (hbx.mono HB.out.size)); clear hbx)
          | (go_at_call 30; with_reducible refine (hk2 _ (HM.out.below HB.out)).mono ?_; rintro en wx ⟨rfl, hbx⟩; have HB := Lib.hid (HB.out.trans (hbx.mono HB.out.size)); clear hbx)
          | (go_at_call 30; with_reducible refine (hk3 _ (HM.out.below HB.out)).mono ?_; rintro en wx ⟨rfl, hbx⟩; have HB := Lib.hid (HB.out.trans (hbx.mono HB.out.size)); clear hbx)
          | (go_at_call 30; with_reducible refine (hv1 _ (HM.out.below HB.out)).mono ?_; rintro en wx ⟨rfl, hbx⟩; have HB := Lib.hid (HB.out.trans (hbx.mono HB.out.size)); clear hbx)
          | (go_at_call 30; with_reducible refine (hv2 _ (HM.out.below HB.out)).mono ?_; rintro en wx ⟨rfl, hbx⟩; have HB := Lib.hid (HB.out.trans (hbx.mono HB.out.size)); clear hbx)
          | (go_at_call 30; with_reducible refine (hv3 _ (HM.out.below HB.out)).mono ?_; rintro en wx ⟨rfl, hbx⟩; have HB := Lib.hid (HB.out.trans (hbx.mono HB.out.size)); clear hbx))
        go_ret
        first
          | exact ⟨rfl, HB.out⟩
          | exact ⟨by simp, HB.out⟩
set_option maxRecDepth 100000 in
set_option maxHeartbeats 4000000 in
theorem attrMore_no (s o : ByteArray) (A : Option Addr) (c n : Nat) (opts : List ByteArray) (w : World) (hs : s.size ≤ 1048576) (ho : o.size ≤ 1048576) (hn : opts.length = n) (hnl : n ≤ 1048576) (hos : ∀ p ∈ opts, p.size ≤ 1048576) (hC : Kd.C Kd.string w A n opts) (hM : MaxAt w)
    (ht : acc true begins (nb s) = false) :
    Calls Tryd.prog 9 #[.string s, .slice A n c, .string o] w fun en w' => en = .returned (.bool true) ∧ Below w.heap.size w w' := by
  have HM := Lib.hid hM
  have HC := Lib.hid hC
  have HN := Lib.hid hn
  have HOS := Lib.hid hos
  clear hM hC hn hos
  have HB := Lib.hid (Below.refl w.heap.size w)
  have hxs := option_size o
  have hop := fun w => option_any o w (by omega)
  obtain ⟨x, hx⟩ : ∃ x, optionB o = x := ⟨_, rfl⟩
  rw [hx] at hop hxs
  have HX := Lib.hid hx
  clear hx
  go_enter Tryd.func9, Tryd.ntmps9
  go_wp2_with (go_at_call 32; with_reducible refine (hop _).mono ?_; rintro en w1 ⟨rfl, hb1⟩; have HB := Lib.hid (HB.out.trans (hb1.mono HB.out.size)); clear hb1)
  go_loopw [7, 8, 10] (fun t has i wr => ∃ k : Int, i = .int .i64 k ∧ 0 ≤ k ∧ k ≤ n ∧ k ≤ 20 ∧ t = .string (printB s (ysAt opts k)) ∧ has = .bool (hasAt opts o k) ∧ Below w.heap.size w wr) (fun _ _ i _ => n - (intOf i).toNat)
  case atStart => exact ⟨0, rfl, Int.le_refl _, by omega, by omega, by rw [show ysAt opts 0 = [] from rfl, print_nil], rfl, HB.out⟩
  case round =>
    clear HB
    obtain ⟨k, rfl, hk0, hk1, hk2, rfl, rfl, hB⟩ := hrel
    have HB := Lib.hid hB
    clear hB
    have hsz := ysAt_size (s := s) hk0 hk2 HOS.out
    by_cases hlt : k < n ∧ k < 20
    · obtain ⟨hlt, hlt2⟩ := hlt
      obtain ⟨ad, e1, hp1⟩ := Kd.at_string (Kd.C_below HC.out HB.out) k hk0 hlt
      cases e1
      have hps := HOS.out (rdOf ByteArray.empty opts k) (rd_mem hk0 (by rw [HN.out]; exact hlt))
      have HY := Lib.hid (ysAt_next hk0 (by rw [HN.out]; exact hlt))
      have HH := Lib.hid (hasAt_next (o := o) hk0 (by rw [HN.out]; exact hlt))
      have hys := option_size (rdOf ByteArray.empty opts k)
      have hoy := fun w => option_any (rdOf ByteArray.empty opts k) w (by omega)
      obtain ⟨y, hy⟩ : ∃ y, optionB (rdOf ByteArray.empty opts k) = y := ⟨_, rfl⟩
      rw [hy] at HY HH hys hoy
      rw [HX.out] at HH
      clear hy
      generalize rdOf ByteArray.empty opts k = p at hp1 hps hoy hys
      have hfx := fun w => fold_any x w (by omega)
      have hfy := fun w => fold_any y w (by omega)
      have HPS := Lib.hid (print_snoc s (ysAt opts k) y)
      generalize hasAt opts o k = hb at *
      generalize printB s (ysAt opts k) = t at *
      have hcat : (t ++ ⟨#[59]⟩ : ByteArray).size = t.size + 1 := ByteArray.size_append
      have hcat2 : (t ++ ⟨#[59]⟩ ++ y : ByteArray).size = t.size + 1 + y.size := by rw [ByteArray.size_append, hcat]
      by_cases e : foldB x = foldB y
      · rw [decide_eq_true e, Bool.or_true] at HH
        rw [← e] at hfy
        generalize foldB x = fx at hfx hfy
        go_wp2_with (first
          | (go_at_call 33; with_reducible refine (hfx _).mono ?_; rintro en wx ⟨rfl, hbx⟩; have HB := Lib.hid (HB.out.trans (hbx.mono HB.out.size)); clear hbx)
          | (go_at_call 33; with_reducible refine (hfy _).mono ?_; rintro en wx ⟨rfl, hbx⟩; have HB := Lib.hid (HB.out.trans (hbx.mono HB.out.size)); clear hbx)
          | (go_at_call 32; with_reducible refine (hoy _).mono ?_; rintro en wx ⟨rfl, hbx⟩; have HB := Lib.hid (HB.out.trans (hbx.mono HB.out.size)); clear hbx))
        go_roundw
        case rel => exact ⟨k + 1, by go_num, by omega, by omega, by omega, by rw [HY.out, ← HPS.out], by rw [HH.out], HB.out⟩
        case measure => simp [intOf]; omega
      · have hne := bytes_ne e
        rw [decide_eq_false e, Bool.or_false] at HH
        generalize foldB x = fx at hfx hne
        generalize foldB y = fy at hfy hne
        clear e
        go_wp2_with (first
          | (go_at_call 33; with_reducible refine (hfx _).mono ?_; rintro en wx ⟨rfl, hbx⟩; have HB := Lib.hid (HB.out.trans (hbx.mono HB.out.size)); clear hbx)
          | (go_at_call 33; with_reducible refine (hfy _).mono ?_; rintro en wx ⟨rfl, hbx⟩; have HB := Lib.hid (HB.out.trans (hbx.mono HB.out.size)); clear hbx)
          | (go_at_call 32; with_reducible refine (hoy _).mono ?_; rintro en wx ⟨rfl, hbx⟩; have HB := Lib.hid (HB.out.trans (hbx.mono HB.out.size)); clear hbx))
        go_roundw
        case rel => exact ⟨k + 1, by go_num, by omega, by omega, by omega, by rw [HY.out, ← HPS.out], by rw [HH.out], HB.out⟩
        case measure => simp [intOf]; omega
    · have htp : isTypeP (nb s) = false := by rw [← acc_type]; exact ht
      have hxk : keysP (nb x) = true := by rw [← HX.out]; exact option_keys o
      have hyk := ysAt_keys opts k
      have hyx : ∀ y ∈ ysAt opts k ++ [x], keysP (nb y) = true := fun y hy => by
        rcases List.mem_append.1 hy with h | h
        · exact hyk y h
        · rw [List.mem_singleton.1 h]; exact hxk
      have hsn := print_snoc s (ysAt opts k) x
      have hno : (∀ z ∈ nb s, z ≠ 59) → acc false begins (nb (printB s (ysAt opts k) ++ ⟨#[59]⟩ ++ x)) = false := fun h => by rw [hsn, printed_acc h hyx]; exact htp
      clear hsn hyx hyk hxk htp
      generalize hasAt opts o k = hb at *
      generalize printB s (ysAt opts k) = t at *
      have hcat : (t ++ ⟨#[59]⟩ : ByteArray).size = t.size + 1 := ByteArray.size_append
      have hcat2 : (t ++ ⟨#[59]⟩ ++ x : ByteArray).size = t.size + 1 + x.size := by rw [ByteArray.size_append, hcat]
      have HNO := Lib.hid hno
      clear hno
      have hpt := fun w => parseType_no s w (by omega) ht
      have hk1 := fun w hM => covers_any ⟨#[99, 110]⟩ ⟨#[99, 110, 59, 108, 97, 110, 103, 45, 120]⟩ w (by decide) (by decide) hM
      have hk2 := fun w hM => covers_any ⟨#[99, 110, 59, 108, 97, 110, 103, 45, 120]⟩ ⟨#[99, 110]⟩ w (by decide) (by decide) hM
      have hk3 := fun w hM => covers_any ⟨#[99, 110]⟩ ⟨#[115, 110, 59, 108, 97, 110, 103, 45, 120]⟩ w (by decide) (by decide) hM
      rw [more_1] at hk1
      rw [more_2] at hk2
      rw [more_3] at hk3
      clear ht
      have hex : ¬ k < n ∨ (k < n ∧ ¬ k < 20) := by omega
      clear hlt
      obtain ⟨bm, hbm⟩ : ∃ b, acc false begins (nb (t ++ ⟨#[59]⟩ ++ x)) = b := ⟨_, rfl⟩
      have HBM := Lib.hid hbm
      clear hbm
      cases bm
      · have hp := fun w => parse_no (t ++ ⟨#[59]⟩ ++ x) w (by omega) HBM.out
        rcases hex with hlt | ⟨hlt, hlt2⟩
        all_goals
          go_wp2_with (first
            | (go_at_call 23; with_reducible refine (num_forty _).mono ?_; rintro en wn ⟨rfl, rfl⟩)
            | (go_at_call 34; with_reducible refine (hpt _).mono ?_; rintro en wx ⟨rfl, hbx⟩; have HB := Lib.hid (HB.out.trans (hbx.mono HB.out.size)); clear hbx)
            | (go_at_call 22; with_reducible refine (hp _).mono ?_; rintro en wx ⟨rfl, hbx⟩; have HB := Lib.hid ((HB.out.trans (hbx.mono HB.out.size)).alloc (HB.out.trans (hbx.mono HB.out.size)).size (.cells #[.string ⟨#[]⟩, .slice none 0 0] 40)); clear hbx)
            | (go_at_call 30; with_reducible refine (hk1 _ (HM.out.below HB.out)).mono ?_; rintro en wx ⟨rfl, hbx⟩; have HB := Lib.hid (HB.out.trans (hbx.mono HB.out.size)); clear hbx)
            | (go_at_call 30; with_reducible refine (hk2 _ (HM.out.below HB.out)).mono ?_; rintro en wx ⟨rfl, hbx⟩; have HB := Lib.hid (HB.out.trans (hbx.mono HB.out.size)); clear hbx)
            | (go_at_call 30; with_reducible refine (hk3 _ (HM.out.below HB.out)).mono ?_; rintro en wx ⟨rfl, hbx⟩; have HB := Lib.hid (HB.out.trans (hbx.mono HB.out.size)); clear hbx))
          go_loopw [19] (fun i wr => ∃ y : Int, i = .int .i64 y ∧ 0 ≤ y ∧ y ≤ s.size ∧ Below w.heap.size w wr) (fun i _ => s.size - (intOf i).toNat)
          case atStart => exact ⟨0, rfl, Int.le_refl _, by omega, HB.out⟩
          case round =>
            obtain ⟨y, rfl, hy0, hy1, hB2⟩ := hrel
            by_cases hys : y < s.size
            · have hby := bt_at s y
              obtain ⟨hc0, hc1⟩ := bt_range s y
              by_cases e : bt s y = 59
              · have he : (bt s y == 59) = true := beq_iff_eq.2 e
                clear e
                go_wp2
                go_ret
                exact ⟨rfl, hB2⟩
              · have he : (bt s y == 59) = false := beq_false_of_ne e
                go_wp2
                go_roundw
                case rel => exact ⟨y + 1, by go_num, by omega, by omega, hB2⟩
                case measure => simp [intOf]; omega
            · go_wp2_with (go_at_call 23; with_reducible refine (num_forty _).mono ?_; rintro en wn ⟨rfl, rfl⟩)
              go_ret
              exact ⟨rfl, hB2⟩
      · have hp := fun w hM => parse_ok (t ++ ⟨#[59]⟩ ++ x) w (by omega) hM HBM.out
        rcases hex with hlt | ⟨hlt, hlt2⟩
        all_goals
          go_wp2_with (first
            | (go_at_call 23; with_reducible refine (num_forty _).mono ?_; rintro en wn ⟨rfl, rfl⟩)
            | (go_at_call 34; with_reducible refine (hpt _).mono ?_; rintro en wx ⟨rfl, hbx⟩; have HB := Lib.hid (HB.out.trans (hbx.mono HB.out.size)); clear hbx)
            | (go_at_call 22; with_reducible refine (hp _ (HM.out.below HB.out)).mono ?_; rintro en wx ⟨A1, c1, rfl, -, hbx⟩; have HB := Lib.hid ((HB.out.trans (hbx.mono HB.out.size)).alloc (HB.out.trans (hbx.mono HB.out.size)).size (.cells #[.string (typeB (t ++ ⟨#[59]⟩ ++ x)), .slice A1 (optB (t ++ ⟨#[59]⟩ ++ x)).length c1] 40)); clear hbx)
            | (go_at_call 30; with_reducible refine (hk1 _ (HM.out.below HB.out)).mono ?_; rintro en wx ⟨rfl, hbx⟩; have HB := Lib.hid (HB.out.trans (hbx.mono HB.out.size)); clear hbx)
            | (go_at_call 30; with_reducible refine (hk2 _ (HM.out.below HB.out)).mono ?_; rintro en wx ⟨rfl, hbx⟩; have HB := Lib.hid (HB.out.trans (hbx.mono HB.out.size)); clear hbx)
            | (go_at_call 30; with_reducible refine (hk3 _ (HM.out.below HB.out)).mono ?_; rintro en wx ⟨rfl, hbx⟩; have HB := Lib.hid (HB.out.trans (hbx.mono HB.out.size)); clear hbx))
          go_loopw [19] (fun i wr => ∃ y : Int, i = .int .i64 y ∧ 0 ≤ y ∧ y ≤ s.size ∧ Hid (∀ z : Int, 0 ≤ z → z < y → (fun c : Int => !decide (c = 59)) (bt s z) = true) ∧ Below w.heap.size w wr) (fun i _ => s.size - (intOf i).toNat)
          case atStart => exact ⟨0, rfl, Int.le_refl _, by omega, Lib.hid (fun z _ _ => by omega), HB.out⟩
          case round =>
            obtain ⟨y, rfl, hy0, hy1, HZ, hB2⟩ := hrel
            by_cases hys : y < s.size
            · have hby := bt_at s y
              obtain ⟨hc0, hc1⟩ := bt_range s y
              by_cases e : bt s y = 59
              · have he : (bt s y == 59) = true := beq_iff_eq.2 e
                clear e
                go_wp2
                go_ret
                exact ⟨rfl, hB2⟩
              · have he : (bt s y == 59) = false := beq_false_of_ne e
                have HE := Lib.hid e
                clear e
                go_wp2
                go_roundw
                case rel => exact ⟨y + 1, by go_num, by omega, by omega, Lib.hid (upto_next (f := fun c : Int => !decide (c = 59)) HZ.out (by simpa using HE.out)), hB2⟩
                case measure => simp [intOf]; omega
            · exfalso
              have h1 := all_at (f := fun c : Int => !decide (c = 59)) HZ.out (show (s.size : Int) ≤ y by omega)
              have h2 := HNO.out fun z hz e => by
                have := List.all_eq_true.1 h1 z hz
                simp [e] at this
              rw [HBM.out] at h2
              cases h2
theorem attrMore_walk (s o : ByteArray) (A : Option Addr) (c n : Nat) (opts : List ByteArray) (w : World) (hs : s.size ≤ 1048576) (ho : o.size ≤ 1048576) (hn : opts.length = n) (hnl : n ≤ 1048576) (hos : ∀ p ∈ opts, p.size ≤ 1048576) (hC : Kd.C Kd.string w A n opts) (hM : MaxAt w) :
    Calls Tryd.prog 9 #[.string s, .slice A n c, .string o] w fun en w' => en = .returned (.bool true) ∧ Below w.heap.size w w' := by
  cases h : acc true begins (nb s) with
  | false => exact attrMore_no s o A c n opts w hs ho hn hnl hos hC hM h
  | true => exact attrMore_ok s o A c n opts w hs ho hn hnl hos hC hM h
end Go.Proofs.YtdonopoijbokiaaDoor
