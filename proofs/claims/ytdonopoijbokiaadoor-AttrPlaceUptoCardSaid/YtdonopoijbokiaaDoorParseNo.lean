/- attr.Parse of a text that is refused. -/
import Derived.Test.YtdonopoijbokiaaDoorParse
namespace Go.Proofs.YtdonopoijbokiaaDoor
open Go.RowKit Go.Proofs.YtdonopoijbokiaaDoorW.PrintWords

set_option maxRecDepth 100000 in
set_option maxHeartbeats 1000000 in
theorem parse_no (s : ByteArray) (w : World) (hs : s.size ≤ 4294967000) (hok : acc false begins (nb s) = false) :
    Calls Tryd.prog 22 #[.string s] w fun e w' => e = .returned (.tuple #[.agg #[.string ⟨#[]⟩, .slice none 0 0], .int .i64 40, .int .i64 (scanL false (nb s)).2]) ∧ Below w.heap.size w w' := by
  have hs1 : (scanL false (nb s)).1 = false := by rw [scanL_acc]; exact hok
  have hsc := fun w => scan_any s false w (by omega)
  rw [hs1] at hsc
  go_enter Tryd.func22, Tryd.ntmps22
  go_wp2_with (first | (refine wpList_store_row rfl 40 (.tmp 2) (.tmp 20) rfl w.heap.size #[.string ⟨#[]⟩, .slice none 0 0] rfl rfl 40 _ HRES.out sizeDesc rfl (by simp [Value.oneCell']) ?_) | (go_at_call 47; refine (hsc _).mono ?_; rintro e w1 ⟨rfl, hb1⟩; have HRES := Lib.hid (newKept hb1)))
  (try simp only [Exit.inBlock, Exit.then])
  refine bodyPost_ret (results_row_tmp2 rfl _ _ w.heap.size 40 #[.string ⟨#[]⟩, .slice none 0 0] (0, 0) _ rfl (setRow_heap _ _ _ _ _ _ HRES.out) Tryd.underlying40 rfl (by kernel_rfl)) rfl ⟨rfl, setRow_below (alloc_then hb1) (Nat.le_refl _) _⟩
end Go.Proofs.YtdonopoijbokiaaDoor
