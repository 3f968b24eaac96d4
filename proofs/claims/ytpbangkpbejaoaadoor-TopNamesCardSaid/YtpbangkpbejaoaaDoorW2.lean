/-
  The walk of the law TopNames. Conditions: the library's table and its error are laid.
-/
import Derived.Test.YtpbangkpbejaoaaDoorW1
namespace Go.Proofs.YtpbangkpbejaoaaDoor
open Go.RowKit Go.Shelf

theorem var_below {P : Program} {B g : Nat} {W W' : World} {n : String} {cs : Array Value} (h : Below B W W') (hg : P.globalNamed n = some g) (hgB : g < B) (hv : W.var? P n = some cs) : W'.var? P n = some cs := by
  unfold World.var? at hv ⊢
  simp only [hg, Option.bind_some] at hv ⊢
  rw [h.block g hgB]
  exact hv
theorem gES : Tryd.prog.globalNamed "strconv.ErrSyntax" = some 0 := by kernel_rfl
theorem gTab : Tryd.prog.globalNamed "internal/strconv.uint64pow10" = some 2 := by kernel_rfl

theorem errno_any (n : Int) (w : World) : Calls Tryd.prog 5 #[.int .i64 n] w fun e w' => e = .returned (.int .i64 n) ∧ w = w' := by
  go_enter Tryd.func5, Tryd.ntmps5
  go_wp2
  go_ret
  exact ⟨rfl, rfl⟩

set_option maxRecDepth 100000 in
theorem names_row (tp : TypeId) (p : Value) (w : World) (hvar : w.var? Tryd.prog "strconv.ErrSyntax" = some #[.iface tp p]) (htab : Lib.TabIs Tryd.prog w "internal/strconv.uint64pow10" .u64 Lib.pow10Tab) (h2 : 2 < w.heap.size) :
    Calls Tryd.prog 3 #[] w fun e w' => e = .returned (.bool true) ∧ Below w.heap.size w w' := by
  have HV := Lib.hid (fun (w' : World) (h : Below w.heap.size w w') => var_below h gES (by omega) hvar)
  have HT := Lib.hid (fun (w' : World) (h : Below w.heap.size w w') => (show Lib.TabIs Tryd.prog w' "internal/strconv.uint64pow10" .u64 Lib.pow10Tab from var_below h gTab h2 htab))
  clear hvar htab
  go_enter Tryd.func3, Tryd.ntmps3
  go_wp2_with fail
  refine (read_not w tp p (fun w' h => HV.out w' h)).mono ?_
  rintro e w1 ⟨rfl, hb⟩
  have HB1 := Lib.hid hb
  clear hb
  go_wp2_with fail
  generalize hx : w1.alloc (.cells #[.int .i64 0, .int .i64 0, .string nilS] 23) = y1
  have hb : Below w1.heap.size w1 y1 := by rw [← hx]; exact up_alloc _ _
  have HB2 := Lib.hid (HB1.out.trans (hb.mono HB1.out.size))
  clear hx hb
  refine (read_neg y1 (fun w' h => HT.out w' (HB2.out.trans (h.mono HB2.out.size)))).mono ?_
  rintro e w2 ⟨rfl, hb⟩
  have HB3 := Lib.hid (HB2.out.trans (hb.mono HB2.out.size))
  clear hb
  go_wp2_with fail
  generalize hx : w2.alloc (.cells #[.int .i64 1, .int .i64 (-7), .string nilS] 23) = y2
  have hb : Below w2.heap.size w2 y2 := by rw [← hx]; exact up_alloc _ _
  have HD2 : Hid (y2.heap[w2.heap.size]? = some (.cells #[.int .i64 1, .int .i64 (-7), .string nilS] 23 (0, 0))) := by rw [← hx]; exact heap_alloc_new _ _
  have HB4 := Lib.hid (HB3.out.trans (hb.mono HB3.out.size))
  have q0 : y2.cell? ⟨w2.heap.size, 0, none⟩ = some (.int .i64 1) := by simp only [World.cell?, HD2.out]; rfl
  have q1 : y2.cell? ⟨w2.heap.size, 1, none⟩ = some (.int .i64 (-7)) := by simp only [World.cell?, HD2.out]; rfl
  have q2 : y2.cell? ⟨w2.heap.size, 2, none⟩ = some (.string nilS) := by simp only [World.cell?, HD2.out]; rfl
  clear hx hb
  refine (errno_any 5 y2).mono ?_
  rintro e w3 ⟨rfl, rfl⟩
  go_wp2_with fail
  refine (errno_any 0 y2).mono ?_
  rintro e w3 ⟨rfl, rfl⟩
  go_wp2
  go_ret
  exact ⟨rfl, HB4.out⟩
end Go.Proofs.YtpbangkpbejaoaaDoor
