/-
  The walks of sym's functions at the two texts that the law TopNames reads. Conditions: the library's table and its error are laid.
-/
import Derived.Test.YtpbangkpbejaoaaDoorShelf
import Derived.Test.YtpbangkpbejaoaaDoorRows
import Derived.WalkKit
import Derived.WalkLawsBesides
import Derived.Lib.Hide
import Derived.Lib.SmallJoins
import Derived.Laws.ResultCell
import Derived.Deep.Onto
import Derived.Deep.QuietTactic
import Derived.BigQuiet
import Derived.Lib.AppendIntMem
namespace Go.Proofs.YtpbangkpbejaoaaDoor
open Go.RowKit Go.Shelf

theorem up_alloc (w : World) (o : Obj) : Below w.heap.size w (w.alloc o) := (Below.refl _ _).alloc (Nat.le_refl _) o
theorem keep_cell {w w' : World} {B g o : Nat} {v : Value} (h : Below B w w') (hg : g < B) (hc : w.cell? ⟨g, o, none⟩ = some v) : w'.cell? ⟨g, o, none⟩ = some v := (World.cell?_of_block (h.block g hg)).trans hc

abbrev notS : ByteArray := { data := #[110, 111, 116] }
abbrev negS : ByteArray := { data := #[45, 55] }
abbrev nilS : ByteArray := { data := #[] }

theorem Tryd.size23 : (Tryd.prog.info? 23).map (·.size) = some 3 := by kernel_rfl
theorem set_three {w : World} {b : Nat} {x y z a c d : Value} {t : TypeId} {f : Nat × Nat} (h : w.heap[b]? = some (.cells #[x, y, z] t f)) :
    (((w.setCell ⟨b, 0, none⟩ a).setCell ⟨b, 1, none⟩ c).setCell ⟨b, 2, none⟩ d).heap[b]? = some (.cells #[a, c, d] t f) :=
  Joins.block_setCell (Joins.block_setCell (Joins.block_setCell h a) c) d
theorem below_three {w w2 : World} {B b : Nat} {a c d : Value} (h : Below B w w2) (hb : B ≤ b) : Below B w (((w2.setCell ⟨b, 0, none⟩ a).setCell ⟨b, 1, none⟩ c).setCell ⟨b, 2, none⟩ d) :=
  ((h.setCell hb a).setCell hb c).setCell hb d

theorem parse_not (tp : TypeId) (p : Value) (w : World) (hvar : w.var? Tryd.prog "strconv.ErrSyntax" = some #[.iface tp p]) :
    Calls Tryd.prog 10 #[.string notS, .int .i64 10, .int .i64 64] w fun e w' => ∃ N, e = .returned (.tuple #[.int .i64 0, .iface 59 (.pointer (some ⟨N, 0, none⟩))]) ∧ Below w.heap.size w w' :=
  (Any.strconv_ParseInt_10_at64_syntax_var Tryd.laysC174 notS (by decide) (by decide) tp p w hvar).mono fun e w' ⟨N, he, _, _, hb⟩ => ⟨N, he, hb⟩
theorem parse_neg (w : World) : Calls Tryd.prog 10 #[.string negS, .int .i64 10, .int .i64 64] w fun e w' => e = .returned (.tuple #[.int .i64 (-7), .nilIface]) ∧ Below w.heap.size w w' :=
  (Any.strconv_ParseInt_10_at64_ok Tryd.laysC174 negS (by decide) (-7) (by decide) w).mono fun e w' ⟨he, h⟩ => ⟨he, by
    rcases h with rfl | ⟨t, rfl⟩
    · exact Below.refl _ _
    · exact Lib.bytesWorld_below _ _ _⟩
theorem itoa_neg : (⟨(Lib.itoa (-7)).toArray⟩ : ByteArray) = negS := by
  have h : Lib.itoa (-7) = [45, 55] := by
    unfold Lib.itoa
    rw [if_pos (by decide)]
    show 45 :: Lib.decDigits 7 = _
    rw [Lib.decDigits, dif_pos (by decide)]; rfl
  rw [h]
theorem format_neg (w : World) (htab : Lib.TabIs Tryd.prog w "internal/strconv.uint64pow10" .u64 Lib.pow10Tab) :
    Calls Tryd.prog 12 #[.int .i64 (-7), .int .i64 10] w fun e w' => e = .returned (.string negS) ∧ Below w.heap.size w w' :=
  (Any.strconv_FormatInt_10 Tryd.laysM173 (-7) (by decide) (by decide) w htab).mono fun e w' ⟨he, k, os, hw⟩ => ⟨by rw [he, itoa_neg], by
    subst hw
    exact Lib.below_grow _ _ (Nat.le_refl _) _ _⟩

theorem small_minus (w : World) : Calls Tryd.prog 16 #[.int .u8 45] w fun e w' => e = .returned (.bool false) ∧ w = w' := by
  go_enter Tryd.func16, Tryd.ntmps16
  go_wp2
  go_ret
  exact ⟨rfl, rfl⟩
theorem word_neg (w : World) : Calls Tryd.prog 15 #[.string negS, .func (.func 16) #[] #[]] w fun e w' => e = .returned (.bool false) ∧ w = w' := by
  go_enter Tryd.func15, Tryd.ntmps15
  go_wp2_with fail
  refine (small_minus w).mono ?_
  rintro e w' ⟨rfl, rfl⟩
  go_wp2
  go_ret
  exact ⟨rfl, rfl⟩
theorem isName_not (w : World) : Calls Tryd.prog 9 #[.string notS] w fun e w' => e = .returned (.bool false) ∧ w = w' := by
  go_enter Tryd.func9, Tryd.ntmps9
  go_wp2
  go_ret
  exact ⟨rfl, rfl⟩
theorem isName_neg (w : World) : Calls Tryd.prog 9 #[.string negS] w fun e w' => e = .returned (.bool false) ∧ w = w' := by
  go_enter Tryd.func9, Tryd.ntmps9
  go_wp2_with fail
  refine (word_neg w).mono ?_
  rintro e w' ⟨rfl, rfl⟩
  go_wp2
  go_ret
  exact ⟨rfl, rfl⟩
theorem valid_zero (w : World) : Calls Tryd.prog 11 #[.agg #[.int .i64 0, .int .i64 0, .string nilS]] w fun e w' => e = .returned (.bool false) ∧ Below w.heap.size w w' := by
  have c0 : (w.alloc (.cells #[.int .i64 0, .int .i64 0, .string nilS] 23)).cell? ⟨w.heap.size, 0, none⟩ = some (.int .i64 0) := by simp
  have hb := Lib.hid (up_alloc w (.cells #[.int .i64 0, .int .i64 0, .string nilS] 23))
  go_enter Tryd.func11, Tryd.ntmps11
  go_wp2
  go_ret
  exact ⟨rfl, hb.out⟩
theorem valid_neg (w : World) : Calls Tryd.prog 11 #[.agg #[.int .i64 1, .int .i64 (-7), .string nilS]] w fun e w' => e = .returned (.bool true) ∧ Below w.heap.size w w' := by
  have c0 : (w.alloc (.cells #[.int .i64 1, .int .i64 (-7), .string nilS] 23)).cell? ⟨w.heap.size, 0, none⟩ = some (.int .i64 1) := by simp
  have c2 : (w.alloc (.cells #[.int .i64 1, .int .i64 (-7), .string nilS] 23)).cell? ⟨w.heap.size, 2, none⟩ = some (.string nilS) := by simp
  have hb := Lib.hid (up_alloc w (.cells #[.int .i64 1, .int .i64 (-7), .string nilS] 23))
  go_enter Tryd.func11, Tryd.ntmps11
  go_wp2
  go_ret
  exact ⟨rfl, hb.out⟩

theorem text_zero (w : World) : Calls Tryd.prog 7 #[.agg #[.int .i64 0, .int .i64 0, .string nilS]] w fun e w' => e = .returned (.string nilS) ∧ Below w.heap.size w w' := by
  obtain ⟨W0, hW0⟩ : ∃ W0, W0 = w.alloc (.cells #[.int .i64 0, .int .i64 0, .string nilS] 23) := ⟨_, rfl⟩
  have hb := up_alloc w (.cells #[.int .i64 0, .int .i64 0, .string nilS] 23)
  rw [← hW0] at hb
  have c0 : W0.cell? ⟨w.heap.size, 0, none⟩ = some (.int .i64 0) := by rw [hW0]; simp
  have c1 : W0.cell? ⟨w.heap.size, 1, none⟩ = some (.int .i64 0) := by rw [hW0]; simp
  have c2 : W0.cell? ⟨w.heap.size, 2, none⟩ = some (.string nilS) := by rw [hW0]; simp
  have HB := Lib.hid hb
  clear hb
  go_enter Tryd.func7, Tryd.ntmps7
  go_wp2_with fail
  rw [← hW0]
  clear hW0
  refine (valid_zero W0).mono ?_
  rintro e w' ⟨rfl, hb⟩
  have HB2 := Lib.hid (HB.out.trans (hb.mono HB.out.size))
  clear hb
  go_wp2
  go_ret
  exact ⟨rfl, HB2.out⟩
theorem text_neg (w : World) (htab : ∀ w', Below w.heap.size w w' → Lib.TabIs Tryd.prog w' "internal/strconv.uint64pow10" .u64 Lib.pow10Tab) : Calls Tryd.prog 7 #[.agg #[.int .i64 1, .int .i64 (-7), .string nilS]] w fun e w' => e = .returned (.string negS) ∧ Below w.heap.size w w' := by
  obtain ⟨W0, hW0⟩ : ∃ W0, W0 = w.alloc (.cells #[.int .i64 1, .int .i64 (-7), .string nilS] 23) := ⟨_, rfl⟩
  have hb := up_alloc w (.cells #[.int .i64 1, .int .i64 (-7), .string nilS] 23)
  rw [← hW0] at hb
  have hlt : w.heap.size < W0.heap.size := by rw [hW0]; simp
  have c0 : W0.cell? ⟨w.heap.size, 0, none⟩ = some (.int .i64 1) := by rw [hW0]; simp
  have c1 : W0.cell? ⟨w.heap.size, 1, none⟩ = some (.int .i64 (-7)) := by rw [hW0]; simp
  have c2 : W0.cell? ⟨w.heap.size, 2, none⟩ = some (.string nilS) := by rw [hW0]; simp
  have HB := Lib.hid hb
  have HT := Lib.hid htab
  clear hb htab
  go_enter Tryd.func7, Tryd.ntmps7
  go_wp2_with fail
  rw [← hW0]
  clear hW0
  refine (valid_neg W0).mono ?_
  rintro e w' ⟨rfl, hb⟩
  have HB2 := Lib.hid (HB.out.trans (hb.mono HB.out.size))
  have d0 := keep_cell hb hlt c0
  have d1 := keep_cell hb hlt c1
  have HF := Lib.hid (format_neg w' (HT.out w' HB2.out))
  clear hb c0 c1 c2
  go_wp2_with fail
  refine HF.out.mono ?_
  rintro e w2 ⟨rfl, hb⟩
  have HB3 := Lib.hid (HB2.out.trans (hb.mono HB2.out.size))
  clear hb
  go_wp2
  go_ret
  exact ⟨rfl, HB3.out⟩
theorem guess_not (tp : TypeId) (p : Value) (w : World) (hvar : ∀ w', Below w.heap.size w w' → w'.var? Tryd.prog "strconv.ErrSyntax" = some #[.iface tp p]) :
    Calls Tryd.prog 6 #[.string notS] w fun e w' => e = .returned (.agg #[.int .i64 0, .int .i64 0, .string nilS]) ∧ Below w.heap.size w w' := by
  obtain ⟨W0, hW0⟩ : ∃ W0, W0 = w.alloc (.cells #[.int .i64 0, .int .i64 0, .string nilS] 23) := ⟨_, rfl⟩
  have hb := up_alloc w (.cells #[.int .i64 0, .int .i64 0, .string nilS] 23)
  rw [← hW0] at hb
  have hlt : w.heap.size < W0.heap.size := by rw [hW0]; simp
  have c : W0.heap[w.heap.size]? = some (.cells #[.int .i64 0, .int .i64 0, .string nilS] 23 (0, 0)) := by rw [hW0]; exact heap_alloc_new _ _
  have HB := Lib.hid hb
  have HC := Lib.hid c
  have HP := Lib.hid (parse_not tp p W0 (hvar W0 hb))
  clear hb hvar c
  go_enter Tryd.func6, Tryd.ntmps6
  go_wp2_with fail
  rw [← hW0]
  clear hW0
  refine (isName_not W0).mono ?_
  rintro e w' ⟨rfl, rfl⟩
  go_wp2_with fail
  refine HP.out.mono ?_
  rintro e w2 ⟨N, rfl, hb⟩
  have HB3 := Lib.hid (HB.out.trans (hb.mono HB.out.size))
  have HC3 := Lib.hid ((hb.block _ hlt).trans HC.out)
  have d0 : w2.cell? ⟨w.heap.size, 0, none⟩ = some (.int .i64 0) := by simp only [World.cell?, HC3.out]; rfl
  have d1 : w2.cell? ⟨w.heap.size, 1, none⟩ = some (.int .i64 0) := by simp only [World.cell?, HC3.out]; rfl
  have d2 : w2.cell? ⟨w.heap.size, 2, none⟩ = some (.string nilS) := by simp only [World.cell?, HC3.out]; rfl
  have f0 : w2.frozen? ⟨w.heap.size, 0, none⟩ = false := by simp only [World.frozen?, HC3.out]; rfl
  have f1 : w2.frozen? ⟨w.heap.size, 1, none⟩ = false := by simp only [World.frozen?, HC3.out]; rfl
  have f2 : w2.frozen? ⟨w.heap.size, 2, none⟩ = false := by simp only [World.frozen?, HC3.out]; rfl
  clear hb
  go_wp2
  exact bodyPost_ret (results_cell_row rfl _ _ w.heap.size 23 #[.int .i64 0, .int .i64 0, .string nilS] (0, 0) _ rfl (set_three HC3.out) Tryd.underlying23 rfl Tryd.size23) rfl ⟨rfl, below_three HB3.out (Nat.le_refl _)⟩

theorem guess_neg (w : World) : Calls Tryd.prog 6 #[.string negS] w fun e w' => e = .returned (.agg #[.int .i64 1, .int .i64 (-7), .string nilS]) ∧ Below w.heap.size w w' := by
  obtain ⟨W0, hW0⟩ : ∃ W0, W0 = w.alloc (.cells #[.int .i64 0, .int .i64 0, .string nilS] 23) := ⟨_, rfl⟩
  have hb := up_alloc w (.cells #[.int .i64 0, .int .i64 0, .string nilS] 23)
  rw [← hW0] at hb
  have hlt : w.heap.size < W0.heap.size := by rw [hW0]; simp
  have c : W0.heap[w.heap.size]? = some (.cells #[.int .i64 0, .int .i64 0, .string nilS] 23 (0, 0)) := by rw [hW0]; exact heap_alloc_new _ _
  have HB := Lib.hid hb
  have HC := Lib.hid c
  have HP := Lib.hid (parse_neg W0)
  clear hb c
  go_enter Tryd.func6, Tryd.ntmps6
  go_wp2_with fail
  rw [← hW0]
  clear hW0
  refine (isName_neg W0).mono ?_
  rintro e w' ⟨rfl, rfl⟩
  go_wp2_with fail
  refine HP.out.mono ?_
  rintro e w2 ⟨rfl, hb⟩
  have HB3 := Lib.hid (HB.out.trans (hb.mono HB.out.size))
  have HC3 := Lib.hid ((hb.block _ hlt).trans HC.out)
  have d0 : w2.cell? ⟨w.heap.size, 0, none⟩ = some (.int .i64 0) := by simp only [World.cell?, HC3.out]; rfl
  have d1 : w2.cell? ⟨w.heap.size, 1, none⟩ = some (.int .i64 0) := by simp only [World.cell?, HC3.out]; rfl
  have d2 : w2.cell? ⟨w.heap.size, 2, none⟩ = some (.string nilS) := by simp only [World.cell?, HC3.out]; rfl
  have f0 : w2.frozen? ⟨w.heap.size, 0, none⟩ = false := by simp only [World.frozen?, HC3.out]; rfl
  have f1 : w2.frozen? ⟨w.heap.size, 1, none⟩ = false := by simp only [World.frozen?, HC3.out]; rfl
  have f2 : w2.frozen? ⟨w.heap.size, 2, none⟩ = false := by simp only [World.frozen?, HC3.out]; rfl
  clear hb
  go_wp2
  exact bodyPost_ret (results_cell_row rfl _ _ w.heap.size 23 #[.int .i64 1, .int .i64 (-7), .string nilS] (0, 0) _ rfl (set_three HC3.out) Tryd.underlying23 rfl Tryd.size23) rfl ⟨rfl, below_three HB3.out (Nat.le_refl _)⟩

theorem read_not (w : World) (tp : TypeId) (p : Value) (hvar : ∀ w', Below w.heap.size w w' → w'.var? Tryd.prog "strconv.ErrSyntax" = some #[.iface tp p]) : Calls Tryd.prog 4 #[.string notS] w fun e w' => e = .returned (.tuple #[.agg #[.int .i64 0, .int .i64 0, .string nilS], .int .i64 5]) ∧ Below w.heap.size w w' := by
  obtain ⟨W0, hW0⟩ : ∃ W0, W0 = w.alloc (.cells #[.int .i64 0, .int .i64 0, .string nilS] 23) := ⟨_, rfl⟩
  have hb := up_alloc w (.cells #[.int .i64 0, .int .i64 0, .string nilS] 23)
  rw [← hW0] at hb
  have hlt : w.heap.size < W0.heap.size := by rw [hW0]; simp
  have c : W0.heap[w.heap.size]? = some (.cells #[.int .i64 0, .int .i64 0, .string nilS] 23 (0, 0)) := by rw [hW0]; exact heap_alloc_new _ _
  have HB := Lib.hid hb
  have HC := Lib.hid c
  have HH := Lib.hid hvar
  clear hb c hvar
  go_enter Tryd.func4, Tryd.ntmps4
  go_wp2_with fail
  rw [← hW0]
  clear hW0
  refine (guess_not tp p W0 (fun w' h => HH.out w' (HB.out.trans (h.mono HB.out.size)))).mono ?_
  rintro e w1 ⟨rfl, hb⟩
  have HB1 := Lib.hid (HB.out.trans (hb.mono HB.out.size))
  have HC1 := Lib.hid ((hb.block _ hlt).trans HC.out)
  have hlt1 := Nat.lt_of_lt_of_le hlt hb.size
  clear hb
  go_wp2_with fail
  generalize hx : w1.alloc (.cells #[.int .i64 0, .int .i64 0, .string nilS] 23) = y1
  have hb : Below w1.heap.size w1 y1 := by rw [← hx]; exact up_alloc _ _
  have HB2 := Lib.hid (HB1.out.trans (hb.mono HB1.out.size))
  have HC2 := Lib.hid ((hb.block _ hlt1).trans HC1.out)
  have HD2 : Hid (y1.heap[w1.heap.size]? = some (.cells #[.int .i64 0, .int .i64 0, .string nilS] 23 (0, 0))) := by rw [← hx]; exact heap_alloc_new _ _
  have hlt2 : w1.heap.size < y1.heap.size := by rw [← hx]; simp
  clear hx hb
  have q0 : y1.cell? ⟨w1.heap.size, 0, none⟩ = some (.int .i64 0) := by simp only [World.cell?, HD2.out]; rfl
  have q1 : y1.cell? ⟨w1.heap.size, 1, none⟩ = some (.int .i64 0) := by simp only [World.cell?, HD2.out]; rfl
  have q2 : y1.cell? ⟨w1.heap.size, 2, none⟩ = some (.string nilS) := by simp only [World.cell?, HD2.out]; rfl
  refine (text_zero y1).mono ?_
  rintro e w2 ⟨rfl, hb⟩
  have HB3 := Lib.hid (HB2.out.trans (hb.mono HB2.out.size))
  have HC3 := Lib.hid ((hb.block _ (Nat.lt_trans hlt1 hlt2)).trans HC2.out)
  have HD3 := Lib.hid ((hb.block _ hlt2).trans HD2.out)
  have d0 : w2.cell? ⟨w.heap.size, 0, none⟩ = some (.int .i64 0) := by simp only [World.cell?, HC3.out]; rfl
  have d1 : w2.cell? ⟨w.heap.size, 1, none⟩ = some (.int .i64 0) := by simp only [World.cell?, HC3.out]; rfl
  have d2 : w2.cell? ⟨w.heap.size, 2, none⟩ = some (.string nilS) := by simp only [World.cell?, HC3.out]; rfl
  have fd0 : w2.frozen? ⟨w.heap.size, 0, none⟩ = false := by simp only [World.frozen?, HC3.out]; rfl
  have fd1 : w2.frozen? ⟨w.heap.size, 1, none⟩ = false := by simp only [World.frozen?, HC3.out]; rfl
  have fd2 : w2.frozen? ⟨w.heap.size, 2, none⟩ = false := by simp only [World.frozen?, HC3.out]; rfl
  have e0 : w2.cell? ⟨w1.heap.size, 0, none⟩ = some (.int .i64 0) := by simp only [World.cell?, HD3.out]; rfl
  have e1 : w2.cell? ⟨w1.heap.size, 1, none⟩ = some (.int .i64 0) := by simp only [World.cell?, HD3.out]; rfl
  have e2 : w2.cell? ⟨w1.heap.size, 2, none⟩ = some (.string nilS) := by simp only [World.cell?, HD3.out]; rfl
  clear hb q0 q1 q2
  go_wp2
  refine bodyPost_ret (v := .tuple #[.agg #[.int .i64 0, .int .i64 0, .string nilS], .int .i64 5]) ?_ rfl ⟨rfl, below_three HB3.out (Nat.le_refl _)⟩
  have hs := set_three (a := .int .i64 0) (c := .int .i64 0) (d := .string nilS) HC3.out
  rw [results_cell_tmp rfl]
  simp [asAddr, run_loadVar_row _ w.heap.size 23 23 #[.int .i64 0, .int .i64 0, .string nilS] (0, 0) _ hs Tryd.underlying23 rfl Tryd.size23, Result.andThen]

theorem read_neg (w : World) (htab : ∀ w', Below w.heap.size w w' → Lib.TabIs Tryd.prog w' "internal/strconv.uint64pow10" .u64 Lib.pow10Tab) : Calls Tryd.prog 4 #[.string negS] w fun e w' => e = .returned (.tuple #[.agg #[.int .i64 1, .int .i64 (-7), .string nilS], .int .i64 0]) ∧ Below w.heap.size w w' := by
  obtain ⟨W0, hW0⟩ : ∃ W0, W0 = w.alloc (.cells #[.int .i64 0, .int .i64 0, .string nilS] 23) := ⟨_, rfl⟩
  have hb := up_alloc w (.cells #[.int .i64 0, .int .i64 0, .string nilS] 23)
  rw [← hW0] at hb
  have hlt : w.heap.size < W0.heap.size := by rw [hW0]; simp
  have c : W0.heap[w.heap.size]? = some (.cells #[.int .i64 0, .int .i64 0, .string nilS] 23 (0, 0)) := by rw [hW0]; exact heap_alloc_new _ _
  have HB := Lib.hid hb
  have HC := Lib.hid c
  have HH := Lib.hid htab
  clear hb c htab
  go_enter Tryd.func4, Tryd.ntmps4
  go_wp2_with fail
  rw [← hW0]
  clear hW0
  refine (guess_neg W0).mono ?_
  rintro e w1 ⟨rfl, hb⟩
  have HB1 := Lib.hid (HB.out.trans (hb.mono HB.out.size))
  have HC1 := Lib.hid ((hb.block _ hlt).trans HC.out)
  have hlt1 := Nat.lt_of_lt_of_le hlt hb.size
  clear hb
  go_wp2_with fail
  generalize hx : w1.alloc (.cells #[.int .i64 1, .int .i64 (-7), .string nilS] 23) = y1
  have hb : Below w1.heap.size w1 y1 := by rw [← hx]; exact up_alloc _ _
  have HB2 := Lib.hid (HB1.out.trans (hb.mono HB1.out.size))
  have HC2 := Lib.hid ((hb.block _ hlt1).trans HC1.out)
  have HD2 : Hid (y1.heap[w1.heap.size]? = some (.cells #[.int .i64 1, .int .i64 (-7), .string nilS] 23 (0, 0))) := by rw [← hx]; exact heap_alloc_new _ _
  have hlt2 : w1.heap.size < y1.heap.size := by rw [← hx]; simp
  clear hx hb
  have q0 : y1.cell? ⟨w1.heap.size, 0, none⟩ = some (.int .i64 1) := by simp only [World.cell?, HD2.out]; rfl
  have q1 : y1.cell? ⟨w1.heap.size, 1, none⟩ = some (.int .i64 (-7)) := by simp only [World.cell?, HD2.out]; rfl
  have q2 : y1.cell? ⟨w1.heap.size, 2, none⟩ = some (.string nilS) := by simp only [World.cell?, HD2.out]; rfl
  refine (text_neg y1 (fun w' h => HH.out w' (HB2.out.trans (h.mono HB2.out.size)))).mono ?_
  rintro e w2 ⟨rfl, hb⟩
  have HB3 := Lib.hid (HB2.out.trans (hb.mono HB2.out.size))
  have HC3 := Lib.hid ((hb.block _ (Nat.lt_trans hlt1 hlt2)).trans HC2.out)
  have HD3 := Lib.hid ((hb.block _ hlt2).trans HD2.out)
  have d0 : w2.cell? ⟨w.heap.size, 0, none⟩ = some (.int .i64 0) := by simp only [World.cell?, HC3.out]; rfl
  have d1 : w2.cell? ⟨w.heap.size, 1, none⟩ = some (.int .i64 0) := by simp only [World.cell?, HC3.out]; rfl
  have d2 : w2.cell? ⟨w.heap.size, 2, none⟩ = some (.string nilS) := by simp only [World.cell?, HC3.out]; rfl
  have fd0 : w2.frozen? ⟨w.heap.size, 0, none⟩ = false := by simp only [World.frozen?, HC3.out]; rfl
  have fd1 : w2.frozen? ⟨w.heap.size, 1, none⟩ = false := by simp only [World.frozen?, HC3.out]; rfl
  have fd2 : w2.frozen? ⟨w.heap.size, 2, none⟩ = false := by simp only [World.frozen?, HC3.out]; rfl
  have e0 : w2.cell? ⟨w1.heap.size, 0, none⟩ = some (.int .i64 1) := by simp only [World.cell?, HD3.out]; rfl
  have e1 : w2.cell? ⟨w1.heap.size, 1, none⟩ = some (.int .i64 (-7)) := by simp only [World.cell?, HD3.out]; rfl
  have e2 : w2.cell? ⟨w1.heap.size, 2, none⟩ = some (.string nilS) := by simp only [World.cell?, HD3.out]; rfl
  clear hb q0 q1 q2
  go_wp2
  refine bodyPost_ret (v := .tuple #[.agg #[.int .i64 1, .int .i64 (-7), .string nilS], .int .i64 0]) ?_ rfl ⟨rfl, below_three HB3.out (Nat.le_refl _)⟩
  have hs := set_three (a := .int .i64 1) (c := .int .i64 (-7)) (d := .string nilS) HC3.out
  rw [results_cell_tmp rfl]
  simp [asAddr, run_loadVar_row _ w.heap.size 23 23 #[.int .i64 1, .int .i64 (-7), .string nilS] (0, 0) _ hs Tryd.underlying23 rfl Tryd.size23, Result.andThen]
end Go.Proofs.YtpbangkpbejaoaaDoor
