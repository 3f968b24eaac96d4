/-
  The walks of sym.guess and sym.Read at a canonical text. Conditions: a constant; a number's reach; the table of powers.
-/
import Derived.Test.YtijmogehmcjopaaDoorW17
namespace Go.Proofs.YtijmogehmcjopaaDoor
open Go.RowKit Go.Shelf Ct

theorem set_three {w : World} {b : Nat} {x y z a c d : Value} {t : TypeId} {f : Nat × Nat} (h : w.heap[b]? = some (.cells #[x, y, z] t f)) :
    (((w.setCell ⟨b, 0, none⟩ a).setCell ⟨b, 1, none⟩ c).setCell ⟨b, 2, none⟩ d).heap[b]? = some (.cells #[a, c, d] t f) :=
  Joins.block_setCell (Joins.block_setCell (Joins.block_setCell h a) c) d
theorem below_three {w w2 : World} {B b : Nat} {a c d : Value} (h : Below B w w2) (hb : B ≤ b) : Below B w (((w2.setCell ⟨b, 0, none⟩ a).setCell ⟨b, 1, none⟩ c).setCell ⟨b, 2, none⟩ d) :=
  ((h.setCell hb a).setCell hb c).setCell hb d
/-- Three cells, read and free to write. -/
theorem three_cells {w : World} {b : Nat} {x y z : Value} {t : TypeId} (h : w.heap[b]? = some (.cells #[x, y, z] t (0, 0))) :
    w.cell? ⟨b, 0, none⟩ = some x ∧ w.cell? ⟨b, 1, none⟩ = some y ∧ w.cell? ⟨b, 2, none⟩ = some z ∧ w.frozen? ⟨b, 0, none⟩ = false ∧ w.frozen? ⟨b, 1, none⟩ = false ∧ w.frozen? ⟨b, 2, none⟩ = false := by
  refine ⟨?_, ?_, ?_, ?_, ?_, ?_⟩ <;> simp [World.cell?, World.frozen?, h]
theorem size26 : (Tryd.prog.info? 26).map (·.size) = some 3 := by kernel_rfl
def nilB : ByteArray := ⟨#[]⟩
theorem nilB_mk : (⟨([] : List UInt8).toArray⟩ : ByteArray) = nilB := rfl

theorem parse44 (s : ByteArray) (v : Int) (hs : s.size ≤ 100) (h : Lib.parseIntB 64 (L s) = .ok v) (w : World) :
    Calls Tryd.prog 44 #[.string s, .int .i64 10, .int .i64 64] w fun e w' => e = .returned (.tuple #[.int .i64 v, .nilIface]) ∧ Below w.heap.size w w' := by
  refine (Any.strconv_ParseInt_10_at64_ok Tryd.laysC174 s (by omega) v h w).mono ?_
  rintro e w' ⟨rfl, h⟩
  refine ⟨rfl, ?_⟩
  rcases h with rfl | ⟨t, rfl⟩
  · exact Below.refl _ _
  · exact Joins.below_bytesWorld _ w _ _ (Nat.le_refl _)
theorem itoa_len (n : Int) (h : InR n) : (Lib.itoa n).length ≤ 21 := by
  rcases Int.lt_or_le n 0 with hn | hn
  · obtain ⟨u, rfl⟩ : ∃ u : Nat, n = -(u : Int) := ⟨n.natAbs, by omega⟩
    rw [Lib.itoa_neg u (by omega)]
    have := dec_len 19 u (by have := h.1; omega)
    simp; omega
  · obtain ⟨u, rfl⟩ : ∃ u : Nat, n = (u : Int) := ⟨n.toNat, by omega⟩
    rw [Lib.itoa_nonneg]
    have := dec_len 19 u (by have := h.2; omega)
    omega
theorem itoa_name (n : Int) : nameP (Lib.itoa n) = false := by
  obtain ⟨b, r, e, hb⟩ := itoa_head n
  rw [e, nameP]
  have hl : lowB b = false := by simp [lowB]; omega
  simp [wordP, hl]
theorem name_head {l : List UInt8} (h : nameP l = true) : ∃ b r, l = b :: r ∧ 97 ≤ b.toNat := by
  cases l with
  | nil => simp [nameP, wordP] at h
  | cons b r =>
    refine ⟨b, r, rfl, ?_⟩
    simp [nameP, wordP, lowB] at h
    omega
theorem valid_2 {c : Cn} (hv : valid c = true) (h : c.kind = 2) : c.int = 0 ∧ nameP c.text = true := by
  unfold valid at hv
  rw [if_neg (by omega), if_pos h] at hv
  simpa using hv
theorem valid_3 {c : Cn} (hv : valid c = true) (h : c.kind = 3) : c.int = 0 := by
  unfold valid at hv
  rw [if_neg (by omega), if_neg (by omega), if_pos h] at hv
  simp at hv
  exact hv.1
theorem valid_1 {c : Cn} (hv : valid c = true) (h : c.kind = 1) : c.text = [] := by
  unfold valid at hv
  rw [if_pos h] at hv
  simpa using hv
theorem cnV_of {c : Cn} {k i : Int} {t : List UInt8} (h1 : c.kind = k) (h2 : c.int = i) (h3 : c.text = t) : cnV c = .agg #[.int .i64 k, .int .i64 i, .string ⟨t.toArray⟩] := by rw [cnV, h1, h2, h3]

set_option maxRecDepth 100000 in
set_option maxHeartbeats 6400000 in
theorem guess_any (c : Cn) (hv : valid c = true) (hin : InR c.int) (s : ByteArray) (hs : L s = textC c) (w : World) : Calls Tryd.prog 25 #[.string s] w fun e w' => e = .returned (cnV c) ∧ Below w.heap.size w w' := by
  obtain ⟨b, hb⟩ : ∃ b, b = w.heap.size := ⟨_, rfl⟩
  obtain ⟨w1, hw1⟩ : ∃ w1, w1 = w.alloc (.cells #[.int .i64 0, .int .i64 0, .string nilB] 26) := ⟨_, rfl⟩
  have HB1 : Hid (Below b w w1) := Lib.hid (by rw [hw1, hb]; exact up_alloc _ _)
  have HC1 : Hid (w1.heap[b]? = some (.cells #[.int .i64 0, .int .i64 0, .string nilB] 26 (0, 0))) := Lib.hid (by rw [hw1, hb]; exact heap_alloc_new _ _)
  have hlt : b < w1.heap.size := by rw [hw1, hb]; simp
  have HBE := Lib.hid hb
  have hlen := L_len s
  go_enter Tryd.func25, Tryd.ntmps25
  go_upto_region 1 with fail
  change Code.wp Tryd.prog _ _ _ (w.alloc (.cells #[.int .i64 0, .int .i64 0, .string nilB] 26))
  rw [← hw1, ← hb]
  clear hw1 hb
  rcases valid_kind hv with k | k | k
  · have hL : L s = Lib.itoa c.int := by rw [hs, textC_1 hv k]
    obtain ⟨x, r, hx, hx2⟩ := itoa_head c.int
    have hsz : s.size ≤ 21 := by rw [← hlen, hL]; exact itoa_len _ hin
    have hx0 : (L s)[0]? = some x := by rw [hL, hx]; rfl
    have hi0 : ∀ w, (Instr.index 9 (.string s) (.int .i64 0)).run Tryd.prog w = .ok (.int .u8 (x.toNat : Int)) w := idx_at (p := 0) hx0
    have e1 : ((x.toNat : Int) == 34) = false := by simp; omega
    have cn := isName_any s w1
    rw [hL, itoa_name] at cn
    have cp := fun w => parse44 s c.int (by omega) (by rw [hL]; exact read_itoa _ hin.1 hin.2) w
    have HV : Hid (cnV c = .agg #[.int .i64 1, .int .i64 c.int, .string nilB]) := Lib.hid (cnV_of k rfl (valid_1 hv k))
    clear hlen hsz hx hx2 hx0 hL hs k hv hin
    by_cases h2 : 2 ≤ s.size
    · have h2I : (2 : Int) ≤ (s.size : Int) := by omega
      clear h2
      go_upto_region 7 with (go_at_call 24; refine cn.mono ?_; rintro e w2 ⟨rfl, hb2⟩)
      have cp2 := cp w2
      go_upto_region 8 with (go_at_call 44; refine cp2.mono ?_; rintro e w3 ⟨rfl, hb3⟩)
      have HB3 : Hid (Below b w w3) := Lib.hid (HB1.out.trans ((hb2.trans (hb3.mono hb2.size)).mono (by omega)))
      have HC3 : Hid (w3.heap[b]? = some (.cells #[.int .i64 0, .int .i64 0, .string nilB] 26 (0, 0))) := Lib.hid (((hb2.trans (hb3.mono hb2.size)).block b hlt).trans HC1.out)
      obtain ⟨d0, d1, d2, f0, f1, f2⟩ := three_cells HC3.out
      clear cn cp cp2 hi0 hb2 hb3
      go_wp2
      refine bodyPost_ret (results_cell_row rfl _ _ b 26 #[.int .i64 1, .int .i64 c.int, .string nilB] (0, 0) _ rfl (set_three HC3.out) Tryd.underlying26 rfl size26) rfl ?_
      exact ⟨congrArg Ending.returned HV.out.symm, by have h := below_three (a := .int .i64 1) (c := .int .i64 c.int) (d := .string nilB) HB3.out (Nat.le_refl b); rw [HBE.out] at h ⊢; exact h⟩
    · have h2I : (s.size : Int) < 2 := by omega
      clear h2
      go_upto_region 7 with (go_at_call 24; refine cn.mono ?_; rintro e w2 ⟨rfl, hb2⟩)
      have cp2 := cp w2
      go_upto_region 8 with (go_at_call 44; refine cp2.mono ?_; rintro e w3 ⟨rfl, hb3⟩)
      have HB3 : Hid (Below b w w3) := Lib.hid (HB1.out.trans ((hb2.trans (hb3.mono hb2.size)).mono (by omega)))
      have HC3 : Hid (w3.heap[b]? = some (.cells #[.int .i64 0, .int .i64 0, .string nilB] 26 (0, 0))) := Lib.hid (((hb2.trans (hb3.mono hb2.size)).block b hlt).trans HC1.out)
      obtain ⟨d0, d1, d2, f0, f1, f2⟩ := three_cells HC3.out
      clear cn cp cp2 hi0 hb2 hb3
      go_wp2
      refine bodyPost_ret (results_cell_row rfl _ _ b 26 #[.int .i64 1, .int .i64 c.int, .string nilB] (0, 0) _ rfl (set_three HC3.out) Tryd.underlying26 rfl size26) rfl ?_
      exact ⟨congrArg Ending.returned HV.out.symm, by have h := below_three (a := .int .i64 1) (c := .int .i64 c.int) (d := .string nilB) HB3.out (Nat.le_refl b); rw [HBE.out] at h ⊢; exact h⟩
  · have hL : L s = c.text := by rw [hs, textC_2 hv k]
    obtain ⟨x, r, hx, hx2⟩ := name_head (valid_2 hv k).2
    have hx0 : (L s)[0]? = some x := by rw [hL, hx]; rfl
    have hi0 : ∀ w, (Instr.index 9 (.string s) (.int .i64 0)).run Tryd.prog w = .ok (.int .u8 (x.toNat : Int)) w := idx_at (p := 0) hx0
    have e1 : ((x.toNat : Int) == 34) = false := by simp; omega
    have cn := isName_any s w1
    rw [hL, (valid_2 hv k).2] at cn
    have HV : Hid (cnV c = .agg #[.int .i64 2, .int .i64 0, .string s]) := Lib.hid (by rw [cnV_of k (valid_2 hv k).1 rfl, ← hL]; rfl)
    clear hlen hx hx2 hx0 hL hs k hv hin
    by_cases h2 : 2 ≤ s.size
    · have h2I : (2 : Int) ≤ (s.size : Int) := by omega
      clear h2
      go_upto_region 6 with (go_at_call 24; refine cn.mono ?_; rintro e w2 ⟨rfl, hb2⟩)
      have HB3 : Hid (Below b w w2) := Lib.hid (HB1.out.trans (hb2.mono (by omega)))
      have HC3 : Hid (w2.heap[b]? = some (.cells #[.int .i64 0, .int .i64 0, .string nilB] 26 (0, 0))) := Lib.hid ((hb2.block b hlt).trans HC1.out)
      obtain ⟨d0, d1, d2, f0, f1, f2⟩ := three_cells HC3.out
      clear cn hi0 hb2
      go_wp2
      refine bodyPost_ret (results_cell_row rfl _ _ b 26 #[.int .i64 2, .int .i64 0, .string s] (0, 0) _ rfl (set_three HC3.out) Tryd.underlying26 rfl size26) rfl ?_
      exact ⟨congrArg Ending.returned HV.out.symm, by have h := below_three (a := .int .i64 2) (c := .int .i64 0) (d := .string s) HB3.out (Nat.le_refl b); rw [HBE.out] at h ⊢; exact h⟩
    · have h2I : (s.size : Int) < 2 := by omega
      clear h2
      go_upto_region 6 with (go_at_call 24; refine cn.mono ?_; rintro e w2 ⟨rfl, hb2⟩)
      have HB3 : Hid (Below b w w2) := Lib.hid (HB1.out.trans (hb2.mono (by omega)))
      have HC3 : Hid (w2.heap[b]? = some (.cells #[.int .i64 0, .int .i64 0, .string nilB] 26 (0, 0))) := Lib.hid ((hb2.block b hlt).trans HC1.out)
      obtain ⟨d0, d1, d2, f0, f1, f2⟩ := three_cells HC3.out
      clear cn hi0 hb2
      go_wp2
      refine bodyPost_ret (results_cell_row rfl _ _ b 26 #[.int .i64 2, .int .i64 0, .string s] (0, 0) _ rfl (set_three HC3.out) Tryd.underlying26 rfl size26) rfl ?_
      exact ⟨congrArg Ending.returned HV.out.symm, by have h := below_three (a := .int .i64 2) (c := .int .i64 0) (d := .string s) HB3.out (Nat.le_refl b); rw [HBE.out] at h ⊢; exact h⟩
  · have hL : L s = 34 :: (inner c.text ++ [34]) := by rw [hs, textC_3 hv k]; rfl
    obtain ⟨m, hm⟩ : ∃ m, m = (inner c.text).length + 1 := ⟨_, rfl⟩
    have hsz : s.size = m + 1 := by rw [← hlen, hL, hm]; simp
    have hx0 : (L s)[0]? = some 34 := by rw [hL]; rfl
    have hxm : (L s)[m]? = some 34 := by rw [hL, hm, List.getElem?_cons_succ, List.getElem?_append_right (Nat.le_refl _)]; simp
    have hi0 : ∀ w, (Instr.index 9 (.string s) (.int .i64 0)).run Tryd.prog w = .ok (.int .u8 34) w := idx_at (p := 0) hx0
    have hi1 : ∀ w, (Instr.index 9 (.string s) (.int .i64 (m : Int))).run Tryd.prog w = .ok (.int .u8 34) w := idx_at (p := m) hxm
    have hin1 := inner_len c.text
    have ht := valid_len hv k
    have hw1 : IntKind.i64.wrap ((s.size : Int) - 1) = (m : Int) := by rw [IntKind.wrap_i64]; omega
    have cu := unquoted_any (s.extract 1 m) c.text (by rw [L_extract, hL, hm]; simp) ht w1
    have HV : Hid (cnV c = .agg #[.int .i64 3, .int .i64 0, .string ⟨c.text.toArray⟩]) := Lib.hid (cnV_of k (valid_3 hv k) rfl)
    have h2I : (2 : Int) ≤ (s.size : Int) := by omega
    have hs1 : (1 : Int) ≤ (m : Int) := by omega
    have hs2 : (m : Int) ≤ (s.size : Int) := by omega
    clear hlen hx0 hxm hL hs k hv hin hm hin1 ht hsz
    go_upto_region 3 with (go_at_call 43; refine cu.mono ?_; rintro e w2 ⟨rfl, hb2⟩)
    have HB3 : Hid (Below b w w2) := Lib.hid (HB1.out.trans (hb2.mono (by omega)))
    have HC3 : Hid (w2.heap[b]? = some (.cells #[.int .i64 0, .int .i64 0, .string nilB] 26 (0, 0))) := Lib.hid ((hb2.block b hlt).trans HC1.out)
    obtain ⟨d0, d1, d2, f0, f1, f2⟩ := three_cells HC3.out
    clear cu hi0 hi1 hb2
    go_wp2
    refine bodyPost_ret (results_cell_row rfl _ _ b 26 #[.int .i64 3, .int .i64 0, .string ⟨c.text.toArray⟩] (0, 0) _ rfl (set_three HC3.out) Tryd.underlying26 rfl size26) rfl ?_
    exact ⟨congrArg Ending.returned HV.out.symm, by have h := below_three (a := .int .i64 3) (c := .int .i64 0) (d := .string ⟨c.text.toArray⟩) HB3.out (Nat.le_refl b); rw [HBE.out] at h ⊢; exact h⟩
theorem textC_ne {c : Cn} (hv : valid c = true) : textC c ≠ [] := by
  rcases valid_kind hv with k | k | k
  · rw [textC_1 hv k]; obtain ⟨b, r, e, _⟩ := itoa_head c.int; rw [e]; simp
  · rw [textC_2 hv k]; obtain ⟨b, r, e, _⟩ := name_head (valid_2 hv k).2; rw [e]; simp
  · rw [textC_3 hv k]; simp [Ct.quoted]

set_option maxRecDepth 100000 in
set_option maxHeartbeats 6400000 in
theorem read_any (c : Cn) (hv : valid c = true) (hin : InR c.int) (w : World) (ht : Tab w) : Calls Tryd.prog 10 #[.string ⟨(textC c).toArray⟩] w fun e w' => e = .returned (.tuple #[cnV c, .int .i64 0]) ∧ Below w.heap.size w w' := by
  have hg := fun w => guess_any c hv hin ⟨(textC c).toArray⟩ (L_mk _) w
  have htx := fun w => text_any c hin w
  have hne := textC_ne hv
  obtain ⟨l, hl⟩ : ∃ l, l = textC c := ⟨_, rfl⟩
  rw [← hl] at hg htx hne ⊢
  have e0 : (l == []) = false := by rw [beq_eq_false_iff_ne]; exact hne
  have e1 : (l != []) = true := by simp [bne, e0]
  clear hl hv hin hne
  obtain ⟨W0, hW0⟩ : ∃ W0, W0 = w.alloc (.cells #[.int .i64 0, .int .i64 0, .string nilB] 26) := ⟨_, rfl⟩
  have hb := up_alloc w (.cells #[.int .i64 0, .int .i64 0, .string nilB] 26)
  rw [← hW0] at hb
  have hlt : w.heap.size < W0.heap.size := by rw [hW0]; simp
  have HC : Hid (W0.heap[w.heap.size]? = some (.cells #[.int .i64 0, .int .i64 0, .string nilB] 26 (0, 0))) := Lib.hid (by rw [hW0]; exact heap_alloc_new _ _)
  have HB := Lib.hid hb
  clear hb
  have HH := Lib.hid ht
  clear ht
  have hgw := hg W0
  unfold cnV at hgw
  go_enter Tryd.func10, Tryd.ntmps10
  go_upto_region 1 with fail
  change Code.wp Tryd.prog _ _ _ (w.alloc (.cells #[.int .i64 0, .int .i64 0, .string nilB] 26))
  rw [← hW0]
  clear hW0
  go_upto_region 2 with (go_at_call 25; refine hgw.mono ?_; rintro e w1 ⟨rfl, hb1⟩)
  have HB1 := Lib.hid (HB.out.trans (hb1.mono HB.out.size))
  have HC1 := Lib.hid ((hb1.block _ hlt).trans HC.out)
  have hlt1 := Nat.lt_of_lt_of_le hlt hb1.size
  clear hb1
  generalize hx : w1.alloc (.cells #[.int .i64 c.kind, .int .i64 c.int, .string ⟨c.text.toArray⟩] 26) = y1
  have hb : Below w1.heap.size w1 y1 := by rw [← hx]; exact up_alloc _ _
  have HB2 := Lib.hid (HB1.out.trans (hb.mono HB1.out.size))
  have HC2 := Lib.hid ((hb.block _ hlt1).trans HC1.out)
  have HD2 : Hid (y1.heap[w1.heap.size]? = some (.cells #[.int .i64 c.kind, .int .i64 c.int, .string ⟨c.text.toArray⟩] 26 (0, 0))) := by rw [← hx]; exact heap_alloc_new _ _
  have hlt2 : w1.heap.size < y1.heap.size := by rw [← hx]; simp
  clear hx hb
  have htw := htx y1 (HH.out.up HB2.out)
  unfold cnV at htw
  obtain ⟨q0, q1, q2, _, _, _⟩ := three_cells HD2.out
  go_upto_region 3 with (go_at_call 5; refine htw.mono ?_; rintro e w2 ⟨rfl, hb2⟩)
  have HB3 := Lib.hid (HB2.out.trans (hb2.mono HB2.out.size))
  have HC3 := Lib.hid ((hb2.block _ (Nat.lt_trans hlt1 hlt2)).trans HC2.out)
  have HD3 := Lib.hid ((hb2.block _ hlt2).trans HD2.out)
  obtain ⟨d0, d1, d2, fd0, fd1, fd2⟩ := three_cells HC3.out
  obtain ⟨e0, e1, e2, _, _, _⟩ := three_cells HD3.out
  clear hb2 q0 q1 q2 htw hgw hg htx
  go_wp2
  refine bodyPost_ret (v := .tuple #[.agg #[.int .i64 c.kind, .int .i64 c.int, .string ⟨c.text.toArray⟩], .int .i64 0]) ?_ rfl ⟨rfl, below_three HB3.out (Nat.le_refl _)⟩
  have hs := set_three (a := .int .i64 c.kind) (c := .int .i64 c.int) (d := .string ⟨c.text.toArray⟩) HC3.out
  rw [results_cell_tmp rfl]
  simp [asAddr, run_loadVar_row _ w.heap.size 26 26 #[.int .i64 c.kind, .int .i64 c.int, .string ⟨c.text.toArray⟩] (0, 0) _ hs Tryd.underlying26 rfl size26, Result.andThen]
end Go.Proofs.YtijmogehmcjopaaDoor
