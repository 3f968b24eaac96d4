/-
  The walk of sym.Text: the canonical text. Conditions: a number's reach; the table of powers as it stands at the start.
-/
import Derived.Test.YtijmogehmcjopaaDoorW13
import Derived.Test.YtijmogehmcjopaaDoorW9
import Derived.Lib.AppendIntMem
namespace Go.Proofs.YtijmogehmcjopaaDoor
open Go.RowKit Go.Shelf Ct

theorem str_tells (w : World) : StrTells w := by
  intro G B b l w' h hB hb
  obtain ⟨p, v, hp, hbk, ho, h1, _⟩ := h.at'
  have hA : Lib.IsBuilder 70 5 B b (Lib.byteCells l) w' := by
    rcases hp with rfl | rfl
    · exact .inl ⟨h.lo, v, hbk, by simpa [Lib.byteCells_length] using ho, h1⟩
    · exact .inr ⟨h.lo, v, hbk, by simpa [Lib.byteCells_length] using ho, h1⟩
  exact Any.Builder_String_any Tryd.lays169 Tryd.Builder_Extra_169 B b l w' hA hB

/-- The powers of ten that FormatInt reads. -/
def Tab (w : World) : Prop := Lib.TabIs Tryd.prog w "internal/strconv.uint64pow10" .u64 Lib.pow10Tab
theorem Tab.up {w w' : World} (h : Tab w) (hb : Below w.heap.size w w') : Tab w' := Lib.tabBelow_of_tabIs h w' hb
/-- A number of 64 bits. -/
def InR (n : Int) : Prop := -9223372036854775808 ≤ n ∧ n ≤ 9223372036854775807
theorem format_any (n : Int) (hn : InR n) (w : World) (ht : Tab w) : Calls Tryd.prog 20 #[.int .i64 n, .int .i64 10] w fun e w' => e = .returned (.string ⟨(Lib.itoa n).toArray⟩) ∧ Below w.heap.size w w' := by
  refine (Any.strconv_FormatInt_10 Tryd.laysM173 n hn.1 hn.2 w ht).mono ?_
  rintro e w' ⟨rfl, k, os, rfl⟩
  exact ⟨rfl, Lib.below_grow _ w (Nat.le_refl _) k os⟩

theorem textC_1 {c : Cn} (hv : valid c = true) (h : c.kind = 1) : textC c = Lib.itoa c.int := by rw [textC, if_pos hv, if_pos h]
theorem textC_2 {c : Cn} (hv : valid c = true) (h : c.kind = 2) : textC c = c.text := by rw [textC, if_pos hv, if_neg (by omega), if_pos h]
theorem textC_3 {c : Cn} (hv : valid c = true) (h : c.kind = 3) : textC c = Ct.quoted c.text := by rw [textC, if_pos hv, if_neg (by omega), if_neg (by omega)]
theorem textC_0 {c : Cn} (hv : valid c = false) : textC c = [] := by rw [textC, hv]; rfl
theorem valid_kind {c : Cn} (hv : valid c = true) : c.kind = 1 ∨ c.kind = 2 ∨ c.kind = 3 := by
  unfold valid at hv
  split at hv
  · omega
  split at hv
  · omega
  split at hv
  · omega
  · cases hv
theorem valid_len {c : Cn} (hv : valid c = true) (h : c.kind = 3) : c.text.length ≤ 255 := by
  unfold valid at hv
  rw [if_neg (by omega), if_neg (by omega), if_pos h] at hv
  simp at hv
  exact hv.2

set_option maxRecDepth 100000 in
set_option maxHeartbeats 3200000 in
theorem text_any (c : Cn) (hin : InR c.int) (w : World) (ht : Tab w) : Calls Tryd.prog 5 #[cnV c] w fun e w' => e = .returned (.string ⟨(textC c).toArray⟩) ∧ Below w.heap.size w w' := by
  obtain ⟨w2, hw2⟩ : ∃ w2, w2 = w.alloc (cnO c) := ⟨_, rfl⟩
  have c0 : w2.cell? ⟨w.heap.size, 0, none⟩ = some (.int .i64 c.kind) := by rw [hw2]; exact (cell_three _ _ _ _ _).1
  have c1 : w2.cell? ⟨w.heap.size, 1, none⟩ = some (.int .i64 c.int) := by rw [hw2]; exact (cell_three _ _ _ _ _).2.1
  have c2 : w2.cell? ⟨w.heap.size, 2, none⟩ = some (.string ⟨c.text.toArray⟩) := by rw [hw2]; exact (cell_three _ _ _ _ _).2.2
  have HB : Hid (Below w.heap.size w w2) := Lib.hid (by rw [hw2]; exact up_alloc _ _)
  have hlt : w.heap.size < w2.heap.size := by rw [hw2]; simp
  obtain ⟨V, hV⟩ : ∃ V, V = textC c := ⟨_, rfl⟩
  rw [← hV]
  have HV := Lib.hid hV
  have HT : Hid (Tab w2) := Lib.hid (ht.up HB.out)
  clear hV ht
  have hcon := valid_any c w2
  go_enter Tryd.func5, Tryd.ntmps5
  unfold cnV
  go_upto_region 1 with fail
  change Code.wp Tryd.prog _ _ _ (w.alloc (cnO c))
  rw [← hw2]
  have HW2 := Lib.hid hw2
  clear hw2
  by_cases hv : valid c = true
  · rw [hv] at hcon
    have hG : ∀ b w3, Below w2.heap.size w2 w3 → b < w2.heap.size → w3.heap[b]? = w2.heap[b]? := fun b w3 h hb => h.block b hb
    have HVA := Lib.hid hv
    clear hv
    go_upto_region 3 with (go_at_call 8; refine hcon.mono ?_; rintro e w3 ⟨rfl, hb3⟩)
    have c0' : w3.cell? ⟨w.heap.size, 0, none⟩ = some (.int .i64 c.kind) := (hb3.cell (p := ⟨w.heap.size, 0, none⟩) hlt).trans c0
    have c1' : w3.cell? ⟨w.heap.size, 1, none⟩ = some (.int .i64 c.int) := (hb3.cell (p := ⟨w.heap.size, 1, none⟩) hlt).trans c1
    have c2' : w3.cell? ⟨w.heap.size, 2, none⟩ = some (.string ⟨c.text.toArray⟩) := (hb3.cell (p := ⟨w.heap.size, 2, none⟩) hlt).trans c2
    have HB3 := Lib.hid (show Below w.heap.size w w3 from HB.out.trans (hb3.mono (by omega)))
    have HT3 : Hid (Tab w3) := Lib.hid (HT.out.up hb3)
    have hsz : w.heap.size ≤ w3.heap.size := HB3.out.size
    clear c0 c1 c2 hG hb3 hcon
    by_cases k1 : c.kind = 1
    · have e1 : (c.kind == 1) = true := by simp [k1]
      have hV : Hid (V = Lib.itoa c.int) := Lib.hid (by rw [HV.out, textC_1 HVA.out k1])
      have hf := format_any c.int hin w3 HT3.out
      clear k1
      go_wp2_with (go_at_call 20; refine hf.mono ?_; rintro e w4 ⟨rfl, hb4⟩)
      all_goals go_ret
      all_goals exact ⟨by first | (rw [hV.out]; done) | (rw [hV.out]; rfl) | rfl, HB3.out.trans (hb4.mono hsz)⟩
    have e1 : (c.kind == 1) = false := by simp [k1]
    by_cases k2 : c.kind = 2
    · have e2 : (c.kind == 2) = true := by simp [k2]
      have hV : Hid (V = c.text) := Lib.hid (by rw [HV.out, textC_2 HVA.out k2])
      clear k1 k2
      go_wp2
      all_goals go_ret
      all_goals exact ⟨by first | (rw [hV.out]; done) | (rw [hV.out]; rfl) | rfl, HB3.out⟩
    have e2 : (c.kind == 2) = false := by simp [k2]
    have k3 : c.kind = 3 := by rcases valid_kind HVA.out with h | h | h <;> omega
    have hV : Hid (V = Ct.quoted c.text) := Lib.hid (by rw [HV.out, textC_3 HVA.out k3])
    have hq := quoted_any ⟨c.text.toArray⟩ w3 (by rw [size_mk]; exact valid_len HVA.out k3) (str_tells w3)
    rw [L_mk, ← hV.out] at hq
    clear k1 k2 k3
    go_wp2_with (go_at_call 21; refine hq.mono ?_; rintro e w4 ⟨rfl, hb4⟩)
    all_goals go_ret
    all_goals exact ⟨rfl, HB3.out.trans (hb4.mono hsz)⟩
  · have hv' : valid c = false := by simpa using hv
    rw [hv'] at hcon
    have hV : Hid (V = []) := Lib.hid (by rw [HV.out, textC_0 hv'])
    have hsz : w.heap.size ≤ w2.heap.size := by omega
    clear hv hv'
    go_wp2_with (go_at_call 8; refine hcon.mono ?_; rintro e w3 ⟨rfl, hb3⟩)
    all_goals go_ret
    all_goals exact ⟨by rw [hV.out]; rfl, HB.out.trans (hb3.mono hsz)⟩
end Go.Proofs.YtijmogehmcjopaaDoor
