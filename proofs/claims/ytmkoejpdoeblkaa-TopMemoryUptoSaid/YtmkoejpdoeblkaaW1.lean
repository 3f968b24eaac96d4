/-
  The walks of slices.Clone, ownInts, dropLast and sameInts. Conditions: the lists within the form's own reach.
-/
import Derived.Test.YtmkoejpdoeblkaaK2
import Derived.Test.YtmkoejpdoeblkaaP2
import Derived.Laws.AppendOwnNone
namespace Go.Proofs.Ytmkoejpdoeblkaa
open Go.RowKit Pl

def BoolIs (w : World) (b : Bool) (e : Ending) (w' : World) : Prop := e = .returned (.bool b) ∧ Below w.heap.size w w'
theorem ret_bool {b c : Bool} (h : b = c) : Ending.returned (.bool b) = .returned (.bool c) := by rw [h]
theorem below_drewN {w wr : World} {B n : Nat} (h : Below B w wr) : Below B w (wr.drewN n) := ⟨h.os, h.tape, h.output, h.size, h.block⟩

def CloneIs (l : List Int) (w : World) (e : Ending) (w' : World) : Prop := ∃ v, e = .returned v ∧ OwnInts w' w.heap.size v l ∧ Below w.heap.size w w'

set_option maxRecDepth 100000 in
set_option maxHeartbeats 1600000 in
theorem clone_any (l : List Int) (v : Value) (w : World) (hv : IntsIn w All v l) (hl : l.length ≤ 17592186044400) :
    Calls Try.prog 16 #[v] w (CloneIs l w) := by
  obtain ⟨i3, qi, q0, q1, q2⟩ := info_parts Try.info3
  obtain ⟨a, c, rfl, hn, _⟩ := id hv
  rcases a with _ | ad
  · obtain ⟨h0, e2⟩ := hn rfl
    subst h0 e2
    have heq : ∀ w, (binOp .eql 22 (.slice none 0 0) (.slice none 0 0)).run Try.prog w = .ok (.bool true) w := fun w => Lib.run_eql_slice_nil w 22 3 none 0 0 0 0 Try.underlying22
    clear hv hn
    go_enter Try.func16, Try.ntmps16
    go_wp2
    go_ret
    exact ⟨_, rfl, OwnInts.nil _ _, Below.refl _ _⟩
  · have HNW := Lib.hid ((hv.alloc (.cells #[] 3)).news)
    have heq : ∀ w, (binOp .eql 22 (.slice (some ad) l.length c) (.slice none 0 0)).run Try.prog w = .ok (.bool false) w := fun w => Lib.run_eql_slice_nil w 22 3 (some ad) _ _ _ _ Try.underlying22
    clear hv hn
    go_enter Try.func16, Try.ntmps16
    go_wp2_with (at_builtin; refine wpList_append_own _ rfl _ _ 22 rfl w.heap.size 3 i3 (.int .i64 0) 1 8 Try.underlying22 qi q0 q1 q2 rfl (by decide) (.slice (some ⟨w.heap.size, 0, none⟩) 0 0) 0 [] rfl (World.ownsRow_made w #[] 0 (Nat.le_refl _) (by decide) rfl) ad l.length c (lits l) rfl (by rw [lits_length, Nat.mul_one]) HNW.out (lits_one _) (by unfold maxLen; omega) (by omega) (by simp) ?_; intro v' w1 hown' hgrow _)
    go_ret
    refine ⟨v', rfl, by unfold OwnInts; simpa only [Nat.zero_add, List.nil_append] using hown', ((Below.refl _ _).alloc (Nat.le_refl _) _).grown hgrow (by simp) (fun k hk => ?_)⟩
    simp [Value.ownBlock] at hk; omega

set_option maxRecDepth 100000 in
set_option maxHeartbeats 1600000 in
theorem ownInts_any (l : List Int) (v : Value) (w : World) (hv : IntsIn w All v l) (hl : l.length ≤ 17592186044400) :
    Calls Try.prog 5 #[v] w (CloneIs l w) := by
  obtain ⟨i3, qi, q0, q1, q2⟩ := info_parts Try.info3
  obtain ⟨a, c, rfl, hn, _⟩ := id hv
  rcases a with _ | ad
  · obtain ⟨h0, e2⟩ := hn rfl
    subst h0 e2
    have hrun := fun w ty => run_append_owned_none (P := Try.prog) (w := w) w.heap.size 22 ty 3 i3 1 Try.underlying22 qi (.slice none 0 0) 0 [] (World.ownsRow_nil _ _ _ _)
    clear hv hn
    go_enter Try.func5, Try.ntmps5
    go_wp2
    go_ret
    exact ⟨_, rfl, OwnInts.nil _ _, Below.refl _ _⟩
  · have HNW := Lib.hid hv.news
    clear hv hn
    go_enter Try.func5, Try.ntmps5
    go_wp2_with (at_builtin; refine wpList_append_own _ rfl _ _ 22 rfl w.heap.size 3 i3 (.int .i64 0) 1 8 Try.underlying22 qi q0 q1 q2 rfl (by decide) (.slice none 0 0) 0 [] rfl (World.ownsRow_nil _ _ _ _) ad l.length c (lits l) rfl (by rw [lits_length, Nat.mul_one]) HNW.out (lits_one _) (by unfold maxLen; omega) (by omega) (by simp) ?_; intro v' w1 hown' hgrow _)
    go_ret
    refine ⟨v', rfl, by unfold OwnInts; simpa only [Nat.zero_add, List.nil_append] using hown', (Below.refl _ _).grown hgrow (by simp) (fun k hk => ?_)⟩
    simp [Value.ownBlock] at hk

set_option maxRecDepth 100000 in
theorem dropLast_any (a : Option Addr) (n c : Nat) (w : World) (hn : n + 1 ≤ c) (hc : c ≤ 9223372036854775807) (ha : ∃ g, a = some ⟨g, 0, none⟩) :
    Calls Try.prog 31 #[.slice a (n + 1) c] w fun e w' => e = .returned (.slice a n c) ∧ w = w' := by
  obtain ⟨g, rfl⟩ := ha
  have h1 : wrap64 (((n + 1 : Nat) : Int) - 1) = (n : Int) := by unfold wrap64; omega
  go_enter Try.func31, Try.ntmps31
  go_wp2
  go_ret
  exact ⟨rfl, rfl⟩

set_option maxRecDepth 100000 in
set_option maxHeartbeats 1600000 in
theorem sameInts_any (l m : List Int) (x y : Value) (w : World) (hx : IntsIn w All x l) (hy : IntsIn w All y m) (hls : l.length ≤ 35184372088832) (hlt : m.length ≤ 35184372088832) :
    Calls Try.prog 26 #[x, y] w (BoolIs w (decide (l = m))) := by
  obtain ⟨V, hV⟩ : ∃ V, V = decide (l = m) := ⟨_, rfl⟩
  rw [← hV]
  have HV := Lib.hid hV
  clear hV
  obtain ⟨a, ca, rfl, hfa⟩ := hx.form
  obtain ⟨b, cb, rfl, hfb⟩ := hy.form
  have HX := Lib.hid hx
  have HY := Lib.hid hy
  have HFA := Lib.hid hfa
  have HFB := Lib.hid hfb
  clear hx hy hfa hfb
  by_cases hl : l.length = m.length
  · have hln : ((l.length : Int) != (l.length : Int)) = false := by simp
    have HL := Lib.hid hl
    rw [← hl] at hlt ⊢
    rw [← hl] at HY
    clear hl
    go_enter Try.func26, Try.ntmps26
    go_wp2
    clear hln
    go_loopw [13] (fun k wr => ∃ i : Nat, k = .int .i64 (i : Int) ∧ i ≤ l.length ∧ Below w.heap.size w wr ∧ Hid (EqTo l m i)) (fun k _ => l.length - (intOf k).toNat)
    case atStart => exact ⟨0, rfl, Nat.zero_le _, Below.refl _ _, EqTo.start _ _⟩
    case round =>
      obtain ⟨i, rfl, hil, hnx, hE⟩ := hrel
      have NX := Lib.hid hnx
      clear hnx
      by_cases h1 : i < l.length
      · obtain ⟨g, off, rfl⟩ := HFA.out (fun e => by rw [e] at h1; simp at h1)
        obtain ⟨g2, off2, rfl⟩ := HFB.out (fun e => by have := HL.out; rw [e] at this; rw [this] at h1; simp at h1)
        obtain ⟨x, hx⟩ : ∃ x, x = at' l i := ⟨_, rfl⟩
        obtain ⟨y, hy⟩ : ∃ y, y = at' m i := ⟨_, rfl⟩
        have hA : wr.cell? ⟨g, off + i, none⟩ = some (.int .i64 x) := by
          rw [hx]; exact (HX.out.below NX.out).at h1
        have hB : wr.cell? ⟨g2, off2 + i, none⟩ = some (.int .i64 y) := by
          rw [hy]
          have := HY.out.below NX.out
          rw [HL.out] at this
          exact this.at (by have := HL.out; omega)
        by_cases he : x = y
        · have HE := Lib.hid (hE.out.round hx hy he)
          have hb : (x != x) = false := by simp
          subst he
          clear hx hy hE
          go_wp2_with fail
          go_quiet (fail)
          generalize hW : wr.drewN _ = w2
          have hnx2 : Below w.heap.size w w2 := by rw [← hW]; exact below_drewN NX.out
          clear hW hA hB hb NX
          go_wp2
          go_roundw
          case rel => exact ⟨i + 1, by go_num, by omega, hnx2, HE.out⟩
          case measure => simp only [intOf]; omega
        · have HR := Lib.hid (show V = false by rw [HV.out]; exact decide_eq_false (EqTo.not hx hy he))
          have hb : (x != y) = true := by simpa using he
          clear hx hy hE he HV
          go_wp2_with fail
          go_quiet (fail)
          generalize hW : wr.drewN _ = w2
          have hnx2 : Below w.heap.size w w2 := by rw [← hW]; exact below_drewN NX.out
          clear hW hA hB NX
          go_wp2
          go_ret
          exact ⟨ret_bool HR.out.symm, hnx2⟩
      · have e : i = l.length := by omega
        have HR := Lib.hid (show V = true by rw [HV.out]; exact decide_eq_true (EqTo.full HL.out (by rw [← e]; exact hE.out)))
        clear e
        go_wp2
        go_ret
        exact ⟨ret_bool HR.out.symm, NX.out⟩
  · have hln : ((l.length : Int) != (m.length : Int)) = true := by simp; omega
    have HR := Lib.hid (show V = false by rw [HV.out]; exact decide_eq_false (fun e => hl (by rw [e])))
    clear hl HV
    go_enter Try.func26, Try.ntmps26
    go_wp2
    go_ret
    exact ⟨ret_bool HR.out.symm, Below.refl _ _⟩
end Go.Proofs.Ytmkoejpdoeblkaa
