/-
  The walks of a nil net's calls and of edictlaw10.silent: it returns true. No condition.
-/
import Derived.Test.YtlandkindbmbfaaW22
import Derived.Test.YtlandkindbmbfaaW20
namespace Go.Proofs.Ytlandkindbmbfaa
open Go.RowKit Plain

theorem addnil_any (p : Int) (u : Value) (w : World) : Calls Try.prog 43 #[.pointer none, .int .i64 p, u] w (TupIs [] 0 w) := by
  go_enter Try.func43, Try.ntmps43
  go_wp2
  go_ret2
  exact ⟨_, rfl, OwnInts.nil _ _, Below.refl _ _⟩
theorem rowsnil_any (m : Int) (w : World) : Calls Try.prog 48 #[.pointer none, .int .i64 m] w (TupIs [] 0 w) := by
  go_enter Try.func48, Try.ntmps48
  go_wp2
  go_ret2
  exact ⟨_, rfl, OwnInts.nil _ _, Below.refl _ _⟩
theorem lennil_any (w : World) : Calls Try.prog 37 #[.pointer none] w fun e w' => e = .returned (.int .i64 0) ∧ w = w' := by
  go_enter Try.func37, Try.ntmps37
  go_wp2
  go_ret
  exact ⟨rfl, rfl⟩
theorem undonil_any (m : Int) (w : World) : Calls Try.prog 46 #[.pointer none, .int .i64 m] w fun e w' => e = .returned (.int .i64 0) ∧ w = w' := by
  go_enter Try.func46, Try.ntmps46
  go_wp2
  go_ret
  exact ⟨rfl, rfl⟩

theorem own_len {w : World} {B : Nat} {v : Value} {l : List Int} (h : OwnInts w B v l) : ∃ a c, v = .slice a l.length c := by
  rcases Joins.ownsRow_forms h with ⟨rfl, h0⟩ | ⟨g, cap, rfl⟩
  · exact ⟨_, _, by rw [h0]⟩
  · exact ⟨_, _, rfl⟩

set_option maxRecDepth 100000 in
set_option maxHeartbeats 6400000 in
theorem silent_any (w : World) : Calls Try.prog 49 #[] w (BoolIs w true) := by
  have HNN := Lib.hid (fun (w' : World) => new_any [] (.slice none 0 0) w' ⟨none, 0, rfl, .inl rfl⟩ (fun a n c e => by simp only [Value.slice.injEq] at e; omega) (fun s hs => by cases hs) (by simp))
  go_enter Try.func49, Try.ntmps49
  go_wp2_with fail
  refine (addnil_any _ _ _).mono ?_
  rintro e w1 ⟨v1, rfl, hv1, hb1⟩
  obtain ⟨a1, c1, rfl⟩ := own_len hv1
  have B1 := Lib.hid ((up_alloc w (.cells #[.int .i64 1] 3)).trans (hb1.mono (by simp)))
  clear hv1 hb1
  go_wp2_with fail
  refine (rowsnil_any _ _).mono ?_
  rintro e w2 ⟨v2, rfl, hv2, hb2⟩
  obtain ⟨a2, c2, rfl⟩ := own_len hv2
  have B2 := Lib.hid (B1.out.trans (hb2.mono B1.out.size))
  clear hv2 hb2
  go_wp2_with fail
  refine (lennil_any _).mono ?_
  rintro e w3 ⟨rfl, rfl⟩
  go_wp2_with fail
  refine (undonil_any _ _).mono ?_
  rintro e w3 ⟨rfl, rfl⟩
  go_wp2_with fail
  refine (HNN.out w2).mono ?_
  rintro e w4 (⟨hbad, _⟩ | ⟨_, G, X, mv, ms, rfl, hnet, hb4, hG0⟩)
  · cases hbad
  have B4 := Lib.hid (B2.out.trans (hb4.mono B2.out.size))
  have HN := Lib.hid (hnet.up (up_alloc w4 (.cells #[.int .i64 1] 3)))
  have hg4 : G w4.heap.size = 0 := hnet.zero _ (Nat.le_refl _)
  have HAD := Lib.hid (add_yes HN.out (by simp) (fun s hs => by cases hs) (fun s hs => by cases hs) (by omega) (fun i hi => by simp at hi) 0 [1] (.slice (some ⟨w4.heap.size, 0, none⟩) 1 1)
    ⟨_, _, rfl, .inr ⟨w4.heap.size, 0, rfl, by simp, fun j hj => by have : j = 0 := (by simp at hj; omega); subst this; simp [at']⟩⟩ (fun _ k hk => by have : w4.heap.size = k := (by simpa [Value.ownBlock] using hk); rw [← this, hg4]; decide) (by simp) (by omega) (by decide))
  have hz4 := B4.out.size
  have HG0 := Lib.hid hG0
  clear hnet hb4 hG0 hg4 HNN
  go_wp2_with fail
  refine HAD.out.mono ?_
  rintro e w5 ⟨v5, G5, rfl, hA⟩
  obtain ⟨a5, c5, rfl⟩ := own_len hA.own
  have HA := Lib.hid hA
  have B5 : Hid (Below w.heap.size w w5) := (B4.out.alloc hz4 _).trans (hA.turned.below (by simp; omega) (fun k hk => by rw [HG0.out k (Nat.lt_of_lt_of_le hk B2.out.size)]; decide))
  have HRN := Lib.hid (rows_no hA.net 0 (by simp [thereB]))
  have HLN := Lib.hid (fun (w' : World) (hb : Below w5.heap.size w5 w') => len_any (hA.net.up hb))
  clear hA HAD
  go_wp2_with fail
  refine HRN.out.mono ?_
  rintro e w6 ⟨v6, rfl, hv6, hb6⟩
  obtain ⟨a6, c6, rfl⟩ := own_len hv6
  have B6 := Lib.hid (B5.out.trans (hb6.mono B5.out.size))
  have HL := Lib.hid (HLN.out w6 hb6)
  clear hv6 hb6 HRN HLN
  go_wp2_with fail
  refine HL.out.mono ?_
  rintro e w7 ⟨rfl, rfl⟩
  go_wp2
  go_ret
  exact ⟨rfl, B6.out⟩

end Go.Proofs.Ytlandkindbmbfaa
