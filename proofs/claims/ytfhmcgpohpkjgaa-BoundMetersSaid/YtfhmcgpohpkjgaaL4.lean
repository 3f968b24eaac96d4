/-
  The walk of the law BoundSums: it returns true and leaves what was in memory. Conditions: the slice reads as uint64 values within the form's own reach.
-/
import Derived.Test.YtfhmcgpohpkjgaaW5
import Derived.Test.YtfhmcgpohpkjgaaL2
import Derived.Laws.AppendOwnNone
namespace Go.Proofs.Ytfhmcgpohpkjgaa
open Go.RowKit Plain

def TrueIs (w : World) (e : Ending) (w' : World) : Prop := e = .returned (.bool true) ∧ Below w.heap.size w w'

set_option maxRecDepth 100000 in
set_option maxHeartbeats 800000 in
theorem same_any (l : List Nat) (v u : Value) (w : World) (hv : ReadsO w w.heap.size v l) (hu : ReadsO w w.heap.size u l) (hl : l.length ≤ 35184372088832) :
    Calls Try.prog 22 #[v, u] w (TrueIs w) := by
  obtain ⟨a, c, rfl, ha⟩ := hv
  obtain ⟨b, d, rfl, hb⟩ := hu
  have hne : ((l.length : Int) != (l.length : Int)) = false := by simp
  by_cases h0 : l = []
  · subst h0
    clear ha hb hne
    go_enter Try.func22, Try.ntmps22
    go_wp2
    refine wp_loop_rounds 1 ?_
    rw [rounds_succ]
    go_wp2
    go_ret
    exact ⟨rfl, Below.refl _ _⟩
  · obtain ⟨g, off, rfl, hg, hc⟩ := ha.resolve_left h0
    obtain ⟨h, off2, rfl, hh, hd⟩ := hb.resolve_left h0
    clear ha hb
    go_enter Try.func22, Try.ntmps22
    go_wp2
    go_loopw [13] (fun k wr => ∃ i : Nat, k = .int .i64 (i : Int) ∧ i ≤ l.length ∧ Below w.heap.size w wr) (fun k _ => l.length - (intOf k).toNat)
    case atStart => exact ⟨0, rfl, Nat.zero_le _, Below.refl _ _⟩
    case round =>
      obtain ⟨i, rfl, hil, hnx⟩ := hrel
      by_cases h1 : i < l.length
      · obtain ⟨x, hx⟩ : ∃ x : Nat, x = l[i]?.getD 0 := ⟨_, rfl⟩
        have hA : wr.cell? ⟨g, off + i, none⟩ = some (.int .u64 (x : Int)) := by rw [hx]; exact (hnx.cell (p := ⟨g, off + i, none⟩) hg).trans (hc i h1)
        have hB : wr.cell? ⟨h, off2 + i, none⟩ = some (.int .u64 (x : Int)) := by rw [hx]; exact (hnx.cell (p := ⟨h, off2 + i, none⟩) hh).trans (hd i h1)
        have h3 : (i : Int) < (l.length : Int) := by omega
        clear hx hc hd h0 hne
        go_wp2_with fail
        go_quiet (fail)
        generalize hW : wr.drewN _ = w2
        have hnx2 : Below w.heap.size w w2 := by rw [← hW]; exact ⟨hnx.os, hnx.tape, hnx.output, hnx.size, hnx.block⟩
        clear hW hA hB hnx
        go_wp2
        go_roundw
        case rel => exact ⟨i + 1, by go_num, by omega, hnx2⟩
        case measure => simp only [intOf]; omega
      · clear hne
        go_wp2
        go_ret
        exact ⟨rfl, hnx⟩

/-- The cells of a row of uint64 values read as they were put. -/
theorem readsO_of_owns {w : World} {B g cap : Nat} {l m : List Nat} (h : w.ownsRow B 22 1 (.slice (some ⟨g, 0, none⟩) (l ++ m).length cap) (l ++ m).length (dig (l ++ m))) (c' : Nat) :
    ReadsO w w.heap.size (.slice (some ⟨g, 0, none⟩) l.length c') l := by
  refine ⟨_, c', rfl, ?_⟩
  refine .inr ⟨g, 0, rfl, (h.lt g rfl).2, fun j hj => ?_⟩
  rw [Nat.zero_add, h.cellAt j (by simp; omega), dig_get _ j (by simp; omega), List.getElem?_append_left hj]

theorem own_cap {w : World} {B g n cap : Nat} {xs : List Value} (h : w.ownsRow B 22 1 (.slice (some ⟨g, 0, none⟩) n cap) n xs) : n ≤ cap := by
  rcases h.2 with ⟨h', _⟩ | ⟨g', cap', cur, h', _, _, hn, _⟩
  · simp at h'
  · simp only [Value.slice.injEq, Option.some.injEq, Addr.mk.injEq, and_true, true_and] at h'
    omega

set_option maxRecDepth 100000 in
set_option maxHeartbeats 1600000 in
theorem sums_walk (l : List Nat) (v : Value) (w : World) (hv : ReadsO w w.heap.size v l) (hnil : ∀ n c, v = .slice none n c → n = 0 ∧ c = 0) (hu : U64s l) (hl : l.length ≤ 17592186043904) :
    Calls Try.prog 5 #[v] w (TrueIs w) := by
  obtain ⟨i0, hi, hz0, hz1, hz2⟩ := info_parts Try.info22
  have hv' := hv
  obtain ⟨a, cap, rfl, ha⟩ := hv
  have hcells : ∀ ad, a = some ad → ∀ j u, (dig l)[j]? = some u → w.cell? (ad.add j) = some u := by
    intro ad had j u hju
    have hj : j < l.length := by
      rw [← dig_length]
      exact (List.getElem?_eq_some_iff.1 hju).1
    rcases ha with h0 | ⟨g, off, h1, _, hc⟩
    · subst h0; simp at hj
    · rw [had] at h1
      obtain rfl := Option.some.inj h1
      have e : (⟨g, off, none⟩ : Addr).add j = ⟨g, off + j, none⟩ := by unfold Addr.add; split <;> simp_all
      rw [e, hc j hj, ← hju, dig_get l j hj]
  have hone : ∀ u ∈ dig l, u.oneCell' = true := by intro u hu; simp [dig] at hu; obtain ⟨d, _, rfl⟩ := hu; rfl
  have hlc : (dig l).length = l.length * 1 := by rw [dig_length, Nat.mul_one]
  have HC := Lib.hid hcells
  have HL := Lib.hid hlc
  have ha' := ha
  clear hcells hlc ha
  rcases a with _ | ad
  · have hl0 : l = [] := by
      rcases ha' with h0 | ⟨g, off, h1, _⟩
      · exact h0
      · cases h1
    subst hl0
    obtain ⟨_, rfl⟩ := hnil _ _ rfl
    go_enter Try.func5, Try.ntmps5
    go_wp2_with (first | (at_builtin; refine wpList_append_own_none rfl (.tmp 5) _ 25 rfl w.heap.size 22 i0 1 Try.underlying25 hi _ _ _ rfl (World.ownsRow_nil _ _ _ _) rfl ?_) | (at_builtin; refine wpList_append_own _ rfl (.tmp 8) _ 25 rfl w.heap.size 22 i0 (.int .u64 0) 1 8 Try.underlying25 hi hz0 hz1 hz2 rfl (by decide) _ _ _ rfl ((World.ownsRow_nil w w.heap.size 22 1).alloc _) ⟨w.heap.size, 0, none⟩ 1 1 [.int .u64 77] rfl rfl (cell_one_new _ _ _) (one_u64 _) (by unfold maxLen; omega) (by omega) (by simp) ?_; intro v2 w2 hown2 hgrow2 hnil2; (try simp only [Nat.zero_add, List.nil_append] at hown2); clear hnil2; obtain ⟨g2, cap2, hv2⟩ := Joins.ownsRow_form hown2 (by omega); rw [hv2] at hown2 ⊢; have hcap := own_cap hown2; clear hv2))
    have hs2 : w.heap.size + 1 ≤ w2.heap.size := by have := hgrow2.size; simp at this; omega
    obtain ⟨S, hS⟩ : ∃ S, sat ([] : List Nat).sum = S := ⟨_, rfl⟩
    have HS := Lib.hid hS
    clear hS
    have hB2 := Lib.hid (((Below.refl w.heap.size w).alloc (Nat.le_refl _) _).grown hgrow2 (by simp) (fun k hk => by cases hk))
    have hr2 : ReadsO w2 w2.heap.size (.slice (some ⟨g2, 0, none⟩) ([] : List Nat).length cap2) [] := readsO_of_owns (l := []) (m := [77]) hown2 cap2
    have hx2 : ReadsO w2 w2.heap.size (.slice none 0 0) [] := (hv'.below hB2.out).mono (by omega)
    have h77 : w2.cell? ⟨g2, 0, none⟩ = some (.int .u64 77) := by
      rw [hown2.cellAt 0 (by omega)]; rfl
    have hg2 := (hown2.lt g2 rfl).2
    have H77 := Lib.hid h77
    clear h77 hown2 hgrow2 hone
    refine (sum_to [] S _ w2 hr2 hu (by omega) HS.out).mono ?_
    rintro e w' ⟨rfl, rfl⟩
    go_wp2_with fail
    refine (refSum_any [] _ w2 hx2 hu (by omega)).mono ?_
    rintro e w3 ⟨rfl, hb3⟩
    rw [HS.out]
    have hz3 := hb3.size
    go_wp2_with fail
    refine (same_any [] _ _ w3 ((hr2.below hb3).mono (by omega)) ((hx2.below hb3).mono (by omega)) (by omega)).mono ?_
    rintro e w4 ⟨rfl, hb4⟩
    have hz4 := hb4.size
    have h77 : w4.cell? ⟨g2, 0, none⟩ = some (.int .u64 77) := (hb4.cell (p := ⟨g2, 0, none⟩) (show g2 < w3.heap.size by omega)).trans ((hb3.cell (p := ⟨g2, 0, none⟩) hg2).trans H77.out)
    have HB := Lib.hid (hB2.out.trans ((hb3.mono (by omega)).trans (hb4.mono (by omega))))
    clear hb3 hb4 hr2 hx2
    have hll : (0 : Int) < (0 : Int) + 1 := by omega
    go_wp2_with fail
    refine (sum_to [] 0 _ _ ⟨none, 0, rfl, .inl rfl⟩ (fun j => by simp) (by simp) rfl).mono ?_
    rintro e w' ⟨rfl, rfl⟩
    go_wp2
    go_ret
    exact ⟨rfl, HB.out⟩

  · clear ha' hnil
    go_enter Try.func5, Try.ntmps5
    go_wp2_with (first | (at_builtin; refine wpList_append_own _ rfl (.tmp 5) _ 25 rfl w.heap.size 22 i0 (.int .u64 0) 1 8 Try.underlying25 hi hz0 hz1 hz2 rfl (by decide) _ _ _ rfl (World.ownsRow_nil _ _ _ _) ad l.length cap (dig l) rfl HL.out (HC.out ad rfl) hone (by unfold maxLen; omega) (by omega) (by omega) ?_; intro v1 w1 hown1 hgrow1 hnil1; simp only [Nat.zero_add, List.nil_append] at hown1; have hs1 := hgrow1.size; clear hnil1) | (at_builtin; refine wpList_append_own _ rfl (.tmp 8) _ 25 rfl w.heap.size 22 i0 (.int .u64 0) 1 8 Try.underlying25 hi hz0 hz1 hz2 rfl (by decide) _ _ _ rfl (hown1.alloc _) ⟨w1.heap.size, 0, none⟩ 1 1 [.int .u64 77] rfl rfl (cell_one_new _ _ _) (one_u64 _) (by unfold maxLen; omega) (by omega) (by simp; omega) ?_; intro v2 w2 hown2 hgrow2 hnil2; clear hnil2; obtain ⟨g2, cap2, hv2⟩ := Joins.ownsRow_form hown2 (by omega); rw [hv2] at hown2 ⊢; have hcap := own_cap hown2; clear hv2))
    have hs2 : w1.heap.size + 1 ≤ w2.heap.size := by have := hgrow2.size; simp at this; omega
    obtain ⟨S, hS⟩ : ∃ S, sat l.sum = S := ⟨_, rfl⟩
    have HS := Lib.hid hS
    clear hS
    have hB2 := Lib.hid (((Below.refl _ _).grown hgrow1 (Nat.le_refl _) (fun k hk => by cases hk)).trans (((Below.refl w.heap.size w1).alloc hs1 _).grown hgrow2 (by simp; omega) (fun k hk => (hown1.lt k hk).1)))
    have hr2 : ReadsO w2 w2.heap.size (.slice (some ⟨g2, 0, none⟩) l.length cap2) l := readsO_of_owns (m := [77]) (by rw [dig_snoc, List.length_append, List.length_singleton]; exact hown2) cap2
    have hx2 : ReadsO w2 w2.heap.size (.slice (some ad) l.length cap) l := (hv'.below hB2.out).mono (by omega)
    have h77 : w2.cell? ⟨g2, l.length, none⟩ = some (.int .u64 77) := by
      rw [hown2.cellAt l.length (by omega), List.getElem?_append_right (by rw [dig_length]; exact Nat.le_refl _), dig_length, Nat.sub_self]; rfl
    have hg2 := (hown2.lt g2 rfl).2
    have H77 := Lib.hid h77
    clear h77 hown2 hgrow2 hown1 hgrow1 hone
    refine (sum_to l S _ w2 hr2 hu (by omega) HS.out).mono ?_
    rintro e w' ⟨rfl, rfl⟩
    go_wp2_with fail
    refine (refSum_any l _ w2 hx2 hu (by omega)).mono ?_
    rintro e w3 ⟨rfl, hb3⟩
    rw [HS.out]
    have hz3 := hb3.size
    go_wp2_with fail
    refine (same_any l _ _ w3 ((hr2.below hb3).mono (by omega)) ((hx2.below hb3).mono (by omega)) (by omega)).mono ?_
    rintro e w4 ⟨rfl, hb4⟩
    have hz4 := hb4.size
    have h77 : w4.cell? ⟨g2, l.length, none⟩ = some (.int .u64 77) := (hb4.cell (p := ⟨g2, l.length, none⟩) (show g2 < w3.heap.size by omega)).trans ((hb3.cell (p := ⟨g2, l.length, none⟩) hg2).trans H77.out)
    have HB := Lib.hid (hB2.out.trans ((hb3.mono (by omega)).trans (hb4.mono (by omega))))
    clear hb3 hb4 hr2 hx2
    have hll : (l.length : Int) < (l.length : Int) + 1 := by omega
    go_wp2_with fail
    refine (sum_to [] 0 _ _ ⟨none, 0, rfl, .inl rfl⟩ (fun j => by simp) (by simp) rfl).mono ?_
    rintro e w' ⟨rfl, rfl⟩
    go_wp2
    go_ret
    exact ⟨rfl, HB.out⟩

end Go.Proofs.Ytfhmcgpohpkjgaa
