/-
  The walk of the law BoundSplits: it returns true and leaves what was in memory. Conditions: the cut's parts read as rules and nodes within the form's own reach.
-/
import Derived.Test.YtfhmcgpohpkjgaaW9
import Derived.Test.YtfhmcgpohpkjgaaO3
namespace Go.Proofs.Ytfhmcgpohpkjgaa
open Go.RowKit Plain

theorem addr_add (g off k : Nat) : (⟨g, off, none⟩ : Addr).add k = ⟨g, off + k, none⟩ := by
  unfold Addr.add; split
  · rename_i h; subst h; rfl
  · rfl

theorem RulesAt.heap {w w' : World} {B : Nat} {v : Value} {l : List Nat} (h : RulesAt w B v l) (e : w'.heap = w.heap) : RulesAt w' B v l := by
  obtain ⟨a, cap, rfl, h⟩ := h
  refine ⟨a, cap, rfl, ?_⟩
  have hc : ∀ p, w'.cell? p = w.cell? p := fun p => World.cell?_of_block (by rw [e])
  rcases h with rfl | ⟨g, off, rfl, hg, hcc⟩
  · exact .inl rfl
  · refine .inr ⟨g, off, rfl, hg, fun j hj => ?_⟩
    obtain ⟨p, q, a1, a2, a3, a4, a5, n1, n2, n3, n4, c1, c2, c3, c4, c5, h0, h1, h2, h3, h4, h5, h6⟩ := hcc j hj
    exact ⟨p, q, a1, a2, a3, a4, a5, n1, n2, n3, n4, c1, c2, c3, c4, c5, by rw [hc, h0], by rw [hc, h1], by rw [hc, h2], by rw [hc, h3], by rw [hc, h4], by rw [hc, h5], by rw [hc, h6]⟩

theorem rules_drop_ne {w : World} {B : Nat} {ad : Addr} {n c : Nat} {ms : List Nat} (h : RulesAt w B (.slice (some ad) n c) ms) (i : Nat) (hi : i ≤ n) :
    RulesAt w B (.slice (some (ad.add (i * 7))) (n - i) (c - i)) (ms.drop i) := by
  obtain ⟨a, cap, e, h⟩ := h
  simp only [Value.slice.injEq] at e
  obtain ⟨rfl, rfl, rfl⟩ := e
  refine ⟨_, _, by rw [List.length_drop], ?_⟩
  by_cases hd : ms.drop i = []
  · exact .inl hd
  · have hil : i < ms.length := by
      rcases Nat.lt_or_ge i ms.length with h1 | h1
      · exact h1
      · exact absurd (List.drop_eq_nil_of_le h1) hd
    rcases h with rfl | ⟨g, off, h1, hg, hc⟩
    · simp at hil
    · obtain rfl := Option.some.inj h1
      refine .inr ⟨g, off + i * 7, by rw [addr_add], hg, fun j hj => ?_⟩
      have := hc (i + j) (by rw [List.length_drop] at hj; omega)
      rw [List.getElem?_drop, show off + i * 7 + j * 7 = off + (i + j) * 7 by omega]
      exact this
theorem rules_drop_eq {w : World} {B : Nat} {U : Option Addr} {i : Nat} {ms : List Nat} (h : RulesAt w B (.slice U i i) ms) : RulesAt w B (.slice U 0 0) (ms.drop i) := by
  obtain ⟨a, cap, e, _⟩ := h
  simp only [Value.slice.injEq] at e
  have hd : ms.drop i = [] := List.drop_eq_nil_of_le (by omega)
  exact ⟨U, 0, by rw [hd]; rfl, .inl hd⟩

theorem rules_take {w : World} {B : Nat} {U : Option Addr} {n c : Nat} {ms : List Nat} (h : RulesAt w B (.slice U n c) ms) (i : Nat) (hi : i ≤ n) :
    RulesAt w B (.slice U i c) (ms.take i) := by
  obtain ⟨a, cap, e, h⟩ := h
  simp only [Value.slice.injEq] at e
  obtain ⟨rfl, rfl, rfl⟩ := e
  have hl : (ms.take i).length = i := by rw [List.length_take]; omega
  refine ⟨_, _, by rw [hl], ?_⟩
  rcases h with rfl | ⟨g, off, h1, hg, hc⟩
  · exact .inl (by simp)
  · refine .inr ⟨g, off, h1, hg, fun j hj => ?_⟩
    rw [hl] at hj
    rw [List.getElem?_take, if_pos hj]; exact hc j (by omega)
theorem vars_take {ms : List Nat} (h : Vars ms) (i : Nat) : Vars (ms.take i) := fun j => by
  rw [List.getElem?_take]; split
  · exact h j
  · simp
theorem vars_drop {ms : List Nat} (h : Vars ms) (i : Nat) : Vars (ms.drop i) := fun j => by
  rw [List.getElem?_drop]; exact h _

theorem NodesAt.heap {w w' : World} {B : Nat} {v : Value} {l : List (Int × Int)} (h : NodesAt w B v l) (e : w'.heap = w.heap) : NodesAt w' B v l := by
  obtain ⟨a, cap, rfl, h⟩ := h
  refine ⟨a, cap, rfl, ?_⟩
  have hc : ∀ p, w'.cell? p = w.cell? p := fun p => World.cell?_of_block (by rw [e])
  rcases h with rfl | ⟨g, off, rfl, hg, hcc⟩
  · exact .inl rfl
  · refine .inr ⟨g, off, rfl, hg, fun j hj => ?_⟩
    obtain ⟨p, q, r, s, t, b1, b2, a1, a2, n1, n2, c1, c2, h0, h1, h2, h3, h4, h5, h6, h7, h8, h9, h10⟩ := hcc j hj
    exact ⟨p, q, r, s, t, b1, b2, a1, a2, n1, n2, c1, c2, by rw [hc, h0], by rw [hc, h1], by rw [hc, h2], by rw [hc, h3], by rw [hc, h4], by rw [hc, h5], by rw [hc, h6], by rw [hc, h7], by rw [hc, h8], by rw [hc, h9], by rw [hc, h10]⟩

theorem nodes_drop_ne {w : World} {B : Nat} {ad : Addr} {n c : Nat} {ms : List (Int × Int)} (h : NodesAt w B (.slice (some ad) n c) ms) (i : Nat) (hi : i ≤ n) :
    NodesAt w B (.slice (some (ad.add (i * 11))) (n - i) (c - i)) (ms.drop i) := by
  obtain ⟨a, cap, e, h⟩ := h
  simp only [Value.slice.injEq] at e
  obtain ⟨rfl, rfl, rfl⟩ := e
  refine ⟨_, _, by rw [List.length_drop], ?_⟩
  by_cases hd : ms.drop i = []
  · exact .inl hd
  · have hil : i < ms.length := by
      rcases Nat.lt_or_ge i ms.length with h1 | h1
      · exact h1
      · exact absurd (List.drop_eq_nil_of_le h1) hd
    rcases h with rfl | ⟨g, off, h1, hg, hc⟩
    · simp at hil
    · obtain rfl := Option.some.inj h1
      refine .inr ⟨g, off + i * 11, by rw [addr_add], hg, fun j hj => ?_⟩
      have := hc (i + j) (by rw [List.length_drop] at hj; omega)
      rw [List.getElem?_drop, show off + i * 11 + j * 11 = off + (i + j) * 11 by omega]
      exact this
theorem nodes_drop_eq {w : World} {B : Nat} {U : Option Addr} {i : Nat} {ms : List (Int × Int)} (h : NodesAt w B (.slice U i i) ms) : NodesAt w B (.slice U 0 0) (ms.drop i) := by
  obtain ⟨a, cap, e, _⟩ := h
  simp only [Value.slice.injEq] at e
  have hd : ms.drop i = [] := List.drop_eq_nil_of_le (by omega)
  exact ⟨U, 0, by rw [hd]; rfl, .inl hd⟩

theorem nodes_take {w : World} {B : Nat} {U : Option Addr} {n c : Nat} {ms : List (Int × Int)} (h : NodesAt w B (.slice U n c) ms) (i : Nat) (hi : i ≤ n) :
    NodesAt w B (.slice U i c) (ms.take i) := by
  obtain ⟨a, cap, e, h⟩ := h
  simp only [Value.slice.injEq] at e
  obtain ⟨rfl, rfl, rfl⟩ := e
  have hl : (ms.take i).length = i := by rw [List.length_take]; omega
  refine ⟨_, _, by rw [hl], ?_⟩
  rcases h with rfl | ⟨g, off, h1, hg, hc⟩
  · exact .inl (by simp)
  · refine .inr ⟨g, off, h1, hg, fun j hj => ?_⟩
    rw [hl] at hj
    rw [List.getElem?_take, if_pos hj]; exact hc j (by omega)
theorem wid_take {ms : List (Int × Int)} (h : Wid ms) (i : Nat) : Wid (ms.take i) := fun j => by
  rw [List.getElem?_take]; split
  · exact h j
  · simp
theorem wid_drop {ms : List (Int × Int)} (h : Wid ms) (i : Nat) : Wid (ms.drop i) := fun j => by
  rw [List.getElem?_drop]; exact h _
theorem lit_rules (w : World) {A : Obj} : RulesAt ((w.alloc A).alloc (.cells #[.int .i64 0, .slice none 0 0, .slice none 0 0, .slice none 0 0, .slice none 0 0, .slice (some ⟨w.heap.size, 0, none⟩) 3 3, .int .i64 0] 63))
    ((w.alloc A).alloc (.cells #[.int .i64 0, .slice none 0 0, .slice none 0 0, .slice none 0 0, .slice none 0 0, .slice (some ⟨w.heap.size, 0, none⟩) 3 3, .int .i64 0] 63)).heap.size
    (.slice (some ⟨w.heap.size + 1, 0, none⟩) 1 1) [3] := by
  refine ⟨_, 1, rfl, .inr ⟨w.heap.size + 1, 0, rfl, by simp, fun j hj => ?_⟩⟩
  obtain rfl : j = 0 := by simp at hj; omega
  have e : ∀ k, ((w.alloc A).alloc (.cells #[.int .i64 0, .slice none 0 0, .slice none 0 0, .slice none 0 0, .slice none 0 0, .slice (some ⟨w.heap.size, 0, none⟩) 3 3, .int .i64 0] 63)).cell? ⟨w.heap.size + 1, k, none⟩ =
      (#[Value.int .i64 0, .slice none 0 0, .slice none 0 0, .slice none 0 0, .slice none 0 0, .slice (some ⟨w.heap.size, 0, none⟩) 3 3, .int .i64 0] : Array Value)[k]? := fun k => World.cell?_alloc_at _ _ _ _ (by simp)
  exact ⟨0, 0, none, none, none, none, _, 0, 0, 0, 0, 0, 0, 0, 0, 3, e _, e _, e _, e _, e _, e _, e _⟩
theorem vars3 : Vars [3] := fun j => by
  match j with
  | 0 => simp
  | j + 1 => simp
theorem nil3 : ∃ a n c, (Value.slice none 0 0) = .slice a n c := ⟨_, _, _, rfl⟩

set_option maxRecDepth 100000 in
set_option maxHeartbeats 3200000 in
theorem splits_walk (d : Int) (D : Nat) (hd : IntIs d D) (ms : List Nat) (ns : List (Int × Int)) (U V : Option Addr) (n c m c2 : Nat) (at' : Int) (w : World) (hr : RulesAt w w.heap.size (.slice U n c) ms) (hv : Vars ms) (hn : n ≤ 17592186043904) (hnc : n ≤ c) (hU : U = none → c = 0) (hVn : V = none → c2 = 0)
    (hs : NodesAt w w.heap.size (.slice V m c2) ns) (hw : Wid ns) (hm : m ≤ 17592186043904) (hmc : m ≤ c2) :
    Calls Try.prog 15 #[.agg #[.int .i64 d, .slice U n c, .slice V m c2, .int .i64 at']] w fun e w' => e = .returned (.bool true) ∧ Below w.heap.size w w' := by
  have HD := Lib.hid hd
  have hdl : -9223372036854775808 ≤ d := by unfold IntIs at hd; omega
  have hdu : d ≤ 9223372036854775807 := by unfold IntIs at hd; omega
  obtain ⟨D', hD'⟩ : ∃ D' : Nat, D' = (d + 1).toNat := ⟨_, rfl⟩
  have hDD : D ≤ D' := by unfold IntIs at hd; omega
  have HD' : Hid (d < 4611686018427387904 → IntIs (d + 1) D') := fun h => by rw [hD']; exact IntIs.mk (by omega)
  obtain ⟨F', hF'⟩ : ∃ F, sat (fsum D' ms) = F := ⟨_, rfl⟩
  obtain ⟨G', hG'⟩ : ∃ F, sat (tsum D' ns) = F := ⟨_, rfl⟩
  have hFm := fsum_mono ms hDD
  have hGm := tsum_mono ns hDD
  rw [hF'] at hFm
  rw [hG'] at hGm
  have HF' := Lib.hid hF'
  have HG' := Lib.hid hG'
  have HFM := Lib.hid hFm
  have HGM := Lib.hid hGm
  clear hFm hGm hF' hG' hD' hDD
  have hb0 : Below w.heap.size w (w.alloc (.cells #[.int .i64 d, .slice U n c, .slice V m c2, .int .i64 at'] 73)) := (Below.refl _ _).alloc (Nat.le_refl _) _
  clear hd
  go_enter Try.func15, Try.ntmps15
  go_wp2_with fail
  generalize hW : w.alloc (.cells #[.int .i64 d, .slice U n c, .slice V m c2, .int .i64 at'] 73) = wb at hb0 ⊢
  have k0 : wb.cell? ⟨w.heap.size, 0, none⟩ = some (.int .i64 d) := by rw [← hW]; simp [World.cell?_alloc_at]
  have k1 : wb.cell? ⟨w.heap.size, 1, none⟩ = some (.slice U n c) := by rw [← hW]; simp [World.cell?_alloc_at]
  have k2 : wb.cell? ⟨w.heap.size, 2, none⟩ = some (.slice V m c2) := by rw [← hW]; simp [World.cell?_alloc_at]
  have k3 : wb.cell? ⟨w.heap.size, 3, none⟩ = some (.int .i64 at') := by rw [← hW]; simp [World.cell?_alloc_at]
  have hlt : w.heap.size < wb.heap.size := by rw [← hW]; simp
  clear hW
  go_quiet (fail)
  generalize hW : wb.drewN _ = wc
  have hbc : Below w.heap.size w wc := by rw [← hW]; exact ⟨hb0.os, hb0.tape, hb0.output, hb0.size, hb0.block⟩
  have j3 : wc.cell? ⟨w.heap.size, 3, none⟩ = some (.int .i64 at') := by rw [← hW]; exact k3
  have hltc : w.heap.size < wc.heap.size := by rw [← hW]; exact hlt
  clear hW k0 k1 k2 k3 hb0 hlt
  have hrc := (hr.below hbc).mono (Nat.le_of_lt hltc)
  have hsc := (hs.below hbc).mono (Nat.le_of_lt hltc)
  go_wp2_with fail
  refine (mod_any at' _ (by omega) wc).mono ?_
  rintro e w' ⟨i, rfl, hi, rfl⟩
  have hin : i ≤ n := by omega
  clear hi
  go_wp2_with fail
  refine (mod_any at' _ (by omega) wc).mono ?_
  rintro e w' ⟨j, rfl, hj, rfl⟩
  have hjm : j ≤ m := by omega
  clear hj
  have hlen : ms.length = n := by obtain ⟨a, cap, e, _⟩ := hr; simp only [Value.slice.injEq] at e; omega
  have hlens : ns.length = m := by obtain ⟨a, cap, e, _⟩ := hs; simp only [Value.slice.injEq] at e; omega
  have HL := Lib.hid hlen
  have HLS := Lib.hid hlens
  have q1 : ms.length ≤ 17592186043904 := by omega
  have q2 : ns.length ≤ 17592186043904 := by omega
  obtain ⟨F, hF⟩ : ∃ F, sat (fsum D ms) = F := ⟨_, rfl⟩
  obtain ⟨F1, hF1⟩ : ∃ F, sat (fsum D (ms.take i)) = F := ⟨_, rfl⟩
  obtain ⟨F2, hF2⟩ : ∃ F, sat (fsum D (ms.drop i)) = F := ⟨_, rfl⟩
  have HF12 := Lib.hid (show sat (F1 + F2) = F by rw [← hF1, ← hF2, ← hF]; exact fsum_split D ms i)
  obtain ⟨G, hG⟩ : ∃ F, sat (tsum D ns) = F := ⟨_, rfl⟩
  obtain ⟨G1, hG1⟩ : ∃ F, sat (tsum D (ns.take j)) = F := ⟨_, rfl⟩
  obtain ⟨G2, hG2⟩ : ∃ F, sat (tsum D (ns.drop j)) = F := ⟨_, rfl⟩
  have HG12 := Lib.hid (show sat (G1 + G2) = G by rw [← hG1, ← hG2, ← hG]; exact tsum_split D ns j)
  have HG := Lib.hid hG
  have HG1 := Lib.hid hG1
  have HG2 := Lib.hid hG2
  clear hG hG1 hG2
  have HF := Lib.hid hF
  have HF1 := Lib.hid hF1
  have HF2 := Lib.hid hF2
  clear hlen hlens hF hF1 hF2
  go_wp2_with fail
  refine (firings_any d D HD.out ms _ wc hrc hv (by omega)).mono ?_
  rintro e w1 ⟨rfl, hb1⟩
  rw [HF.out]
  have hz1 := hb1.size
  have hr1 := (hrc.below hb1).mono hz1
  have hs1 := (hsc.below hb1).mono hz1
  go_wp2_with fail
  have t1 := rules_take hr1 i hin
  have hI0 : (0 : Int) ≤ (i : Int) := by omega
  have hI1 : (i : Int) ≤ (n : Int) := by omega
  have hI2 : (i : Int) ≤ (c : Int) := by omega
  have T1 : ∀ wx : World, wx.heap = w1.heap → RulesAt wx wx.heap.size (.slice U i c) (ms.take i) := fun wx e => by rw [e]; exact t1.heap e
  rcases (show (c = i ∧ n = i) ∨ (c ≠ i ∧ ∃ ad, U = some ad) by
    rcases U with _ | ad
    · left; have := hU rfl; omega
    · by_cases h : c = i
      · left; omega
      · right; exact ⟨h, ad, rfl⟩) with ⟨rfl, rfl⟩ | ⟨hne, ad, rfl⟩
  case' inl =>
    go_region_held3 (fun _ => True) (trivial)
      (first
        | (go_at_call_of 26 (Value.slice U n n); refine (firings_any d D HD.out (ms.take n) _ _ (by exact T1 _ rfl) (vars_take hv n) (by rw [List.length_take]; omega)).mono ?_; rintro e w2 ⟨rfl, hb2'⟩; rw [HF1.out]; have hb2 : Below w1.heap.size w1 w2 := ⟨hb2'.os, hb2'.tape, hb2'.output, hb2'.size, hb2'.block⟩; clear hb2'; have hz2 := hb2.size; have r2 := (hr1.below hb2).mono hz2; have T2 : ∀ wx : World, wx.heap = w2.heap → RulesAt wx wx.heap.size _ (ms.drop n) := fun wx e => by rw [e]; exact (rules_drop_eq r2).heap e)
        | (go_at_call 26; refine (firings_any d D HD.out (ms.drop n) _ _ (by exact T2 _ rfl) (vars_drop hv n) (by rw [List.length_drop]; omega)).mono ?_; rintro e w3 ⟨rfl, hb3'⟩; rw [HF2.out]; have hb3 : Below w2.heap.size w2 w3 := ⟨hb3'.os, hb3'.tape, hb3'.output, hb3'.size, hb3'.block⟩; clear hb3'; have hz3 := hb3.size)
        | (go_at_call 16; refine (add_to F1 F2 F HF12.out _).mono ?_; rintro e w' ⟨rfl, rfl⟩))
  case' inr =>
    go_region_held3 (fun _ => True) (trivial)
      (first
        | (go_at_call_of 26 (Value.slice (some ad) i c); refine (firings_any d D HD.out (ms.take i) _ _ (by exact T1 _ rfl) (vars_take hv i) (by rw [List.length_take]; omega)).mono ?_; rintro e w2 ⟨rfl, hb2'⟩; rw [HF1.out]; have hb2 : Below w1.heap.size w1 w2 := ⟨hb2'.os, hb2'.tape, hb2'.output, hb2'.size, hb2'.block⟩; clear hb2'; have hz2 := hb2.size; have r2 := (hr1.below hb2).mono hz2; have T2 : ∀ wx : World, wx.heap = w2.heap → RulesAt wx wx.heap.size _ (ms.drop i) := fun wx e => by rw [e]; exact (rules_drop_ne r2 i hin).heap e)
        | (go_at_call 26; refine (firings_any d D HD.out (ms.drop i) _ _ (by exact T2 _ rfl) (vars_drop hv i) (by rw [List.length_drop]; omega)).mono ?_; rintro e w3 ⟨rfl, hb3'⟩; rw [HF2.out]; have hb3 : Below w2.heap.size w2 w3 := ⟨hb3'.os, hb3'.tape, hb3'.output, hb3'.size, hb3'.block⟩; clear hb3'; have hz3 := hb3.size)
        | (go_at_call 16; refine (add_to F1 F2 F HF12.out _).mono ?_; rintro e w' ⟨rfl, rfl⟩))
  all_goals
    have hs3 := (((hsc.below hb1).mono hz1 |>.below hb2).mono hz2 |>.below hb3).mono hz3
    have hr3 := (((hrc.below hb1).mono hz1 |>.below hb2).mono hz2 |>.below hb3).mono hz3
    clear T1 T2 t1 r2 hr1 hs1
    have HB3 := Lib.hid (hbc.trans ((hb1.mono (Nat.le_of_lt hltc)).trans ((hb2.mono (by omega)).trans (hb3.mono (by omega)))))
    have hz03 : w.heap.size ≤ w3.heap.size := by omega
    clear hb1 hb2 hb3 hbc hI0 hI1 hI2 hz1 hz2 hz3
    go_wp2_with fail
    refine (tokens_any d D HD.out ns _ _ _ w3 nil3 nil3 hs3 hw (by omega)).mono ?_
    rintro e w4 ⟨rfl, hb4⟩
    rw [HG.out]
    have hz4 := hb4.size
    have hs4 := (hs3.below hb4).mono hz4
    have hr4 := (hr3.below hb4).mono hz4
    have n1 := nodes_take hs4 j hjm
    have N1 : ∀ wx : World, wx.heap = w4.heap → NodesAt wx wx.heap.size (.slice V j c2) (ns.take j) := fun wx e => by rw [e]; exact n1.heap e
    have hJ0 : (0 : Int) ≤ (j : Int) := by omega
    have hJ1 : (j : Int) ≤ (m : Int) := by omega
    have hJ2 : (j : Int) ≤ (c2 : Int) := by omega
    go_wp2_with fail
    rcases (show (c2 = j ∧ m = j) ∨ (c2 ≠ j ∧ ∃ ad, V = some ad) by
      rcases V with _ | ad
      · left; have := hVn rfl; omega
      · by_cases h : c2 = j
        · left; omega
        · right; exact ⟨h, ad, rfl⟩) with ⟨rfl, rfl⟩ | ⟨hne2, ad2, rfl⟩
    case' inl =>
      go_region_held3 (fun _ => True) (trivial)
        (first
          | (go_at_call_of 28 (Value.agg #[.slice none 0 0, .slice V m m, .slice none 0 0]); refine (tokens_any d D HD.out (ns.take m) _ _ _ _ nil3 nil3 (by exact N1 _ rfl) (wid_take hw m) (by rw [List.length_take]; omega)).mono ?_; rintro e w5 ⟨rfl, hb5'⟩; rw [HG1.out]; have hb5 : Below w4.heap.size w4 w5 := ⟨hb5'.os, hb5'.tape, hb5'.output, hb5'.size, hb5'.block⟩; clear hb5'; have hz5 := hb5.size; have n2 := (hs4.below hb5).mono hz5; have N2 : ∀ wx : World, wx.heap = w5.heap → NodesAt wx wx.heap.size _ (ns.drop m) := fun wx e => by rw [e]; exact (nodes_drop_eq n2).heap e)
          | (go_at_call 28; refine (tokens_any d D HD.out (ns.drop m) _ _ _ _ nil3 nil3 (by exact N2 _ rfl) (wid_drop hw m) (by rw [List.length_drop]; omega)).mono ?_; rintro e w6 ⟨rfl, hb6'⟩; rw [HG2.out]; have hb6 : Below w5.heap.size w5 w6 := ⟨hb6'.os, hb6'.tape, hb6'.output, hb6'.size, hb6'.block⟩; clear hb6'; have hz6 := hb6.size)
          | (go_at_call 16; refine (add_to G1 G2 G HG12.out _).mono ?_; rintro e w' ⟨rfl, rfl⟩))
    case' inr =>
      go_region_held3 (fun _ => True) (trivial)
        (first
          | (go_at_call_of 28 (Value.agg #[.slice none 0 0, .slice (some ad2) j c2, .slice none 0 0]); refine (tokens_any d D HD.out (ns.take j) _ _ _ _ nil3 nil3 (by exact N1 _ rfl) (wid_take hw j) (by rw [List.length_take]; omega)).mono ?_; rintro e w5 ⟨rfl, hb5'⟩; rw [HG1.out]; have hb5 : Below w4.heap.size w4 w5 := ⟨hb5'.os, hb5'.tape, hb5'.output, hb5'.size, hb5'.block⟩; clear hb5'; have hz5 := hb5.size; have n2 := (hs4.below hb5).mono hz5; have N2 : ∀ wx : World, wx.heap = w5.heap → NodesAt wx wx.heap.size _ (ns.drop j) := fun wx e => by rw [e]; exact (nodes_drop_ne n2 j hjm).heap e)
          | (go_at_call 28; refine (tokens_any d D HD.out (ns.drop j) _ _ _ _ nil3 nil3 (by exact N2 _ rfl) (wid_drop hw j) (by rw [List.length_drop]; omega)).mono ?_; rintro e w6 ⟨rfl, hb6'⟩; rw [HG2.out]; have hb6 : Below w5.heap.size w5 w6 := ⟨hb6'.os, hb6'.tape, hb6'.output, hb6'.size, hb6'.block⟩; clear hb6'; have hz6 := hb6.size)
          | (go_at_call 16; refine (add_to G1 G2 G HG12.out _).mono ?_; rintro e w' ⟨rfl, rfl⟩))
    all_goals
      have hs6 := ((hs4.below hb5).mono hz5 |>.below hb6).mono hz6
      have hr6 := ((hr4.below hb5).mono hz5 |>.below hb6).mono hz6
      clear N1 N2 n1 n2
      have HB6 := Lib.hid (HB3.out.trans ((hb4.mono hz03).trans ((hb5.mono (by omega)).trans (hb6.mono (by omega)))))
      have hz06 : w.heap.size ≤ w6.heap.size := by omega
      clear hb4 hb5 hb6 hJ0 hJ1 hJ2 hz4 hz5 hz6
      have hFF : F ≤ F' := by have := HFM.out; rw [HF.out] at this; exact this
      have hGG : G ≤ G' := by have := HGM.out; rw [HG.out] at this; exact this
      by_cases h62 : d < 4611686018427387904
      · go_wp2_with fail
        refine (firings_any (d + 1) D' (HD'.out h62) ms _ w6 hr6 hv (by omega)).mono ?_
        rintro e w7 ⟨rfl, hb7⟩
        rw [HF'.out]
        have hz7 := hb7.size
        have hs7 := (hs6.below hb7).mono hz7
        go_wp2_with fail
        refine (tokens_any (d + 1) D' (HD'.out h62) ns _ _ _ w7 nil3 nil3 hs7 hw (by omega)).mono ?_
        rintro e w8 ⟨rfl, hb8⟩
        rw [HG'.out]
        have hz8 := hb8.size
        have HB8 := Lib.hid (HB6.out.trans ((hb7.mono hz06).trans (hb8.mono (by omega))))
        have hz08 : w.heap.size ≤ w8.heap.size := by omega
        clear hb7 hb8 hs7 hz7 hz8
        go_wp2_with fail
        refine (firings_any 2 2 (.inl ⟨rfl, by omega⟩) [3] _ _ (lit_rules w8) vars3 (by simp)).mono ?_
        rintro e w9 ⟨rfl, hb9⟩
        rw [show sat (fsum 2 [3]) = 8 from by decide]
        go_wp2
        go_ret
        exact ⟨rfl, HB8.out.trans ((((Below.refl _ _).alloc hz08 _).alloc (by simp; omega) _).trans (hb9.mono (by simp; omega)))⟩
      · go_wp2_with fail
        refine (firings_any 2 2 (.inl ⟨rfl, by omega⟩) [3] _ _ (lit_rules w6) vars3 (by simp)).mono ?_
        rintro e w9 ⟨rfl, hb9⟩
        rw [show sat (fsum 2 [3]) = 8 from by decide]
        go_wp2
        go_ret
        exact ⟨rfl, HB6.out.trans ((((Below.refl _ _).alloc hz06 _).alloc (by simp; omega) _).trans (hb9.mono (by simp; omega)))⟩

end Go.Proofs.Ytfhmcgpohpkjgaa
