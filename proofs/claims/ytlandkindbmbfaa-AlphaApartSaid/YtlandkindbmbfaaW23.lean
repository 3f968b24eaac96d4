/-
  The walks of edictlaw10.member and usual: whether a number stands in a list; a row with numbers below 0 turned. Conditions: the lists are within the form's own reach.
-/
import Derived.Test.YtlandkindbmbfaaK11
import Derived.Test.YtlandkindbmbfaaW13
import Derived.Test.YtlandkindbmbfaaW15
import Derived.Deep.RegionLaw
namespace Go.Proofs.Ytlandkindbmbfaa
open Go.RowKit Plain
attribute [local go_sem ↓] Go.wp_at_zero Go.wp_at_succ

def NotTo (l : List Int) (n : Int) (k : Nat) : Prop := ∀ j, j < k → at' l j ≠ n
theorem NotTo.start (l : List Int) (n : Int) : NotTo l n 0 := fun j h => by omega
theorem NotTo.round {l : List Int} {n : Int} {k : Nat} (h : NotTo l n k) (e : at' l k ≠ n) : NotTo l n (k + 1) := fun j hj => by
  by_cases e2 : j = k
  · subst e2; exact e
  · exact h j (by omega)
theorem mem_no {l : List Int} {n : Int} (h : NotTo l n l.length) : decide (n ∈ l) = false := decide_eq_false fun hm => by
  obtain ⟨j, hj, e⟩ := List.getElem_of_mem hm
  refine h j hj ?_
  unfold at'
  rw [List.getElem?_eq_getElem hj]
  exact e
theorem mem_yes {l : List Int} {n : Int} {k : Nat} (hk : k < l.length) (e : at' l k = n) : decide (n ∈ l) = true := decide_eq_true (by rw [← e]; exact at_mem hk)

set_option maxRecDepth 100000 in
set_option maxHeartbeats 1600000 in
theorem member_any (l : List Int) (n : Int) (v : Value) (w : World) (hv : IntsAt w w.heap.size v l) (hl : l.length ≤ 35184372088832) :
    Calls Try.prog 47 #[v, .int .i64 n] w fun e w' => e = .returned (.bool (decide (n ∈ l))) ∧ w = w' := by
  obtain ⟨V, hV⟩ : ∃ V, V = decide (n ∈ l) := ⟨_, rfl⟩
  rw [← hV]
  have HV := Lib.hid hV
  clear hV
  obtain ⟨a, ca, rfl, ha⟩ := hv
  have HA := Lib.hid ha
  clear ha
  go_enter Try.func47, Try.ntmps47
  go_wp2
  go_loop [5] (fun k => ∃ i : Nat, k = .int .i64 (i : Int) ∧ i ≤ l.length ∧ Hid (NotTo l n i)) (fun k => l.length - (intOf k).toNat)
  case atStart => exact ⟨0, rfl, Nat.zero_le _, NotTo.start _ _⟩
  case round =>
    obtain ⟨i, rfl, hil, hE⟩ := hrel
    by_cases h1 : i < l.length
    · obtain ⟨g, off, rfl, hg, hc⟩ := HA.out.resolve_left (fun e => by rw [e] at h1; simp at h1)
      obtain ⟨x, hx⟩ : ∃ x, x = at' l i := ⟨_, rfl⟩
      have c0 : w.cell? ⟨g, off + i, none⟩ = some (.int .i64 x) := by rw [hx]; exact hc i h1
      have HX := Lib.hid hx
      clear hc hx hg
      by_cases h2 : x = n
      · subst h2
        have HR := Lib.hid (show V = true by rw [HV.out]; exact mem_yes h1 HX.out.symm)
        clear hE
        go_wp2
        go_ret
        exact ⟨ret_bool HR.out.symm, rfl⟩
      · have HE := Lib.hid (hE.out.round (by rw [← HX.out]; exact h2))
        have hd : (x == n) = false := by simpa using h2
        clear hE
        go_wp2
        go_round
        case rel => exact ⟨i + 1, by go_num, by omega, HE.out⟩
        case measure => simp only [intOf]; omega
    · have e : i = l.length := by omega
      have HR := Lib.hid (show V = false by rw [HV.out]; exact mem_no (by rw [← e]; exact hE.out))
      clear e hE
      go_wp2
      go_ret
      exact ⟨ret_bool HR.out.symm, rfl⟩

/-- A row that Add takes, made of any. -/
def us (r : Shp) : Shp := ⟨prP r.pred, r.cells.map prP⟩
theorem us_next {l : List Int} {i : Nat} {x y : Int} (hi : i < l.length) (hx : x = at' l i) (he : prP x = y) : (l.take (i + 1)).map prP = (l.take i).map prP ++ [y] := by
  have e : l[i]? = some x := by rw [hx]; unfold at'; rw [List.getElem?_eq_getElem hi]; rfl
  rw [take_one e, List.map_append, ← he]; rfl
theorem prP_neg {x : Int} (h : x < 0) : prP x = 0 := if_pos h
theorem prP_pos {x : Int} (h : ¬ x < 0) : prP x = x := if_neg h

set_option maxRecDepth 100000 in
set_option maxHeartbeats 6400000 in
theorem usual_neg (p : Int) (l : List Int) (hp : p < 0) (v : Value) (w : World) (hv : IntsAt w w.heap.size v l) (hn : l.length ≤ 17592186044400) :
    Calls Try.prog 45 #[.agg #[.int .i64 p, v]] w (ShapeIs ⟨0, l.map prP⟩ w) := by
  obtain ⟨i3, qi, q0, q1, q2⟩ := info_parts Try.info3
  obtain ⟨a, cap, rfl, ha⟩ := id hv
  have HV := Lib.hid hv
  have HA := Lib.hid ha
  clear hv ha
  go_enter Try.func45, Try.ntmps45
  have HS0 := Lib.hid (RSB.start w (.int .i64 p) (.slice a l.length cap) 0)
  go_wp2
  generalize (((w.alloc (.cells #[.int .i64 p, .slice a l.length cap] 33)).alloc (.cells #[.int .i64 0, .slice none 0 0] 33)).alloc (.cells #[.int .i64 0, .slice none 0 0] 33)) = W0 at HS0 ⊢
  go_loopw [4] (fun k wr => ∃ (v : Value) (i : Nat), k = .int .i64 (i : Int) ∧ i ≤ l.length ∧ RSB w (.int .i64 p) (.slice a l.length cap) 0 ((l.take i).map prP) v wr) (fun k _ => l.length - (intOf k).toNat)
  case atStart => exact ⟨_, 0, rfl, Nat.zero_le _, HS0.out⟩
  case round =>
    obtain ⟨v, i, rfl, hil, hS⟩ := hrel
    have hsz := hS.1.size
    have HS := Lib.hid hS
    have ka := hS.carg
    have kv := hS.cvar
    clear hS
    by_cases h1 : i < l.length
    · obtain ⟨g, off, rfl, hg, hc⟩ := HA.out.resolve_left (fun e => by rw [e] at h1; simp at h1)
      obtain ⟨x, hx⟩ : ∃ x, x = at' l i := ⟨_, rfl⟩
      have i1 : (i : Int) < (l.length : Int) := by omega
      have c0 : wr.cell? ⟨g, off + i, none⟩ = some (.int .i64 x) := by rw [hx]; exact below_cells HS.out.1.below hg (hc i h1)
      have hol : ((l.take i).map prP).length = i := by rw [List.length_map, List.length_take]; omega
      obtain ⟨out, hout⟩ : ∃ out, out = (l.take i).map prP := ⟨_, rfl⟩
      rw [← hout] at HS hol
      have HO := Lib.hid hout
      have HX := Lib.hid hx
      have holb : out.length ≤ 17592186044400 := by omega
      clear hout hol hx hc hg
      have HE := Lib.hid (show prP x = (if x < 0 then 0 else x) from rfl)
      have k2 := (HS.out.alloc (.cells #[.int .i64 (if x < 0 then 0 else x)] 3)).cvar
      have ka2 := (HS.out.alloc (.cells #[.int .i64 (if x < 0 then 0 else x)] 3)).carg
      go_wp2_with fail
      go_region_law
        (first
          | (refine step_append_own _ (by rfl) _ _ 25 (by rfl) (w.heap.size + 3) 3 i3 (.int .i64 0) 1 8 Try.underlying25 qi q0 q1 q2 rfl (by decide) v out.length (lits out) (by rfl) (by exact (HS.out.alloc (.cells #[.int .i64 (if x < 0 then 0 else x)] 3)).1.own) ⟨wr.heap.size, 0, none⟩ 1 1 [.int .i64 (if x < 0 then 0 else x)] (by rfl) (by rfl) (World.news_of_block (cs := #[.int .i64 (if x < 0 then 0 else x)]) (t := 3) (fr := (0, 0)) (heap_alloc_new wr _)) (one_i64 _) (by unfold maxLen; omega) (by omega) (by simp; omega) ?_; intro v' w1 hown' hgrow' hnl; obtain ⟨g', c', rfl⟩ := Joins.ownsRow_form hown' (by omega); have hgrow : (wr.alloc (.cells #[.int .i64 (if x < 0 then 0 else x)] 3)).grownBy w1 v.ownBlock := ⟨hgrow'.os, hgrow'.tape, hgrow'.output, hgrow'.size, hgrow'.block⟩; have hw3 := (HS.out.alloc (.cells #[.int .i64 (if x < 0 then 0 else x)] 3)).grown hgrow; have k1 := rvar_of hw3; have hf := rfre_of hw3))
      all_goals
        have HP := Lib.hid ((HS.out.alloc (.cells #[.int .i64 (if x < 0 then 0 else x)] 3)).push hown' hgrow)
        go_wp2
        go_roundw
        case rel => exact ⟨_, i + 1, by go_num, by omega, by rw [us_next h1 HX.out HE.out, ← HO.out]; exact HP.out⟩
        case measure => simp only [intOf]; omega
    · have e : i = l.length := by omega
      have HO := Lib.hid (show RSB w (.int .i64 p) (.slice a l.length cap) 0 (l.map prP) v wr by have := HS.out; rw [e, List.take_length] at this; exact this)
      have v0 : wr.cell? ⟨w.heap.size + 2, 0, none⟩ = some (.int .i64 0) := by have := HO.out.1.var; simp only [World.cell?, this]; rfl
      have v1 := HO.out.cvar
      have t0 : wr.cell? ⟨w.heap.size + 1, 0, none⟩ = some (.int .i64 0) := by have := HO.out.1.res; simp only [World.cell?, this]; rfl
      have t1 : wr.cell? ⟨w.heap.size + 1, 1, none⟩ = some (.slice none 0 0) := by have := HO.out.1.res; simp only [World.cell?, this]; rfl
      have f0 : wr.frozen? ⟨w.heap.size + 1, 0, none⟩ = false := by have := HO.out.1.res; simp only [World.frozen?, this]; rfl
      have f1 : wr.frozen? ⟨w.heap.size + 1, 1, none⟩ = false := by have := HO.out.1.res; simp only [World.frozen?, this]; rfl
      obtain ⟨av, nv, cv, rfl⟩ := OwnInts.form (l := l.map prP) HO.out.1.own
      clear e HS
      go_wp2
      obtain ⟨s1, s2, s3⟩ := HO.out.stop
      exact bodyPost_ret2 (results_cell_row rfl _ _ (w.heap.size + 1) 33 #[.int .i64 0, .slice av nv cv] (0, 0) _ rfl s1 Try.underlying33 rfl Try.size33) ⟨_, rfl, s2, s3⟩

set_option maxRecDepth 100000 in
set_option maxHeartbeats 6400000 in
theorem usual_pos (p : Int) (l : List Int) (hp : 0 ≤ p) (v : Value) (w : World) (hv : IntsAt w w.heap.size v l) (hn : l.length ≤ 17592186044400) :
    Calls Try.prog 45 #[.agg #[.int .i64 p, v]] w (ShapeIs ⟨p, l.map prP⟩ w) := by
  obtain ⟨i3, qi, q0, q1, q2⟩ := info_parts Try.info3
  obtain ⟨a, cap, rfl, ha⟩ := id hv
  have HV := Lib.hid hv
  have HA := Lib.hid ha
  clear hv ha
  go_enter Try.func45, Try.ntmps45
  have HS0 := Lib.hid (RSB.start w (.int .i64 p) (.slice a l.length cap) p)
  go_wp2
  generalize (((w.alloc (.cells #[.int .i64 p, .slice a l.length cap] 33)).alloc (.cells #[.int .i64 0, .slice none 0 0] 33)).alloc (.cells #[.int .i64 p, .slice none 0 0] 33)) = W0 at HS0 ⊢
  go_loopw [4] (fun k wr => ∃ (v : Value) (i : Nat), k = .int .i64 (i : Int) ∧ i ≤ l.length ∧ RSB w (.int .i64 p) (.slice a l.length cap) p ((l.take i).map prP) v wr) (fun k _ => l.length - (intOf k).toNat)
  case atStart => exact ⟨_, 0, rfl, Nat.zero_le _, HS0.out⟩
  case round =>
    obtain ⟨v, i, rfl, hil, hS⟩ := hrel
    have hsz := hS.1.size
    have HS := Lib.hid hS
    have ka := hS.carg
    have kv := hS.cvar
    clear hS
    by_cases h1 : i < l.length
    · obtain ⟨g, off, rfl, hg, hc⟩ := HA.out.resolve_left (fun e => by rw [e] at h1; simp at h1)
      obtain ⟨x, hx⟩ : ∃ x, x = at' l i := ⟨_, rfl⟩
      have i1 : (i : Int) < (l.length : Int) := by omega
      have c0 : wr.cell? ⟨g, off + i, none⟩ = some (.int .i64 x) := by rw [hx]; exact below_cells HS.out.1.below hg (hc i h1)
      have hol : ((l.take i).map prP).length = i := by rw [List.length_map, List.length_take]; omega
      obtain ⟨out, hout⟩ : ∃ out, out = (l.take i).map prP := ⟨_, rfl⟩
      rw [← hout] at HS hol
      have HO := Lib.hid hout
      have HX := Lib.hid hx
      have holb : out.length ≤ 17592186044400 := by omega
      clear hout hol hx hc hg
      have HE := Lib.hid (show prP x = (if x < 0 then 0 else x) from rfl)
      have k2 := (HS.out.alloc (.cells #[.int .i64 (if x < 0 then 0 else x)] 3)).cvar
      have ka2 := (HS.out.alloc (.cells #[.int .i64 (if x < 0 then 0 else x)] 3)).carg
      go_wp2_with fail
      go_region_law
        (first
          | (refine step_append_own _ (by rfl) _ _ 25 (by rfl) (w.heap.size + 3) 3 i3 (.int .i64 0) 1 8 Try.underlying25 qi q0 q1 q2 rfl (by decide) v out.length (lits out) (by rfl) (by exact (HS.out.alloc (.cells #[.int .i64 (if x < 0 then 0 else x)] 3)).1.own) ⟨wr.heap.size, 0, none⟩ 1 1 [.int .i64 (if x < 0 then 0 else x)] (by rfl) (by rfl) (World.news_of_block (cs := #[.int .i64 (if x < 0 then 0 else x)]) (t := 3) (fr := (0, 0)) (heap_alloc_new wr _)) (one_i64 _) (by unfold maxLen; omega) (by omega) (by simp; omega) ?_; intro v' w1 hown' hgrow' hnl; obtain ⟨g', c', rfl⟩ := Joins.ownsRow_form hown' (by omega); have hgrow : (wr.alloc (.cells #[.int .i64 (if x < 0 then 0 else x)] 3)).grownBy w1 v.ownBlock := ⟨hgrow'.os, hgrow'.tape, hgrow'.output, hgrow'.size, hgrow'.block⟩; have hw3 := (HS.out.alloc (.cells #[.int .i64 (if x < 0 then 0 else x)] 3)).grown hgrow; have k1 := rvar_of hw3; have hf := rfre_of hw3))
      all_goals
        have HP := Lib.hid ((HS.out.alloc (.cells #[.int .i64 (if x < 0 then 0 else x)] 3)).push hown' hgrow)
        go_wp2
        go_roundw
        case rel => exact ⟨_, i + 1, by go_num, by omega, by rw [us_next h1 HX.out HE.out, ← HO.out]; exact HP.out⟩
        case measure => simp only [intOf]; omega
    · have e : i = l.length := by omega
      have HO := Lib.hid (show RSB w (.int .i64 p) (.slice a l.length cap) p (l.map prP) v wr by have := HS.out; rw [e, List.take_length] at this; exact this)
      have v0 : wr.cell? ⟨w.heap.size + 2, 0, none⟩ = some (.int .i64 p) := by have := HO.out.1.var; simp only [World.cell?, this]; rfl
      have v1 := HO.out.cvar
      have t0 : wr.cell? ⟨w.heap.size + 1, 0, none⟩ = some (.int .i64 0) := by have := HO.out.1.res; simp only [World.cell?, this]; rfl
      have t1 : wr.cell? ⟨w.heap.size + 1, 1, none⟩ = some (.slice none 0 0) := by have := HO.out.1.res; simp only [World.cell?, this]; rfl
      have f0 : wr.frozen? ⟨w.heap.size + 1, 0, none⟩ = false := by have := HO.out.1.res; simp only [World.frozen?, this]; rfl
      have f1 : wr.frozen? ⟨w.heap.size + 1, 1, none⟩ = false := by have := HO.out.1.res; simp only [World.frozen?, this]; rfl
      obtain ⟨av, nv, cv, rfl⟩ := OwnInts.form (l := l.map prP) HO.out.1.own
      clear e HS
      go_wp2
      obtain ⟨s1, s2, s3⟩ := HO.out.stop
      exact bodyPost_ret2 (results_cell_row rfl _ _ (w.heap.size + 1) 33 #[.int .i64 p, .slice av nv cv] (0, 0) _ rfl s1 Try.underlying33 rfl Try.size33) ⟨_, rfl, s2, s3⟩

theorem usual_any (r : Shp) (v : Value) (w : World) (hv : IntsAt w w.heap.size v r.cells) (hn : r.cells.length ≤ 17592186044400) :
    Calls Try.prog 45 #[.agg #[.int .i64 r.pred, v]] w (ShapeIs (us r) w) := by
  unfold us
  by_cases hp : r.pred < 0
  · rw [prP_neg hp]; exact usual_neg r.pred r.cells hp v w hv hn
  · rw [prP_pos hp]; exact usual_pos r.pred r.cells (by omega) v w hv hn

end Go.Proofs.Ytlandkindbmbfaa
