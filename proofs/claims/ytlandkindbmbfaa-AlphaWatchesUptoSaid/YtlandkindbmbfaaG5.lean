/-
  Texts of this seat, one behind the other: W10, K11, W11, Plain4. Conditions: those that each of them states.
-/
import Derived.Test.YtlandkindbmbfaaG4
import Derived.Test.YtlandkindbmbfaaG3
/-
  The walks of edictlaw10.proper, merged and put: each makes a pattern of its own out of the argument's, slot by slot. Conditions: the numbers are ints, the list is within the form's own reach.
-/
namespace Go.Proofs.Ytlandkindbmbfaa
open Go.RowKit Plain

def pf (a : Slt) : Slt := if a.1 then a else (false, if a.2 < 0 then 0 else a.2)
def mf (x y : Int) (a : Slt) : Slt := if Plain.isVar x a then (true, y) else a
def uf (x c : Int) (a : Slt) : Slt := if Plain.isVar x a then (false, if c < 0 then 0 else c) else a
theorem pats_next {l : List Slt} {i : Nat} {f : Slt → Slt} {a a' : Slt} (hi : l[i]? = some a) (he : f a = a') : (l.take (i + 1)).map f = (l.take i).map f ++ [a'] := by
  rw [take_one hi, List.map_append, ← he]; rfl

theorem bodyPost_ret2 {P : Program} {fn : Func} {R : Ending → World → Prop} {tmps : Array Value} {w : World} {v : Value} (h : (results fn tmps).run P w = .ok v w) (hR : R (.returned v) w) : bodyPost P fn R .normal { tmps := tmps, defers := [] } w := ⟨rfl, v, h, hR⟩

set_option maxRecDepth 100000 in
set_option maxHeartbeats 3200000 in
theorem proper_neg (p : Int) (l : List Slt) (hp : p < 0) (v : Value) (w : World) (hv : SlotsAt w w.heap.size v l) (hn : l.length ≤ 8796093021952) :
    Calls Try.prog 22 #[.agg #[.int .i64 p, v]] w (PatIs 0 (l.map (pf)) w) := by
  obtain ⟨i53, pi, p0, p1, p2⟩ := info_parts Try.info53
  obtain ⟨a, cap, rfl, ha⟩ := hv.form
  have HV := Lib.hid hv
  have HA := Lib.hid ha
  clear hv ha
  go_enter Try.func22, Try.ntmps22
  go_wp2
  have HS0 := Lib.hid (PSB.start w (.int .i64 p) (.slice a l.length cap) (0))
  generalize (((w.alloc (.cells #[.int .i64 p, .slice a l.length cap] 39)).alloc (.cells #[.int .i64 0, .slice none 0 0] 39)).alloc (.cells #[.int .i64 (0), .slice none 0 0] 39)) = W0 at HS0 ⊢
  go_loopw [4] (fun k wr => ∃ (v : Value) (i : Nat), k = .int .i64 (i : Int) ∧ i ≤ l.length ∧ PSB w (.int .i64 p) (.slice a l.length cap) (0) ((l.take i).map (pf)) v wr) (fun k _ => l.length - (intOf k).toNat)
  case atStart => exact ⟨_, 0, rfl, Nat.zero_le _, HS0.out⟩
  case round =>
    obtain ⟨v, i, rfl, hil, hS⟩ := hrel
    have HS := Lib.hid hS
    have hsz := hS.1.size
    have ka := hS.carg
    clear hS
    by_cases h1 : i < l.length
    · obtain ⟨g, off, rfl⟩ := HA.out (ne_of_lt_len h1)
      obtain ⟨b, n, hsi⟩ : ∃ b n, l[i]? = some (b, n) := ⟨l[i].1, l[i].2, List.getElem?_eq_getElem h1⟩
      obtain ⟨hg, c0, c1⟩ := SlotsAt.get (HV.out.below HS.out.1.below) hsi
      have HI := Lib.hid hsi
      have hol : ((l.take i).map (pf)).length = i := by rw [List.length_map, List.length_take]; omega
      obtain ⟨out, hout⟩ : ∃ out, out = (l.take i).map (pf) := ⟨_, rfl⟩
      rw [← hout] at HS hol
      have HO := Lib.hid hout
      have holb : out.length ≤ 8796093021952 := by omega
      clear hsi hout hol
      cases b with
      | false =>
        by_cases hn0 : n < 0
        · have H1 := Lib.hid (HS.out.alloc (.cells #[.bool false, .int .i64 (0)] 53))
          have hzA : (wr.alloc (.cells #[.bool false, .int .i64 (0)] 53)).heap.size = wr.heap.size + 1 := by simp
          have k1 := H1.out.cvar
          go_wp2_with (at_builtin; refine wpList_append_own _ rfl _ _ 37 rfl (w.heap.size + 3) 53 i53 (.agg #[.bool false, .int .i64 0]) 2 16 Try.underlying37 pi p0 p1 p2 rfl (by decide) v out.length (slits out) rfl (H1.out.alloc (.cells #[.bool false, .int .i64 (0)] 53)).1.own ⟨wr.heap.size + 1, 0, none⟩ 1 1 [.bool false, .int .i64 (0)] rfl rfl (by rw [← hzA]; exact World.news_of_block (cs := #[.bool false, .int .i64 (0)]) (t := 53) (fr := (0, 0)) (heap_alloc_new _ _)) (one_slot _ _) (by unfold maxLen; omega) (by omega) (by simp; omega) ?_; intro v' w1 hown' hgrow hnl; obtain ⟨g', c', rfl⟩ := Joins.ownsRow_form hown' (by omega); have hw3 := (H1.out.alloc (.cells #[.bool false, .int .i64 (0)] 53)).grown hgrow; have k1 := pvar_of hw3; have hf := pfre_of hw3)
          have HP := Lib.hid ((H1.out.alloc (.cells #[.bool false, .int .i64 (0)] 53)).push hown' hgrow)
          go_roundw
          case rel => exact ⟨_, i + 1, by go_num, by omega, by rw [pats_next HI.out (show pf (false, n) = (false, 0) by simp [pf, hn0]), ← HO.out]; exact HP.out⟩
          case measure => simp only [intOf]; omega
        · have H1 := Lib.hid (HS.out.alloc (.cells #[.bool false, .int .i64 (n)] 53))
          have hzA : (wr.alloc (.cells #[.bool false, .int .i64 (n)] 53)).heap.size = wr.heap.size + 1 := by simp
          have k1 := H1.out.cvar
          go_wp2_with (at_builtin; refine wpList_append_own _ rfl _ _ 37 rfl (w.heap.size + 3) 53 i53 (.agg #[.bool false, .int .i64 0]) 2 16 Try.underlying37 pi p0 p1 p2 rfl (by decide) v out.length (slits out) rfl (H1.out.alloc (.cells #[.bool false, .int .i64 (n)] 53)).1.own ⟨wr.heap.size + 1, 0, none⟩ 1 1 [.bool false, .int .i64 (n)] rfl rfl (by rw [← hzA]; exact World.news_of_block (cs := #[.bool false, .int .i64 (n)]) (t := 53) (fr := (0, 0)) (heap_alloc_new _ _)) (one_slot _ _) (by unfold maxLen; omega) (by omega) (by simp; omega) ?_; intro v' w1 hown' hgrow hnl; obtain ⟨g', c', rfl⟩ := Joins.ownsRow_form hown' (by omega); have hw3 := (H1.out.alloc (.cells #[.bool false, .int .i64 (n)] 53)).grown hgrow; have k1 := pvar_of hw3; have hf := pfre_of hw3)
          have HP := Lib.hid ((H1.out.alloc (.cells #[.bool false, .int .i64 (n)] 53)).push hown' hgrow)
          go_roundw
          case rel => exact ⟨_, i + 1, by go_num, by omega, by rw [pats_next HI.out (show pf (false, n) = (false, n) by simp [pf, hn0]), ← HO.out]; exact HP.out⟩
          case measure => simp only [intOf]; omega
      | true =>
        have H1 := Lib.hid (HS.out.alloc (.cells #[.bool true, .int .i64 (n)] 53))
        have hzA : (wr.alloc (.cells #[.bool true, .int .i64 (n)] 53)).heap.size = wr.heap.size + 1 := by simp
        have k1 := H1.out.cvar
        go_wp2_with (at_builtin; refine wpList_append_own _ rfl _ _ 37 rfl (w.heap.size + 3) 53 i53 (.agg #[.bool false, .int .i64 0]) 2 16 Try.underlying37 pi p0 p1 p2 rfl (by decide) v out.length (slits out) rfl (H1.out.alloc (.cells #[.bool true, .int .i64 (n)] 53)).1.own ⟨wr.heap.size + 1, 0, none⟩ 1 1 [.bool true, .int .i64 (n)] rfl rfl (by rw [← hzA]; exact World.news_of_block (cs := #[.bool true, .int .i64 (n)]) (t := 53) (fr := (0, 0)) (heap_alloc_new _ _)) (one_slot _ _) (by unfold maxLen; omega) (by omega) (by simp; omega) ?_; intro v' w1 hown' hgrow hnl; obtain ⟨g', c', rfl⟩ := Joins.ownsRow_form hown' (by omega); have hw3 := (H1.out.alloc (.cells #[.bool true, .int .i64 (n)] 53)).grown hgrow; have k1 := pvar_of hw3; have hf := pfre_of hw3)
        have HP := Lib.hid ((H1.out.alloc (.cells #[.bool true, .int .i64 (n)] 53)).push hown' hgrow)
        go_roundw
        case rel => exact ⟨_, i + 1, by go_num, by omega, by rw [pats_next HI.out (show pf (true, n) = (true, n) from rfl), ← HO.out]; exact HP.out⟩
        case measure => simp only [intOf]; omega
    · have e : i = l.length := by omega
      have HO := Lib.hid (show PSB w (.int .i64 p) (.slice a l.length cap) (0) (l.map (pf)) v wr by have := HS.out; rw [e, List.take_length] at this; exact this)
      have v0 : wr.cell? ⟨w.heap.size + 2, 0, none⟩ = some (.int .i64 (0)) := by have := HO.out.1.var; simp only [World.cell?, this]; rfl
      have v1 := HO.out.cvar
      have t0 : wr.cell? ⟨w.heap.size + 1, 0, none⟩ = some (.int .i64 0) := by have := HO.out.1.res; simp only [World.cell?, this]; rfl
      have t1 : wr.cell? ⟨w.heap.size + 1, 1, none⟩ = some (.slice none 0 0) := by have := HO.out.1.res; simp only [World.cell?, this]; rfl
      have f0 : wr.frozen? ⟨w.heap.size + 1, 0, none⟩ = false := by have := HO.out.1.res; simp only [World.frozen?, this]; rfl
      have f1 : wr.frozen? ⟨w.heap.size + 1, 1, none⟩ = false := by have := HO.out.1.res; simp only [World.frozen?, this]; rfl
      obtain ⟨av, nv, cv, rfl⟩ := OwnSlots.form (l := l.map (pf)) HO.out.1.own
      clear e HS
      go_wp2
      obtain ⟨s1, s2, s3⟩ := HO.out.stop
      exact bodyPost_ret2 (results_cell_row rfl _ _ (w.heap.size + 1) 39 #[.int .i64 (0), .slice av nv cv] (0, 0) _ rfl s1 Try.underlying39 rfl Try.size39) ⟨_, rfl, s2, s3⟩

set_option maxRecDepth 100000 in
set_option maxHeartbeats 3200000 in
theorem proper_pos (p : Int) (l : List Slt) (hp : 0 ≤ p) (v : Value) (w : World) (hv : SlotsAt w w.heap.size v l) (hn : l.length ≤ 8796093021952) :
    Calls Try.prog 22 #[.agg #[.int .i64 p, v]] w (PatIs p (l.map (pf)) w) := by
  obtain ⟨i53, pi, p0, p1, p2⟩ := info_parts Try.info53
  obtain ⟨a, cap, rfl, ha⟩ := hv.form
  have HV := Lib.hid hv
  have HA := Lib.hid ha
  clear hv ha
  go_enter Try.func22, Try.ntmps22
  go_wp2
  have HS0 := Lib.hid (PSB.start w (.int .i64 p) (.slice a l.length cap) (p))
  generalize (((w.alloc (.cells #[.int .i64 p, .slice a l.length cap] 39)).alloc (.cells #[.int .i64 0, .slice none 0 0] 39)).alloc (.cells #[.int .i64 (p), .slice none 0 0] 39)) = W0 at HS0 ⊢
  go_loopw [4] (fun k wr => ∃ (v : Value) (i : Nat), k = .int .i64 (i : Int) ∧ i ≤ l.length ∧ PSB w (.int .i64 p) (.slice a l.length cap) (p) ((l.take i).map (pf)) v wr) (fun k _ => l.length - (intOf k).toNat)
  case atStart => exact ⟨_, 0, rfl, Nat.zero_le _, HS0.out⟩
  case round =>
    obtain ⟨v, i, rfl, hil, hS⟩ := hrel
    have HS := Lib.hid hS
    have hsz := hS.1.size
    have ka := hS.carg
    clear hS
    by_cases h1 : i < l.length
    · obtain ⟨g, off, rfl⟩ := HA.out (ne_of_lt_len h1)
      obtain ⟨b, n, hsi⟩ : ∃ b n, l[i]? = some (b, n) := ⟨l[i].1, l[i].2, List.getElem?_eq_getElem h1⟩
      obtain ⟨hg, c0, c1⟩ := SlotsAt.get (HV.out.below HS.out.1.below) hsi
      have HI := Lib.hid hsi
      have hol : ((l.take i).map (pf)).length = i := by rw [List.length_map, List.length_take]; omega
      obtain ⟨out, hout⟩ : ∃ out, out = (l.take i).map (pf) := ⟨_, rfl⟩
      rw [← hout] at HS hol
      have HO := Lib.hid hout
      have holb : out.length ≤ 8796093021952 := by omega
      clear hsi hout hol
      cases b with
      | false =>
        by_cases hn0 : n < 0
        · have H1 := Lib.hid (HS.out.alloc (.cells #[.bool false, .int .i64 (0)] 53))
          have hzA : (wr.alloc (.cells #[.bool false, .int .i64 (0)] 53)).heap.size = wr.heap.size + 1 := by simp
          have k1 := H1.out.cvar
          go_wp2_with (at_builtin; refine wpList_append_own _ rfl _ _ 37 rfl (w.heap.size + 3) 53 i53 (.agg #[.bool false, .int .i64 0]) 2 16 Try.underlying37 pi p0 p1 p2 rfl (by decide) v out.length (slits out) rfl (H1.out.alloc (.cells #[.bool false, .int .i64 (0)] 53)).1.own ⟨wr.heap.size + 1, 0, none⟩ 1 1 [.bool false, .int .i64 (0)] rfl rfl (by rw [← hzA]; exact World.news_of_block (cs := #[.bool false, .int .i64 (0)]) (t := 53) (fr := (0, 0)) (heap_alloc_new _ _)) (one_slot _ _) (by unfold maxLen; omega) (by omega) (by simp; omega) ?_; intro v' w1 hown' hgrow hnl; obtain ⟨g', c', rfl⟩ := Joins.ownsRow_form hown' (by omega); have hw3 := (H1.out.alloc (.cells #[.bool false, .int .i64 (0)] 53)).grown hgrow; have k1 := pvar_of hw3; have hf := pfre_of hw3)
          have HP := Lib.hid ((H1.out.alloc (.cells #[.bool false, .int .i64 (0)] 53)).push hown' hgrow)
          go_roundw
          case rel => exact ⟨_, i + 1, by go_num, by omega, by rw [pats_next HI.out (show pf (false, n) = (false, 0) by simp [pf, hn0]), ← HO.out]; exact HP.out⟩
          case measure => simp only [intOf]; omega
        · have H1 := Lib.hid (HS.out.alloc (.cells #[.bool false, .int .i64 (n)] 53))
          have hzA : (wr.alloc (.cells #[.bool false, .int .i64 (n)] 53)).heap.size = wr.heap.size + 1 := by simp
          have k1 := H1.out.cvar
          go_wp2_with (at_builtin; refine wpList_append_own _ rfl _ _ 37 rfl (w.heap.size + 3) 53 i53 (.agg #[.bool false, .int .i64 0]) 2 16 Try.underlying37 pi p0 p1 p2 rfl (by decide) v out.length (slits out) rfl (H1.out.alloc (.cells #[.bool false, .int .i64 (n)] 53)).1.own ⟨wr.heap.size + 1, 0, none⟩ 1 1 [.bool false, .int .i64 (n)] rfl rfl (by rw [← hzA]; exact World.news_of_block (cs := #[.bool false, .int .i64 (n)]) (t := 53) (fr := (0, 0)) (heap_alloc_new _ _)) (one_slot _ _) (by unfold maxLen; omega) (by omega) (by simp; omega) ?_; intro v' w1 hown' hgrow hnl; obtain ⟨g', c', rfl⟩ := Joins.ownsRow_form hown' (by omega); have hw3 := (H1.out.alloc (.cells #[.bool false, .int .i64 (n)] 53)).grown hgrow; have k1 := pvar_of hw3; have hf := pfre_of hw3)
          have HP := Lib.hid ((H1.out.alloc (.cells #[.bool false, .int .i64 (n)] 53)).push hown' hgrow)
          go_roundw
          case rel => exact ⟨_, i + 1, by go_num, by omega, by rw [pats_next HI.out (show pf (false, n) = (false, n) by simp [pf, hn0]), ← HO.out]; exact HP.out⟩
          case measure => simp only [intOf]; omega
      | true =>
        have H1 := Lib.hid (HS.out.alloc (.cells #[.bool true, .int .i64 (n)] 53))
        have hzA : (wr.alloc (.cells #[.bool true, .int .i64 (n)] 53)).heap.size = wr.heap.size + 1 := by simp
        have k1 := H1.out.cvar
        go_wp2_with (at_builtin; refine wpList_append_own _ rfl _ _ 37 rfl (w.heap.size + 3) 53 i53 (.agg #[.bool false, .int .i64 0]) 2 16 Try.underlying37 pi p0 p1 p2 rfl (by decide) v out.length (slits out) rfl (H1.out.alloc (.cells #[.bool true, .int .i64 (n)] 53)).1.own ⟨wr.heap.size + 1, 0, none⟩ 1 1 [.bool true, .int .i64 (n)] rfl rfl (by rw [← hzA]; exact World.news_of_block (cs := #[.bool true, .int .i64 (n)]) (t := 53) (fr := (0, 0)) (heap_alloc_new _ _)) (one_slot _ _) (by unfold maxLen; omega) (by omega) (by simp; omega) ?_; intro v' w1 hown' hgrow hnl; obtain ⟨g', c', rfl⟩ := Joins.ownsRow_form hown' (by omega); have hw3 := (H1.out.alloc (.cells #[.bool true, .int .i64 (n)] 53)).grown hgrow; have k1 := pvar_of hw3; have hf := pfre_of hw3)
        have HP := Lib.hid ((H1.out.alloc (.cells #[.bool true, .int .i64 (n)] 53)).push hown' hgrow)
        go_roundw
        case rel => exact ⟨_, i + 1, by go_num, by omega, by rw [pats_next HI.out (show pf (true, n) = (true, n) from rfl), ← HO.out]; exact HP.out⟩
        case measure => simp only [intOf]; omega
    · have e : i = l.length := by omega
      have HO := Lib.hid (show PSB w (.int .i64 p) (.slice a l.length cap) (p) (l.map (pf)) v wr by have := HS.out; rw [e, List.take_length] at this; exact this)
      have v0 : wr.cell? ⟨w.heap.size + 2, 0, none⟩ = some (.int .i64 (p)) := by have := HO.out.1.var; simp only [World.cell?, this]; rfl
      have v1 := HO.out.cvar
      have t0 : wr.cell? ⟨w.heap.size + 1, 0, none⟩ = some (.int .i64 0) := by have := HO.out.1.res; simp only [World.cell?, this]; rfl
      have t1 : wr.cell? ⟨w.heap.size + 1, 1, none⟩ = some (.slice none 0 0) := by have := HO.out.1.res; simp only [World.cell?, this]; rfl
      have f0 : wr.frozen? ⟨w.heap.size + 1, 0, none⟩ = false := by have := HO.out.1.res; simp only [World.frozen?, this]; rfl
      have f1 : wr.frozen? ⟨w.heap.size + 1, 1, none⟩ = false := by have := HO.out.1.res; simp only [World.frozen?, this]; rfl
      obtain ⟨av, nv, cv, rfl⟩ := OwnSlots.form (l := l.map (pf)) HO.out.1.own
      clear e HS
      go_wp2
      obtain ⟨s1, s2, s3⟩ := HO.out.stop
      exact bodyPost_ret2 (results_cell_row rfl _ _ (w.heap.size + 1) 39 #[.int .i64 (p), .slice av nv cv] (0, 0) _ rfl s1 Try.underlying39 rfl Try.size39) ⟨_, rfl, s2, s3⟩

set_option maxRecDepth 100000 in
set_option maxHeartbeats 3200000 in
theorem merged_any (p : Int) (l : List Slt) (x y : Int) (v : Value) (w : World) (hv : SlotsAt w w.heap.size v l) (hn : l.length ≤ 8796093021952) :
    Calls Try.prog 30 #[.agg #[.int .i64 p, v], .int .i64 x, .int .i64 y] w (PatIs p (l.map (mf x y)) w) := by
  obtain ⟨i53, pi, p0, p1, p2⟩ := info_parts Try.info53
  obtain ⟨a, cap, rfl, ha⟩ := hv.form
  have HV := Lib.hid hv
  have HA := Lib.hid ha
  clear hv ha
  go_enter Try.func30, Try.ntmps30
  go_wp2
  have HS0 := Lib.hid (PSB.start w (.int .i64 p) (.slice a l.length cap) (p))
  generalize (((w.alloc (.cells #[.int .i64 p, .slice a l.length cap] 39)).alloc (.cells #[.int .i64 0, .slice none 0 0] 39)).alloc (.cells #[.int .i64 (p), .slice none 0 0] 39)) = W0 at HS0 ⊢
  go_loopw [8] (fun k wr => ∃ (v : Value) (i : Nat), k = .int .i64 (i : Int) ∧ i ≤ l.length ∧ PSB w (.int .i64 p) (.slice a l.length cap) (p) ((l.take i).map (mf x y)) v wr) (fun k _ => l.length - (intOf k).toNat)
  case atStart => exact ⟨_, 0, rfl, Nat.zero_le _, HS0.out⟩
  case round =>
    obtain ⟨v, i, rfl, hil, hS⟩ := hrel
    have HS := Lib.hid hS
    have hsz := hS.1.size
    have ka := hS.carg
    clear hS
    by_cases h1 : i < l.length
    · obtain ⟨g, off, rfl⟩ := HA.out (ne_of_lt_len h1)
      obtain ⟨b, n, hsi⟩ : ∃ b n, l[i]? = some (b, n) := ⟨l[i].1, l[i].2, List.getElem?_eq_getElem h1⟩
      obtain ⟨hg, c0, c1⟩ := SlotsAt.get (HV.out.below HS.out.1.below) hsi
      have HI := Lib.hid hsi
      have hol : ((l.take i).map (mf x y)).length = i := by rw [List.length_map, List.length_take]; omega
      obtain ⟨out, hout⟩ : ∃ out, out = (l.take i).map (mf x y) := ⟨_, rfl⟩
      rw [← hout] at HS hol
      have HO := Lib.hid hout
      have holb : out.length ≤ 8796093021952 := by omega
      clear hsi hout hol
      cases b with
      | false =>
        have H1 := Lib.hid (HS.out.alloc (.cells #[.bool false, .int .i64 (n)] 53))
        have hzA : (wr.alloc (.cells #[.bool false, .int .i64 (n)] 53)).heap.size = wr.heap.size + 1 := by simp
        have k1 := H1.out.cvar
        go_wp2_with (at_builtin; refine wpList_append_own _ rfl _ _ 37 rfl (w.heap.size + 3) 53 i53 (.agg #[.bool false, .int .i64 0]) 2 16 Try.underlying37 pi p0 p1 p2 rfl (by decide) v out.length (slits out) rfl (H1.out.alloc (.cells #[.bool false, .int .i64 (n)] 53)).1.own ⟨wr.heap.size + 1, 0, none⟩ 1 1 [.bool false, .int .i64 (n)] rfl rfl (by rw [← hzA]; exact World.news_of_block (cs := #[.bool false, .int .i64 (n)]) (t := 53) (fr := (0, 0)) (heap_alloc_new _ _)) (one_slot _ _) (by unfold maxLen; omega) (by omega) (by simp; omega) ?_; intro v' w1 hown' hgrow hnl; obtain ⟨g', c', rfl⟩ := Joins.ownsRow_form hown' (by omega); have hw3 := (H1.out.alloc (.cells #[.bool false, .int .i64 (n)] 53)).grown hgrow; have k1 := pvar_of hw3; have hf := pfre_of hw3)
        have HP := Lib.hid ((H1.out.alloc (.cells #[.bool false, .int .i64 (n)] 53)).push hown' hgrow)
        go_roundw
        case rel => exact ⟨_, i + 1, by go_num, by omega, by rw [pats_next HI.out (show mf x y (false, n) = (false, n) by simp [mf, Plain.isVar]), ← HO.out]; exact HP.out⟩
        case measure => simp only [intOf]; omega
      | true =>
        by_cases hx : n = x
        · have hb : (n == x) = true := by simp [hx]
          have H1 := Lib.hid (HS.out.alloc (.cells #[.bool true, .int .i64 (y)] 53))
          have hzA : (wr.alloc (.cells #[.bool true, .int .i64 (y)] 53)).heap.size = wr.heap.size + 1 := by simp
          have k1 := H1.out.cvar
          go_wp2_with (at_builtin; refine wpList_append_own _ rfl _ _ 37 rfl (w.heap.size + 3) 53 i53 (.agg #[.bool false, .int .i64 0]) 2 16 Try.underlying37 pi p0 p1 p2 rfl (by decide) v out.length (slits out) rfl (H1.out.alloc (.cells #[.bool true, .int .i64 (y)] 53)).1.own ⟨wr.heap.size + 1, 0, none⟩ 1 1 [.bool true, .int .i64 (y)] rfl rfl (by rw [← hzA]; exact World.news_of_block (cs := #[.bool true, .int .i64 (y)]) (t := 53) (fr := (0, 0)) (heap_alloc_new _ _)) (one_slot _ _) (by unfold maxLen; omega) (by omega) (by simp; omega) ?_; intro v' w1 hown' hgrow hnl; obtain ⟨g', c', rfl⟩ := Joins.ownsRow_form hown' (by omega); have hw3 := (H1.out.alloc (.cells #[.bool true, .int .i64 (y)] 53)).grown hgrow; have k1 := pvar_of hw3; have hf := pfre_of hw3)
          have HP := Lib.hid ((H1.out.alloc (.cells #[.bool true, .int .i64 (y)] 53)).push hown' hgrow)
          go_roundw
          case rel => exact ⟨_, i + 1, by go_num, by omega, by rw [pats_next HI.out (show mf x y (true, n) = (true, y) by simp [mf, Plain.isVar, hx]), ← HO.out]; exact HP.out⟩
          case measure => simp only [intOf]; omega
        · have hb : (n == x) = false := by simpa using hx
          have H1 := Lib.hid (HS.out.alloc (.cells #[.bool true, .int .i64 (n)] 53))
          have hzA : (wr.alloc (.cells #[.bool true, .int .i64 (n)] 53)).heap.size = wr.heap.size + 1 := by simp
          have k1 := H1.out.cvar
          go_wp2_with (at_builtin; refine wpList_append_own _ rfl _ _ 37 rfl (w.heap.size + 3) 53 i53 (.agg #[.bool false, .int .i64 0]) 2 16 Try.underlying37 pi p0 p1 p2 rfl (by decide) v out.length (slits out) rfl (H1.out.alloc (.cells #[.bool true, .int .i64 (n)] 53)).1.own ⟨wr.heap.size + 1, 0, none⟩ 1 1 [.bool true, .int .i64 (n)] rfl rfl (by rw [← hzA]; exact World.news_of_block (cs := #[.bool true, .int .i64 (n)]) (t := 53) (fr := (0, 0)) (heap_alloc_new _ _)) (one_slot _ _) (by unfold maxLen; omega) (by omega) (by simp; omega) ?_; intro v' w1 hown' hgrow hnl; obtain ⟨g', c', rfl⟩ := Joins.ownsRow_form hown' (by omega); have hw3 := (H1.out.alloc (.cells #[.bool true, .int .i64 (n)] 53)).grown hgrow; have k1 := pvar_of hw3; have hf := pfre_of hw3)
          have HP := Lib.hid ((H1.out.alloc (.cells #[.bool true, .int .i64 (n)] 53)).push hown' hgrow)
          go_roundw
          case rel => exact ⟨_, i + 1, by go_num, by omega, by rw [pats_next HI.out (show mf x y (true, n) = (true, n) by simp [mf, Plain.isVar, hx]), ← HO.out]; exact HP.out⟩
          case measure => simp only [intOf]; omega
    · have e : i = l.length := by omega
      have HO := Lib.hid (show PSB w (.int .i64 p) (.slice a l.length cap) (p) (l.map (mf x y)) v wr by have := HS.out; rw [e, List.take_length] at this; exact this)
      have v0 : wr.cell? ⟨w.heap.size + 2, 0, none⟩ = some (.int .i64 (p)) := by have := HO.out.1.var; simp only [World.cell?, this]; rfl
      have v1 := HO.out.cvar
      have t0 : wr.cell? ⟨w.heap.size + 1, 0, none⟩ = some (.int .i64 0) := by have := HO.out.1.res; simp only [World.cell?, this]; rfl
      have t1 : wr.cell? ⟨w.heap.size + 1, 1, none⟩ = some (.slice none 0 0) := by have := HO.out.1.res; simp only [World.cell?, this]; rfl
      have f0 : wr.frozen? ⟨w.heap.size + 1, 0, none⟩ = false := by have := HO.out.1.res; simp only [World.frozen?, this]; rfl
      have f1 : wr.frozen? ⟨w.heap.size + 1, 1, none⟩ = false := by have := HO.out.1.res; simp only [World.frozen?, this]; rfl
      obtain ⟨av, nv, cv, rfl⟩ := OwnSlots.form (l := l.map (mf x y)) HO.out.1.own
      clear e HS
      go_wp2
      obtain ⟨s1, s2, s3⟩ := HO.out.stop
      exact bodyPost_ret2 (results_cell_row rfl _ _ (w.heap.size + 1) 39 #[.int .i64 (p), .slice av nv cv] (0, 0) _ rfl s1 Try.underlying39 rfl Try.size39) ⟨_, rfl, s2, s3⟩

set_option maxRecDepth 100000 in
set_option maxHeartbeats 3200000 in
theorem put_any (p : Int) (l : List Slt) (x y : Int) (v : Value) (w : World) (hv : SlotsAt w w.heap.size v l) (hn : l.length ≤ 8796093021952) :
    Calls Try.prog 31 #[.agg #[.int .i64 p, v], .int .i64 x, .int .i64 y] w (PatIs p (l.map (uf x y)) w) := by
  obtain ⟨i53, pi, p0, p1, p2⟩ := info_parts Try.info53
  obtain ⟨a, cap, rfl, ha⟩ := hv.form
  have HV := Lib.hid hv
  have HA := Lib.hid ha
  clear hv ha
  go_enter Try.func31, Try.ntmps31
  go_wp2
  have HS0 := Lib.hid (PSB.start w (.int .i64 p) (.slice a l.length cap) (p))
  generalize (((w.alloc (.cells #[.int .i64 p, .slice a l.length cap] 39)).alloc (.cells #[.int .i64 0, .slice none 0 0] 39)).alloc (.cells #[.int .i64 (p), .slice none 0 0] 39)) = W0 at HS0 ⊢
  go_loopw [8] (fun k wr => ∃ (v : Value) (i : Nat), k = .int .i64 (i : Int) ∧ i ≤ l.length ∧ PSB w (.int .i64 p) (.slice a l.length cap) (p) ((l.take i).map (uf x y)) v wr) (fun k _ => l.length - (intOf k).toNat)
  case atStart => exact ⟨_, 0, rfl, Nat.zero_le _, HS0.out⟩
  case round =>
    obtain ⟨v, i, rfl, hil, hS⟩ := hrel
    have HS := Lib.hid hS
    have hsz := hS.1.size
    have ka := hS.carg
    clear hS
    by_cases h1 : i < l.length
    · obtain ⟨g, off, rfl⟩ := HA.out (ne_of_lt_len h1)
      obtain ⟨b, n, hsi⟩ : ∃ b n, l[i]? = some (b, n) := ⟨l[i].1, l[i].2, List.getElem?_eq_getElem h1⟩
      obtain ⟨hg, c0, c1⟩ := SlotsAt.get (HV.out.below HS.out.1.below) hsi
      have HI := Lib.hid hsi
      have hol : ((l.take i).map (uf x y)).length = i := by rw [List.length_map, List.length_take]; omega
      obtain ⟨out, hout⟩ : ∃ out, out = (l.take i).map (uf x y) := ⟨_, rfl⟩
      rw [← hout] at HS hol
      have HO := Lib.hid hout
      have holb : out.length ≤ 8796093021952 := by omega
      clear hsi hout hol
      cases b with
      | false =>
        have H1 := Lib.hid (HS.out.alloc (.cells #[.bool false, .int .i64 (n)] 53))
        have hzA : (wr.alloc (.cells #[.bool false, .int .i64 (n)] 53)).heap.size = wr.heap.size + 1 := by simp
        have k1 := H1.out.cvar
        go_wp2_with (at_builtin; refine wpList_append_own _ rfl _ _ 37 rfl (w.heap.size + 3) 53 i53 (.agg #[.bool false, .int .i64 0]) 2 16 Try.underlying37 pi p0 p1 p2 rfl (by decide) v out.length (slits out) rfl (H1.out.alloc (.cells #[.bool false, .int .i64 (n)] 53)).1.own ⟨wr.heap.size + 1, 0, none⟩ 1 1 [.bool false, .int .i64 (n)] rfl rfl (by rw [← hzA]; exact World.news_of_block (cs := #[.bool false, .int .i64 (n)]) (t := 53) (fr := (0, 0)) (heap_alloc_new _ _)) (one_slot _ _) (by unfold maxLen; omega) (by omega) (by simp; omega) ?_; intro v' w1 hown' hgrow hnl; obtain ⟨g', c', rfl⟩ := Joins.ownsRow_form hown' (by omega); have hw3 := (H1.out.alloc (.cells #[.bool false, .int .i64 (n)] 53)).grown hgrow; have k1 := pvar_of hw3; have hf := pfre_of hw3)
        have HP := Lib.hid ((H1.out.alloc (.cells #[.bool false, .int .i64 (n)] 53)).push hown' hgrow)
        go_roundw
        case rel => exact ⟨_, i + 1, by go_num, by omega, by rw [pats_next HI.out (show uf x y (false, n) = (false, n) by simp [uf, Plain.isVar]), ← HO.out]; exact HP.out⟩
        case measure => simp only [intOf]; omega
      | true =>
        by_cases hx : n = x
        · have hb : (n == x) = true := by simp [hx]
          by_cases hy : y < 0
          · have H1 := Lib.hid (HS.out.alloc (.cells #[.bool false, .int .i64 (0)] 53))
            have hzA : (wr.alloc (.cells #[.bool false, .int .i64 (0)] 53)).heap.size = wr.heap.size + 1 := by simp
            have k1 := H1.out.cvar
            go_wp2_with (at_builtin; refine wpList_append_own _ rfl _ _ 37 rfl (w.heap.size + 3) 53 i53 (.agg #[.bool false, .int .i64 0]) 2 16 Try.underlying37 pi p0 p1 p2 rfl (by decide) v out.length (slits out) rfl (H1.out.alloc (.cells #[.bool false, .int .i64 (0)] 53)).1.own ⟨wr.heap.size + 1, 0, none⟩ 1 1 [.bool false, .int .i64 (0)] rfl rfl (by rw [← hzA]; exact World.news_of_block (cs := #[.bool false, .int .i64 (0)]) (t := 53) (fr := (0, 0)) (heap_alloc_new _ _)) (one_slot _ _) (by unfold maxLen; omega) (by omega) (by simp; omega) ?_; intro v' w1 hown' hgrow hnl; obtain ⟨g', c', rfl⟩ := Joins.ownsRow_form hown' (by omega); have hw3 := (H1.out.alloc (.cells #[.bool false, .int .i64 (0)] 53)).grown hgrow; have k1 := pvar_of hw3; have hf := pfre_of hw3)
            have HP := Lib.hid ((H1.out.alloc (.cells #[.bool false, .int .i64 (0)] 53)).push hown' hgrow)
            go_roundw
            case rel => exact ⟨_, i + 1, by go_num, by omega, by rw [pats_next HI.out (show uf x y (true, n) = (false, 0) by simp [uf, Plain.isVar, hx, hy]), ← HO.out]; exact HP.out⟩
            case measure => simp only [intOf]; omega
          · have H1 := Lib.hid (HS.out.alloc (.cells #[.bool false, .int .i64 (y)] 53))
            have hzA : (wr.alloc (.cells #[.bool false, .int .i64 (y)] 53)).heap.size = wr.heap.size + 1 := by simp
            have k1 := H1.out.cvar
            go_wp2_with (at_builtin; refine wpList_append_own _ rfl _ _ 37 rfl (w.heap.size + 3) 53 i53 (.agg #[.bool false, .int .i64 0]) 2 16 Try.underlying37 pi p0 p1 p2 rfl (by decide) v out.length (slits out) rfl (H1.out.alloc (.cells #[.bool false, .int .i64 (y)] 53)).1.own ⟨wr.heap.size + 1, 0, none⟩ 1 1 [.bool false, .int .i64 (y)] rfl rfl (by rw [← hzA]; exact World.news_of_block (cs := #[.bool false, .int .i64 (y)]) (t := 53) (fr := (0, 0)) (heap_alloc_new _ _)) (one_slot _ _) (by unfold maxLen; omega) (by omega) (by simp; omega) ?_; intro v' w1 hown' hgrow hnl; obtain ⟨g', c', rfl⟩ := Joins.ownsRow_form hown' (by omega); have hw3 := (H1.out.alloc (.cells #[.bool false, .int .i64 (y)] 53)).grown hgrow; have k1 := pvar_of hw3; have hf := pfre_of hw3)
            have HP := Lib.hid ((H1.out.alloc (.cells #[.bool false, .int .i64 (y)] 53)).push hown' hgrow)
            go_roundw
            case rel => exact ⟨_, i + 1, by go_num, by omega, by rw [pats_next HI.out (show uf x y (true, n) = (false, y) by simp [uf, Plain.isVar, hx, hy]), ← HO.out]; exact HP.out⟩
            case measure => simp only [intOf]; omega
        · have hb : (n == x) = false := by simpa using hx
          have H1 := Lib.hid (HS.out.alloc (.cells #[.bool true, .int .i64 (n)] 53))
          have hzA : (wr.alloc (.cells #[.bool true, .int .i64 (n)] 53)).heap.size = wr.heap.size + 1 := by simp
          have k1 := H1.out.cvar
          go_wp2_with (at_builtin; refine wpList_append_own _ rfl _ _ 37 rfl (w.heap.size + 3) 53 i53 (.agg #[.bool false, .int .i64 0]) 2 16 Try.underlying37 pi p0 p1 p2 rfl (by decide) v out.length (slits out) rfl (H1.out.alloc (.cells #[.bool true, .int .i64 (n)] 53)).1.own ⟨wr.heap.size + 1, 0, none⟩ 1 1 [.bool true, .int .i64 (n)] rfl rfl (by rw [← hzA]; exact World.news_of_block (cs := #[.bool true, .int .i64 (n)]) (t := 53) (fr := (0, 0)) (heap_alloc_new _ _)) (one_slot _ _) (by unfold maxLen; omega) (by omega) (by simp; omega) ?_; intro v' w1 hown' hgrow hnl; obtain ⟨g', c', rfl⟩ := Joins.ownsRow_form hown' (by omega); have hw3 := (H1.out.alloc (.cells #[.bool true, .int .i64 (n)] 53)).grown hgrow; have k1 := pvar_of hw3; have hf := pfre_of hw3)
          have HP := Lib.hid ((H1.out.alloc (.cells #[.bool true, .int .i64 (n)] 53)).push hown' hgrow)
          go_roundw
          case rel => exact ⟨_, i + 1, by go_num, by omega, by rw [pats_next HI.out (show uf x y (true, n) = (true, n) by simp [uf, Plain.isVar, hx]), ← HO.out]; exact HP.out⟩
          case measure => simp only [intOf]; omega
    · have e : i = l.length := by omega
      have HO := Lib.hid (show PSB w (.int .i64 p) (.slice a l.length cap) (p) (l.map (uf x y)) v wr by have := HS.out; rw [e, List.take_length] at this; exact this)
      have v0 : wr.cell? ⟨w.heap.size + 2, 0, none⟩ = some (.int .i64 (p)) := by have := HO.out.1.var; simp only [World.cell?, this]; rfl
      have v1 := HO.out.cvar
      have t0 : wr.cell? ⟨w.heap.size + 1, 0, none⟩ = some (.int .i64 0) := by have := HO.out.1.res; simp only [World.cell?, this]; rfl
      have t1 : wr.cell? ⟨w.heap.size + 1, 1, none⟩ = some (.slice none 0 0) := by have := HO.out.1.res; simp only [World.cell?, this]; rfl
      have f0 : wr.frozen? ⟨w.heap.size + 1, 0, none⟩ = false := by have := HO.out.1.res; simp only [World.frozen?, this]; rfl
      have f1 : wr.frozen? ⟨w.heap.size + 1, 1, none⟩ = false := by have := HO.out.1.res; simp only [World.frozen?, this]; rfl
      obtain ⟨av, nv, cv, rfl⟩ := OwnSlots.form (l := l.map (uf x y)) HO.out.1.own
      clear e HS
      go_wp2
      obtain ⟨s1, s2, s3⟩ := HO.out.stop
      exact bodyPost_ret2 (results_cell_row rfl _ _ (w.heap.size + 1) 39 #[.int .i64 (p), .slice av nv cv] (0, 0) _ rfl s1 Try.underlying39 rfl Try.size39) ⟨_, rfl, s2, s3⟩

end Go.Proofs.Ytlandkindbmbfaa
/-
  The state of the walk of edictlaw10.usual. No condition beyond those that each lemma states.
-/
namespace Go.Proofs.Ytlandkindbmbfaa
open Go.RowKit Plain

theorem Try.size33 : (Try.prog.info? 33).map (·.size) = some 2 := by kernel_rfl
/-- The state of the loop: the argument's box, the result's cells, the row that grows. -/
structure RS (w : World) (q : Value) (p : Int) (out : List Int) (v : Value) (wr : World) : Prop where
  below : Below w.heap.size w wr
  size : w.heap.size + 3 ≤ wr.heap.size
  box : wr.heap[w.heap.size]? = some (.cells #[q, v] 33 (0, 0)) → True
  res : wr.heap[w.heap.size + 1]? = some (.cells #[.int .i64 0, .slice none 0 0] 33 (0, 0))
  var : wr.heap[w.heap.size + 2]? = some (.cells #[.int .i64 p, v] 33 (0, 0))
  own : wr.ownsRow (w.heap.size + 3) 3 1 v out.length (lits out)

section
variable {w wr w1 : World} {p : Int} {out : List Int} {v v' : Value} {n : Int} {a0 a1 : Value}
/-- .. with the argument's box. -/
def RSB (w : World) (a0 a1 : Value) (p : Int) (out : List Int) (v : Value) (wr : World) : Prop := RS w .nilIface p out v wr ∧ wr.heap[w.heap.size]? = some (.cells #[a0, a1] 33 (0, 0))
theorem RSB.alloc (h : RSB w a0 a1 p out v wr) (o : Obj) : RSB w a0 a1 p out v (wr.alloc o) := by
  obtain ⟨h, hb⟩ := h
  have hz := h.size
  have hg := World.grownBy_alloc wr o none
  exact ⟨⟨h.below.alloc (by omega) o, by simp; omega, fun _ => trivial, (hg.block _ (by omega) (by simp)).trans h.res, (hg.block _ (by omega) (by simp)).trans h.var, h.own.alloc o⟩, (hg.block _ (by omega) (by simp)).trans hb⟩
theorem RSB.carg (h : RSB w a0 a1 p out v wr) : wr.cell? ⟨w.heap.size, 1, none⟩ = some a1 := by have := h.2; simp only [World.cell?, this]; rfl
theorem RSB.cvar (h : RSB w a0 a1 p out v wr) : wr.cell? ⟨w.heap.size + 2, 1, none⟩ = some v := by have := h.1.var; simp only [World.cell?, this]; rfl
theorem RSB.grown (h : RSB w a0 a1 p out v wr) (hg : wr.grownBy w1 v.ownBlock) : w1.heap[w.heap.size + 2]? = some (.cells #[.int .i64 p, v] 33 (0, 0)) :=
  (hg.block _ (by have := h.1.size; omega) (own_ge h.1.own (by omega))).trans h.1.var
theorem rvar_of (h : w1.heap[w.heap.size + 2]? = some (.cells #[.int .i64 p, v] 33 (0, 0))) : w1.cell? ⟨w.heap.size + 2, 1, none⟩ = some v := by simp only [World.cell?, h]; rfl
theorem rfre_of (h : w1.heap[w.heap.size + 2]? = some (.cells #[.int .i64 p, v] 33 (0, 0))) : w1.frozen? ⟨w.heap.size + 2, 1, none⟩ = false := by simp only [World.frozen?, h]; rfl
/-- Behind the append and the store of what it gave. -/
theorem RSB.push (h : RSB w a0 a1 p out v wr) (hown' : w1.ownsRow (w.heap.size + 3) 3 1 v' (out.length + 1) (lits out ++ [.int .i64 n])) (hg : wr.grownBy w1 v.ownBlock) :
    RSB w a0 a1 p (out ++ [n]) v' (w1.setCell ⟨w.heap.size + 2, 1, none⟩ v') := by
  obtain ⟨h, hb⟩ := h
  have hz := h.size
  refine ⟨⟨(h.below.grown hg (by omega) (fun k hk => by have := (h.own.lt k hk).1; omega)).setCell (p := ⟨w.heap.size + 2, 1, none⟩) (show w.heap.size ≤ w.heap.size + 2 by omega) _, by have := hg.size; simp [World.setCell]; omega, fun _ => trivial, ?_, ?_, ?_⟩, ?_⟩
  · rw [Below.heap_setCell _ _ _ _ (by simp)]; exact (hg.block _ (by omega) (own_ge h.own (by omega))).trans h.res
  · exact block_setCell ((hg.block _ (by omega) (own_ge h.own (by omega))).trans h.var)
  · have := ownsRow_setCell_below hown' (a := ⟨w.heap.size + 2, 1, none⟩) (show w.heap.size + 2 < w.heap.size + 3 by omega) v'
    rw [lits_snoc, List.length_append, List.length_singleton]; exact this
  · rw [Below.heap_setCell _ _ _ _ (by simp)]; exact (hg.block _ (by omega) (own_ge h.own (by omega))).trans hb
theorem RSB.start (w : World) (a0 a1 : Value) (p : Int) : RSB w a0 a1 p [] (.slice none 0 0) (((w.alloc (.cells #[a0, a1] 33)).alloc (.cells #[.int .i64 0, .slice none 0 0] 33)).alloc (.cells #[.int .i64 p, .slice none 0 0] 33)) := by
  obtain ⟨w0, h0⟩ : ∃ w0, w0 = w.alloc (.cells #[a0, a1] 33) := ⟨_, rfl⟩
  obtain ⟨w1, h1⟩ : ∃ w1, w1 = w0.alloc (.cells #[.int .i64 0, .slice none 0 0] 33) := ⟨_, rfl⟩
  have z0 : w0.heap.size = w.heap.size + 1 := by rw [h0]; simp
  have z1 : w1.heap.size = w.heap.size + 2 := by rw [h1]; simp; omega
  rw [← h0, ← h1]
  have b0 : w0.heap[w.heap.size]? = some (.cells #[a0, a1] 33 (0, 0)) := by rw [h0]; exact heap_alloc_new _ _
  have b1 : w1.heap[w.heap.size + 1]? = some (.cells #[.int .i64 0, .slice none 0 0] 33 (0, 0)) := by rw [h1, ← z0]; exact heap_alloc_new _ _
  refine ⟨⟨?_, by simp; omega, fun _ => trivial, ?_, ?_, World.ownsRow_nil _ _ _ _⟩, ?_⟩
  · rw [h1, h0]
    exact (((Below.refl _ _).alloc (Nat.le_refl _) _).alloc (by simp) _).alloc (by simp; omega) _
  · rw [Below.heap_alloc _ _ _ (by omega)]; exact b1
  · rw [← z1]; exact heap_alloc_new _ _
  · rw [Below.heap_alloc _ _ _ (by omega), h1, Below.heap_alloc _ _ _ (by omega)]; exact b0
/-- The end: the row is copied into the result. -/
theorem RSB.stop (h : RSB w a0 a1 p out v wr) : ((wr.setCell ⟨w.heap.size + 1, 0, none⟩ (.int .i64 p)).setCell ⟨w.heap.size + 1, 1, none⟩ v).heap[w.heap.size + 1]? = some (.cells #[.int .i64 p, v] 33 (0, 0)) ∧
    OwnInts ((wr.setCell ⟨w.heap.size + 1, 0, none⟩ (.int .i64 p)).setCell ⟨w.heap.size + 1, 1, none⟩ v) w.heap.size v out ∧ Below w.heap.size w ((wr.setCell ⟨w.heap.size + 1, 0, none⟩ (.int .i64 p)).setCell ⟨w.heap.size + 1, 1, none⟩ v) := by
  refine ⟨block_setCell (block_setCell h.1.res), ?_, (h.1.below.setCell (p := ⟨w.heap.size + 1, 0, none⟩) (show w.heap.size ≤ w.heap.size + 1 by omega) _).setCell (p := ⟨w.heap.size + 1, 1, none⟩) (show w.heap.size ≤ w.heap.size + 1 by omega) _⟩
  have h1 := ownsRow_setCell_below (ownsRow_setCell_below h.1.own (a := ⟨w.heap.size + 1, 0, none⟩) (show w.heap.size + 1 < w.heap.size + 3 by omega) (.int .i64 p)) (a := ⟨w.heap.size + 1, 1, none⟩) (show w.heap.size + 1 < w.heap.size + 3 by omega) v
  exact World.ownsRow.mono h1 (by omega)
end

end Go.Proofs.Ytlandkindbmbfaa
/-
  The walk of edictlaw10.filled: the constants, and for each variable a number that hangs on it alone. Conditions: the numbers are ints, the list is within the form's own reach.
-/
namespace Go.Proofs.Ytlandkindbmbfaa
open Go.RowKit Plain

/-- What filled puts in place of a variable. -/
def XR (x n : Int) : Int := bits .and .i64 (bits .xor .i64 n x) 65535
def fl (x : Int) (a : Slt) : Int := if a.1 then XR x a.2 else a.2
def FillIs (l : List Slt) (x : Int) (w : World) (e : Ending) (w' : World) : Prop := ∃ v, e = .returned v ∧ OwnInts w' w.heap.size v (l.map (fl x)) ∧ Below w.heap.size w w'
theorem fl_next {l : List Slt} {i : Nat} {x y : Int} {a : Slt} (hi : l[i]? = some a) (he : fl x a = y) : (l.take (i + 1)).map (fl x) = (l.take i).map (fl x) ++ [y] := by
  rw [take_one hi, List.map_append, ← he]; rfl

set_option maxRecDepth 100000 in
set_option maxHeartbeats 1600000 in
theorem filled_any (p : Int) (l : List Slt) (x : Int) (v : Value) (w : World) (hv : SlotsAt w w.heap.size v l) (hn : l.length ≤ 8796093021952) :
    Calls Try.prog 25 #[.agg #[.int .i64 p, v], .int .i64 x] w (FillIs l x w) := by
  obtain ⟨i3, qi, q0, q1, q2⟩ := info_parts Try.info3
  obtain ⟨a, cap, rfl, ha⟩ := hv.form
  have HA := Lib.hid ha
  obtain ⟨W0, hW0⟩ : ∃ W0, W0 = w.alloc (.cells #[.int .i64 p, .slice a l.length cap] 39) := ⟨_, rfl⟩
  have hz0 : W0.heap.size = w.heap.size + 1 := by rw [hW0]; simp
  have HB0 := Lib.hid (show Below w.heap.size w W0 by rw [hW0]; exact (Below.refl _ _).alloc (Nat.le_refl _) _)
  have HK := Lib.hid (show W0.cell? ⟨w.heap.size, 1, none⟩ = some (.slice a l.length cap) by rw [hW0]; simp)
  have HV := Lib.hid (hv.below HB0.out)
  clear hv ha
  go_enter Try.func25, Try.ntmps25
  go_wp2
  rw [← hW0]
  clear hW0
  go_loopw [5, 6] (fun v k wr => ∃ (o : Value) (i : Nat), o = v ∧ k = .int .i64 (i : Int) ∧ i ≤ l.length ∧ Below W0.heap.size W0 wr ∧ OwnInts wr W0.heap.size o ((l.take i).map (fl x))) (fun _ k _ => l.length - (intOf k).toNat)
  case atStart => exact ⟨_, 0, rfl, rfl, Nat.zero_le _, Below.refl _ _, OwnInts.nil _ _⟩
  case round =>
    obtain ⟨v, i, rfl, rfl, hil, hnx, hown⟩ := hrel
    have hsz := hnx.size
    have ka := below_cells hnx (p := ⟨w.heap.size, 1, none⟩) (show w.heap.size < W0.heap.size by omega) HK.out
    have NX := Lib.hid hnx
    by_cases h1 : i < l.length
    · obtain ⟨g, off, rfl⟩ := HA.out (ne_of_lt_len h1)
      obtain ⟨b, n, hsi⟩ : ∃ b n, l[i]? = some (b, n) := ⟨l[i].1, l[i].2, List.getElem?_eq_getElem h1⟩
      obtain ⟨hg, c0, c1⟩ := SlotsAt.get ((HV.out.mono (show w.heap.size ≤ W0.heap.size by omega)).below NX.out) hsi
      have HI := Lib.hid hsi
      have hol : ((l.take i).map (fl x)).length = i := by rw [List.length_map, List.length_take]; omega
      obtain ⟨out, hout⟩ : ∃ out, out = (l.take i).map (fl x) := ⟨_, rfl⟩
      rw [← hout] at hown hol
      have HO := Lib.hid hown
      have HT := Lib.hid hout
      have holb : out.length ≤ 8796093021952 := by omega
      clear hsi hout hol hnx hown
      cases b with
      | false =>
        go_wp2_with (at_builtin; refine wpList_append_own _ rfl _ _ 25 rfl W0.heap.size 3 i3 (.int .i64 0) 1 8 Try.underlying25 qi q0 q1 q2 rfl (by decide) v out.length (lits out) rfl (World.ownsRow.alloc HO.out _) ⟨wr.heap.size, 0, none⟩ 1 1 [.int .i64 (n)] rfl rfl (cell_one_new _ _ _) (one_i64 _) (by unfold maxLen; omega) (by omega) (by simp; omega) ?_; intro v' w1 hown' hgrow hnl)
        have R := own_snoc hsz HO.out NX.out hown' hgrow
        go_roundw
        case rel => exact ⟨_, i + 1, rfl, by go_num, by omega, R.2, by rw [fl_next HI.out (show fl x (false, n) = n from rfl), ← HT.out]; exact R.1⟩
        case measure => simp only [intOf]; omega
      | true =>
        go_wp2_with (at_builtin; refine wpList_append_own _ rfl _ _ 25 rfl W0.heap.size 3 i3 (.int .i64 0) 1 8 Try.underlying25 qi q0 q1 q2 rfl (by decide) v out.length (lits out) rfl (World.ownsRow.alloc HO.out _) ⟨wr.heap.size, 0, none⟩ 1 1 [.int .i64 (bits .and .i64 (bits .xor .i64 n x) 65535)] rfl rfl (cell_one_new _ _ _) (one_i64 _) (by unfold maxLen; omega) (by omega) (by simp; omega) ?_; intro v' w1 hown' hgrow hnl)
        have R := own_snoc hsz HO.out NX.out hown' hgrow
        go_roundw
        case rel => exact ⟨_, i + 1, rfl, by go_num, by omega, R.2, by rw [fl_next HI.out (show fl x (true, n) = bits .and .i64 (bits .xor .i64 n x) 65535 from rfl), ← HT.out]; exact R.1⟩
        case measure => simp only [intOf]; omega
    · have e : i = l.length := by omega
      have HO := Lib.hid (show OwnInts wr W0.heap.size v (l.map (fl x)) by rw [e, List.take_length] at hown; exact hown)
      clear e hown hnx
      go_wp2
      go_ret
      exact ⟨_, rfl, OwnInts.mono HO.out (by omega), HB0.out.trans (NX.out.mono (by omega))⟩

end Go.Proofs.Ytlandkindbmbfaa
/-
  Plain laws of patterns: whether some numbers in place of a pattern's variables make it a row; that this is whether the row fits the pattern's shape. No program is in sight here; no condition beyond those that each lemma states.
-/
namespace Go.Proofs.Ytlandkindbmbfaa.Plain

def slAt (l : List Slt) (i : Nat) : Slt := l[i]?.getD (false, 0)
def instAt (l : List Slt) (args : List Int) (i : Nat) : Bool := at' args i == (if (slAt l i).1 then at' args (firstV l (slAt l i).2) else (slAt l i).2)
def instB (p : Int) (l : List Slt) (pred : Int) (args : List Int) : Bool := decide (p = pred) && (decide (l.length = args.length) && (List.range args.length).all (instAt l args))

theorem instB_pred {p q : Int} {l : List Slt} {args : List Int} (h : p ≠ q) : instB p l q args = false := by unfold instB; rw [decide_eq_false h]; rfl
theorem instB_len {p q : Int} {l : List Slt} {args : List Int} (h : l.length ≠ args.length) : instB p l q args = false := by unfold instB; rw [decide_eq_false h]; simp
theorem instB_bad {p q : Int} {l : List Slt} {args : List Int} {i : Nat} (hi : i < args.length) (h : instAt l args i = false) : instB p l q args = false := by unfold instB; rw [all_bad hi h]; simp
theorem instB_true {p q : Int} {l : List Slt} {args : List Int} (hp : p = q) (hl : l.length = args.length) (h : AllTo (instAt l args) args.length) : instB p l q args = true := by
  unfold instB; rw [decide_eq_true hp, decide_eq_true hl, all_range.2 h]; rfl
theorem slAt_of {l : List Slt} {i : Nat} {a : Slt} (h : l[i]? = some a) : slAt l i = a := by unfold slAt; rw [h]; rfl
theorem instAt_const {l : List Slt} {args : List Int} {i : Nat} {c y : Int} (h : l[i]? = some (false, c)) (hy : y = at' args i) : instAt l args i = (y == c) := by
  unfold instAt; rw [slAt_of h, ← hy]; rfl
theorem instAt_var {l : List Slt} {args : List Int} {i : Nat} {n y : Int} (h : l[i]? = some (true, n)) (hy : y = at' args i) : instAt l args i = (y == at' args (firstV l n)) := by
  unfold instAt; rw [slAt_of h, ← hy]; rfl

/-- What is bound so far. -/
structure Bd (l : List Slt) (args : List Int) (i : Nat) (B : List (Int × Int)) : Prop where
  good : ∀ a, a ∈ B → firstV l a.1 < i ∧ a.2 = at' args (firstV l a.1)
  all : ∀ n, firstV l n < i → ∃ y, (n, y) ∈ B
theorem Bd.start (l : List Slt) (args : List Int) : Bd l args 0 [] := ⟨fun a h => by simp at h, fun n h => by omega⟩
theorem Bd.const {l : List Slt} {args : List Int} {i : Nat} {B : List (Int × Int)} {c : Int} (h : Bd l args i B) (hi : l[i]? = some (false, c)) : Bd l args (i + 1) B :=
  ⟨fun a ha => ⟨by have := (h.good a ha).1; omega, (h.good a ha).2⟩, fun n hn => h.all n (by have := firstV_ne (n := n) hi (by simp); omega)⟩
theorem Bd.old {l : List Slt} {args : List Int} {i : Nat} {B : List (Int × Int)} {n : Int} (h : Bd l args i B) (hi : l[i]? = some (true, n)) (ho : firstV l n < i) : Bd l args (i + 1) B :=
  ⟨fun a ha => ⟨by have := (h.good a ha).1; omega, (h.good a ha).2⟩, fun m hm => h.all m (by
    by_cases e : m = n
    · subst e; exact ho
    · have := firstV_ne (n := m) hi (by simp; omega); omega)⟩
theorem Bd.new {l : List Slt} {args : List Int} {i : Nat} {B : List (Int × Int)} {n y : Int} (h : Bd l args i B) (hi : l[i]? = some (true, n)) (ho : ¬ firstV l n < i) (hy : y = at' args i) : Bd l args (i + 1) (B ++ [(n, y)]) := by
  have hf : firstV l n = i := by have := firstV_le hi; omega
  refine ⟨fun a ha => ?_, fun m hm => ?_⟩
  · rcases List.mem_append.1 ha with ha | ha
    · exact ⟨by have := (h.good a ha).1; omega, (h.good a ha).2⟩
    · simp at ha; subst ha; exact ⟨by simp only; omega, by simp only; rw [hf]; exact hy⟩
  · by_cases e : m = n
    · subst e; exact ⟨y, by simp⟩
    · obtain ⟨z, hz⟩ := h.all m (by have := firstV_ne (n := m) hi (by simp; omega); omega)
      exact ⟨z, List.mem_append.2 (.inl hz)⟩

/-- The inner loop: whether n stands among the first j, and nothing there speaks against y. -/
structure Sc (B : List (Int × Int)) (n y : Int) (j : Nat) (old : Bool) : Prop where
  seen : old = true → ∃ (k : Nat) (z : Int), B[k]? = some (n, z)
  none : old = false → ∀ (k : Nat) (z : Int), k < j → B[k]? ≠ some (n, z)
  fine : ∀ (k : Nat) (z : Int), k < j → B[k]? = some (n, z) → z = y
theorem Sc.start (B : List (Int × Int)) (n y : Int) : Sc B n y 0 false := ⟨(fun h => nomatch h), fun _ k z h => by omega, fun k z h => by omega⟩
theorem Sc.skip {B : List (Int × Int)} {n y m z : Int} {j : Nat} {old : Bool} (h : Sc B n y j old) (hj : B[j]? = some (m, z)) (hm : m ≠ n) : Sc B n y (j + 1) old := by
  refine ⟨h.seen, fun e k x hk hx => ?_, fun k x hk hx => ?_⟩
  · by_cases ek : k = j
    · subst ek; rw [hj] at hx; simp at hx; exact hm hx.1
    · exact h.none e k x (by omega) hx
  · by_cases ek : k = j
    · subst ek; rw [hj] at hx; simp at hx; exact absurd hx.1 hm
    · exact h.fine k x (by omega) hx
theorem Sc.hit {B : List (Int × Int)} {n y : Int} {j : Nat} {old : Bool} (h : Sc B n y j old) (hj : B[j]? = some (n, y)) : Sc B n y (j + 1) true := by
  refine ⟨fun _ => ⟨j, y, hj⟩, (fun e => nomatch e), fun k x hk hx => ?_⟩
  by_cases ek : k = j
  · subst ek; rw [hj] at hx; simp at hx; exact hx.symm
  · exact h.fine k x (by omega) hx
theorem Sc.yes {l : List Slt} {args : List Int} {i : Nat} {B : List (Int × Int)} {n y : Int} (h : Sc B n y B.length true) (hb : Bd l args i B) : firstV l n < i ∧ y = at' args (firstV l n) := by
  obtain ⟨k, z, hk⟩ := h.seen rfl
  have hz := h.fine k z (List.getElem?_eq_some_iff.1 hk).1 hk
  have := hb.good _ (List.mem_of_getElem? hk)
  exact ⟨this.1, by rw [← hz]; exact this.2⟩
theorem Sc.no {l : List Slt} {args : List Int} {i : Nat} {B : List (Int × Int)} {n y : Int} (h : Sc B n y B.length false) (hb : Bd l args i B) : ¬ firstV l n < i := by
  intro hlt
  obtain ⟨z, hz⟩ := hb.all n hlt
  obtain ⟨k, hk, e⟩ := List.getElem_of_mem hz
  exact h.none rfl k z hk (by rw [List.getElem?_eq_getElem hk, e])
theorem Bd.bad {l : List Slt} {args : List Int} {i j : Nat} {B : List (Int × Int)} {n y z : Int} (h : Bd l args i B) (hj : B[j]? = some (n, z)) (hi : l[i]? = some (true, n)) (hy : y = at' args i) (hz : z ≠ y) : instAt l args i = false := by
  rw [instAt_var hi hy]
  have := (h.good _ (List.mem_of_getElem? hj)).2
  simp only at this
  rw [← this]; simpa using fun e => hz e.symm

/-- A row fits the shape of a pattern in order just if it is an instance of it. -/
theorem fits_inst {p q : Int} {l : List Slt} {args : List Int} (hp : 0 ≤ p) (hl : l.all okSlt = true) : fitsB (shapeB p l) q args = instB p l q args := by
  have hv := shape_valid hp hl
  rw [shapeB_ok hp hl] at hv ⊢
  unfold fitsB instB
  rw [hv, Bool.true_and]
  simp only [List.length_map]
  by_cases h1 : q = p
  · rw [decide_eq_true h1, decide_eq_true h1.symm, Bool.true_and, Bool.true_and]
    by_cases h2 : args.length = l.length
    · rw [decide_eq_true h2, decide_eq_true h2.symm, Bool.true_and, Bool.true_and, Bool.eq_iff_iff, all_range, all_range]
      have hat : ∀ i, i < args.length → fitAt (l.map (cellOf l)) args i = instAt l args i := by
        intro i hi
        have hai : l[i]? = some (l[i]'(by omega)) := List.getElem?_eq_getElem (by omega)
        generalize l[i]'(by omega) = a at hai
        obtain ⟨b, n⟩ := a
        have hc := at_map (f := cellOf l) hai
        cases b with
        | false =>
          have hn := List.all_eq_true.1 hl _ (List.mem_of_getElem? hai)
          simp [okSlt] at hn
          rw [fitAt_pos (x := n) (y := at' args i) (by rw [hc]; rfl) rfl hn, instAt_const hai rfl]
        | true =>
          rw [fitAt_neg (x := -1 - (firstV l n : Int)) (y := at' args i) (j := firstV l n) (z := at' args (firstV l n)) (by rw [hc]; rfl) rfl (by omega) (by omega) rfl, instAt_var hai rfl]
      exact ⟨fun h i hi => by rw [← hat i hi]; exact h i hi, fun h i hi => by rw [hat i hi]; exact h i hi⟩
    · rw [decide_eq_false h2, decide_eq_false (show ¬ l.length = args.length from fun e => h2 e.symm)]
      rfl
  · rw [decide_eq_false h1, decide_eq_false (show ¬ p = q from fun e => h1 e.symm)]
    rfl

/-- What a function of the variables makes of a pattern is an instance of it. -/
theorem inst_of_fun {p : Int} {l : List Slt} {f : Slt → Int} (hc : ∀ c, f (false, c) = c) : instB p l p (l.map f) = true := by
  refine instB_true rfl (by simp) (fun i hi => ?_)
  simp only [List.length_map] at hi
  have hai : l[i]? = some l[i] := List.getElem?_eq_getElem hi
  generalize l[i] = a at hai
  obtain ⟨b, n⟩ := a
  have hm := at_map (f := f) hai
  cases b with
  | false => rw [instAt_const hai hm.symm, hc]; simp
  | true =>
    have hle := firstV_le hai
    have hf := firstV_at (l := l) (n := n) (by omega)
    rw [instAt_var hai hm.symm, at_map (f := f) hf]; simp

end Go.Proofs.Ytlandkindbmbfaa.Plain
