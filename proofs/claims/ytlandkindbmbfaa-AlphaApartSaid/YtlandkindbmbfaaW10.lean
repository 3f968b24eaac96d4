/-
  The walks of edictlaw10.proper, merged and put: each makes a pattern of its own out of the argument's, slot by slot. Conditions: the numbers are ints, the list is within the form's own reach.
-/
import Derived.Test.YtlandkindbmbfaaK4
namespace Go.Proofs.Ytlandkindbmbfaa
open Go.RowKit Plain

def pf (a : Slt) : Slt := if a.1 then a else (false, if a.2 < 0 then 0 else a.2)
def mf (x y : Int) (a : Slt) : Slt := if Plain.isVar x a then (true, y) else a
def uf (x c : Int) (a : Slt) : Slt := if Plain.isVar x a then (false, if c < 0 then 0 else c) else a
theorem pats_next {l : List Slt} {i : Nat} {f : Slt → Slt} {a a' : Slt} (hi : l[i]? = some a) (he : f a = a') : (l.take (i + 1)).map f = (l.take i).map f ++ [a'] := by
  rw [take_one hi, List.map_append, ← he]; rfl

theorem bodyPost_ret2 {P : Program} {fn : Func} {R : Ending → World → Prop} {tmps : Array Value} {w : World} {v : Value} (h : (results fn tmps).run P w = .ok v w) (hR : R (.returned v) w) : bodyPost P fn R .normal { tmps := tmps, defers := [] } w := ⟨rfl, v, h, hR⟩

set_option maxRecDepth 100000 in
set_option maxHeartbeats 3200000 in
theorem proper_neg (p : Int) (l : List Slt) (hp : p < 0) (v : Value) (w : World) (hv : SlotsAt w w.heap.size v l) (hn : l.length ≤ 8796093021952) :
    Calls Try.prog 22 #[.agg #[.int .i64 p, v]] w (PatIs 0 (l.map (pf)) w) := by
  obtain ⟨i53, pi, p0, p1, p2⟩ := info_parts Try.info53
  obtain ⟨a, cap, rfl, ha⟩ := hv.form
  have HV := Lib.hid hv
  have HA := Lib.hid ha
  clear hv ha
  go_enter Try.func22, Try.ntmps22
  go_wp2
  have HS0 := Lib.hid (PSB.start w (.int .i64 p) (.slice a l.length cap) (0))
  generalize (((w.alloc (.cells #[.int .i64 p, .slice a l.length cap] 39)).alloc (.cells #[.int .i64 0, .slice none 0 0] 39)).alloc (.cells #[.int .i64 (0), .slice none 0 0] 39)) = W0 at HS0 ⊢
  go_loopw [4] (fun k wr => ∃ (v : Value) (i : Nat), k = .int .i64 (i : Int) ∧ i ≤ l.length ∧ PSB w (.int .i64 p) (.slice a l.length cap) (0) ((l.take i).map (pf)) v wr) (fun k _ => l.length - (intOf k).toNat)
  case atStart => exact ⟨_, 0, rfl, Nat.zero_le _, HS0.out⟩
  case round =>
    obtain ⟨v, i, rfl, hil, hS⟩ := hrel
    have HS := Lib.hid hS
    have hsz := hS.1.size
    have ka := hS.carg
    clear hS
    by_cases h1 : i < l.length
    · obtain ⟨g, off, rfl⟩ := HA.out (ne_of_lt_len h1)
      obtain ⟨b, n, hsi⟩ : ∃ b n, l[i]? = some (b, n) := ⟨l[i].1, l[i].2, List.getElem?_eq_getElem h1⟩
      obtain ⟨hg, c0, c1⟩ := SlotsAt.get (HV.out.below HS.out.1.below) hsi
      have HI := Lib.hid hsi
      have hol : ((l.take i).map (pf)).length = i := by rw [List.length_map, List.length_take]; omega
      obtain ⟨out, hout⟩ : ∃ out, out = (l.take i).map (pf) := ⟨_, rfl⟩
      rw [← hout] at HS hol
      have HO := Lib.hid hout
      have holb : out.length ≤ 8796093021952 := by omega
      clear hsi hout hol
      cases b with
      | false =>
        by_cases hn0 : n < 0
        · have H1 := Lib.hid (HS.out.alloc (.cells #[.bool false, .int .i64 (0)] 53))
          have hzA : (wr.alloc (.cells #[.bool false, .int .i64 (0)] 53)).heap.size = wr.heap.size + 1 := by simp
          have k1 := H1.out.cvar
          go_wp2_with (at_builtin; refine wpList_append_own _ rfl _ _ 37 rfl (w.heap.size + 3) 53 i53 (.agg #[.bool false, .int .i64 0]) 2 16 Try.underlying37 pi p0 p1 p2 rfl (by decide) v out.length (slits out) rfl (H1.out.alloc (.cells #[.bool false, .int .i64 (0)] 53)).1.own ⟨wr.heap.size + 1, 0, none⟩ 1 1 [.bool false, .int .i64 (0)] rfl rfl (by rw [← hzA]; exact World.news_of_block (cs := #[.bool false, .int .i64 (0)]) (t := 53) (fr := (0, 0)) (heap_alloc_new _ _)) (one_slot _ _) (by unfold maxLen; omega) (by omega) (by simp; omega) ?_; intro v' w1 hown' hgrow hnl; obtain ⟨g', c', rfl⟩ := Joins.ownsRow_form hown' (by omega); have hw3 := (H1.out.alloc (.cells #[.bool false, .int .i64 (0)] 53)).grown hgrow; have k1 := pvar_of hw3; have hf := pfre_of hw3)
          have HP := Lib.hid ((H1.out.alloc (.cells #[.bool false, .int .i64 (0)] 53)).push hown' hgrow)
          go_roundw
          case rel => exact ⟨_, i + 1, by go_num, by omega, by rw [pats_next HI.out (show pf (false, n) = (false, 0) by simp [pf, hn0]), ← HO.out]; exact HP.out⟩
          case measure => simp only [intOf]; omega
        · have H1 := Lib.hid (HS.out.alloc (.cells #[.bool false, .int .i64 (n)] 53))
          have hzA : (wr.alloc (.cells #[.bool false, .int .i64 (n)] 53)).heap.size = wr.heap.size + 1 := by simp
          have k1 := H1.out.cvar
          go_wp2_with (at_builtin; refine wpList_append_own _ rfl _ _ 37 rfl (w.heap.size + 3) 53 i53 (.agg #[.bool false, .int .i64 0]) 2 16 Try.underlying37 pi p0 p1 p2 rfl (by decide) v out.length (slits out) rfl (H1.out.alloc (.cells #[.bool false, .int .i64 (n)] 53)).1.own ⟨wr.heap.size + 1, 0, none⟩ 1 1 [.bool false, .int .i64 (n)] rfl rfl (by rw [← hzA]; exact World.news_of_block (cs := #[.bool false, .int .i64 (n)]) (t := 53) (fr := (0, 0)) (heap_alloc_new _ _)) (one_slot _ _) (by unfold maxLen; omega) (by omega) (by simp; omega) ?_; intro v' w1 hown' hgrow hnl; obtain ⟨g', c', rfl⟩ := Joins.ownsRow_form hown' (by omega); have hw3 := (H1.out.alloc (.cells #[.bool false, .int .i64 (n)] 53)).grown hgrow; have k1 := pvar_of hw3; have hf := pfre_of hw3)
          have HP := Lib.hid ((H1.out.alloc (.cells #[.bool false, .int .i64 (n)] 53)).push hown' hgrow)
          go_roundw
          case rel => exact ⟨_, i + 1, by go_num, by omega, by rw [pats_next HI.out (show pf (false, n) = (false, n) by simp [pf, hn0]), ← HO.out]; exact HP.out⟩
          case measure => simp only [intOf]; omega
      | true =>
        have H1 := Lib.hid (HS.out.alloc (.cells #[.bool true, .int .i64 (n)] 53))
        have hzA : (wr.alloc (.cells #[.bool true, .int .i64 (n)] 53)).heap.size = wr.heap.size + 1 := by simp
        have k1 := H1.out.cvar
        go_wp2_with (at_builtin; refine wpList_append_own _ rfl _ _ 37 rfl (w.heap.size + 3) 53 i53 (.agg #[.bool false, .int .i64 0]) 2 16 Try.underlying37 pi p0 p1 p2 rfl (by decide) v out.length (slits out) rfl (H1.out.alloc (.cells #[.bool true, .int .i64 (n)] 53)).1.own ⟨wr.heap.size + 1, 0, none⟩ 1 1 [.bool true, .int .i64 (n)] rfl rfl (by rw [← hzA]; exact World.news_of_block (cs := #[.bool true, .int .i64 (n)]) (t := 53) (fr := (0, 0)) (heap_alloc_new _ _)) (one_slot _ _) (by unfold maxLen; omega) (by omega) (by simp; omega) ?_; intro v' w1 hown' hgrow hnl; obtain ⟨g', c', rfl⟩ := Joins.ownsRow_form hown' (by omega); have hw3 := (H1.out.alloc (.cells #[.bool true, .int .i64 (n)] 53)).grown hgrow; have k1 := pvar_of hw3; have hf := pfre_of hw3)
        have HP := Lib.hid ((H1.out.alloc (.cells #[.bool true, .int .i64 (n)] 53)).push hown' hgrow)
        go_roundw
        case rel => exact ⟨_, i + 1, by go_num, by omega, by rw [pats_next HI.out (show pf (true, n) = (true, n) from rfl), ← HO.out]; exact HP.out⟩
        case measure => simp only [intOf]; omega
    · have e : i = l.length := by omega
      have HO := Lib.hid (show PSB w (.int .i64 p) (.slice a l.length cap) (0) (l.map (pf)) v wr by have := HS.out; rw [e, List.take_length] at this; exact this)
      have v0 : wr.cell? ⟨w.heap.size + 2, 0, none⟩ = some (.int .i64 (0)) := by have := HO.out.1.var; simp only [World.cell?, this]; rfl
      have v1 := HO.out.cvar
      have t0 : wr.cell? ⟨w.heap.size + 1, 0, none⟩ = some (.int .i64 0) := by have := HO.out.1.res; simp only [World.cell?, this]; rfl
      have t1 : wr.cell? ⟨w.heap.size + 1, 1, none⟩ = some (.slice none 0 0) := by have := HO.out.1.res; simp only [World.cell?, this]; rfl
      have f0 : wr.frozen? ⟨w.heap.size + 1, 0, none⟩ = false := by have := HO.out.1.res; simp only [World.frozen?, this]; rfl
      have f1 : wr.frozen? ⟨w.heap.size + 1, 1, none⟩ = false := by have := HO.out.1.res; simp only [World.frozen?, this]; rfl
      obtain ⟨av, nv, cv, rfl⟩ := OwnSlots.form (l := l.map (pf)) HO.out.1.own
      clear e HS
      go_wp2
      obtain ⟨s1, s2, s3⟩ := HO.out.stop
      exact bodyPost_ret2 (results_cell_row rfl _ _ (w.heap.size + 1) 39 #[.int .i64 (0), .slice av nv cv] (0, 0) _ rfl s1 Try.underlying39 rfl Try.size39) ⟨_, rfl, s2, s3⟩

set_option maxRecDepth 100000 in
set_option maxHeartbeats 3200000 in
theorem proper_pos (p : Int) (l : List Slt) (hp : 0 ≤ p) (v : Value) (w : World) (hv : SlotsAt w w.heap.size v l) (hn : l.length ≤ 8796093021952) :
    Calls Try.prog 22 #[.agg #[.int .i64 p, v]] w (PatIs p (l.map (pf)) w) := by
  obtain ⟨i53, pi, p0, p1, p2⟩ := info_parts Try.info53
  obtain ⟨a, cap, rfl, ha⟩ := hv.form
  have HV := Lib.hid hv
  have HA := Lib.hid ha
  clear hv ha
  go_enter Try.func22, Try.ntmps22
  go_wp2
  have HS0 := Lib.hid (PSB.start w (.int .i64 p) (.slice a l.length cap) (p))
  generalize (((w.alloc (.cells #[.int .i64 p, .slice a l.length cap] 39)).alloc (.cells #[.int .i64 0, .slice none 0 0] 39)).alloc (.cells #[.int .i64 (p), .slice none 0 0] 39)) = W0 at HS0 ⊢
  go_loopw [4] (fun k wr => ∃ (v : Value) (i : Nat), k = .int .i64 (i : Int) ∧ i ≤ l.length ∧ PSB w (.int .i64 p) (.slice a l.length cap) (p) ((l.take i).map (pf)) v wr) (fun k _ => l.length - (intOf k).toNat)
  case atStart => exact ⟨_, 0, rfl, Nat.zero_le _, HS0.out⟩
  case round =>
    obtain ⟨v, i, rfl, hil, hS⟩ := hrel
    have HS := Lib.hid hS
    have hsz := hS.1.size
    have ka := hS.carg
    clear hS
    by_cases h1 : i < l.length
    · obtain ⟨g, off, rfl⟩ := HA.out (ne_of_lt_len h1)
      obtain ⟨b, n, hsi⟩ : ∃ b n, l[i]? = some (b, n) := ⟨l[i].1, l[i].2, List.getElem?_eq_getElem h1⟩
      obtain ⟨hg, c0, c1⟩ := SlotsAt.get (HV.out.below HS.out.1.below) hsi
      have HI := Lib.hid hsi
      have hol : ((l.take i).map (pf)).length = i := by rw [List.length_map, List.length_take]; omega
      obtain ⟨out, hout⟩ : ∃ out, out = (l.take i).map (pf) := ⟨_, rfl⟩
      rw [← hout] at HS hol
      have HO := Lib.hid hout
      have holb : out.length ≤ 8796093021952 := by omega
      clear hsi hout hol
      cases b with
      | false =>
        by_cases hn0 : n < 0
        · have H1 := Lib.hid (HS.out.alloc (.cells #[.bool false, .int .i64 (0)] 53))
          have hzA : (wr.alloc (.cells #[.bool false, .int .i64 (0)] 53)).heap.size = wr.heap.size + 1 := by simp
          have k1 := H1.out.cvar
          go_wp2_with (at_builtin; refine wpList_append_own _ rfl _ _ 37 rfl (w.heap.size + 3) 53 i53 (.agg #[.bool false, .int .i64 0]) 2 16 Try.underlying37 pi p0 p1 p2 rfl (by decide) v out.length (slits out) rfl (H1.out.alloc (.cells #[.bool false, .int .i64 (0)] 53)).1.own ⟨wr.heap.size + 1, 0, none⟩ 1 1 [.bool false, .int .i64 (0)] rfl rfl (by rw [← hzA]; exact World.news_of_block (cs := #[.bool false, .int .i64 (0)]) (t := 53) (fr := (0, 0)) (heap_alloc_new _ _)) (one_slot _ _) (by unfold maxLen; omega) (by omega) (by simp; omega) ?_; intro v' w1 hown' hgrow hnl; obtain ⟨g', c', rfl⟩ := Joins.ownsRow_form hown' (by omega); have hw3 := (H1.out.alloc (.cells #[.bool false, .int .i64 (0)] 53)).grown hgrow; have k1 := pvar_of hw3; have hf := pfre_of hw3)
          have HP := Lib.hid ((H1.out.alloc (.cells #[.bool false, .int .i64 (0)] 53)).push hown' hgrow)
          go_roundw
          case rel => exact ⟨_, i + 1, by go_num, by omega, by rw [pats_next HI.out (show pf (false, n) = (false, 0) by simp [pf, hn0]), ← HO.out]; exact HP.out⟩
          case measure => simp only [intOf]; omega
        · have H1 := Lib.hid (HS.out.alloc (.cells #[.bool false, .int .i64 (n)] 53))
          have hzA : (wr.alloc (.cells #[.bool false, .int .i64 (n)] 53)).heap.size = wr.heap.size + 1 := by simp
          have k1 := H1.out.cvar
          go_wp2_with (at_builtin; refine wpList_append_own _ rfl _ _ 37 rfl (w.heap.size + 3) 53 i53 (.agg #[.bool false, .int .i64 0]) 2 16 Try.underlying37 pi p0 p1 p2 rfl (by decide) v out.length (slits out) rfl (H1.out.alloc (.cells #[.bool false, .int .i64 (n)] 53)).1.own ⟨wr.heap.size + 1, 0, none⟩ 1 1 [.bool false, .int .i64 (n)] rfl rfl (by rw [← hzA]; exact World.news_of_block (cs := #[.bool false, .int .i64 (n)]) (t := 53) (fr := (0, 0)) (heap_alloc_new _ _)) (one_slot _ _) (by unfold maxLen; omega) (by omega) (by simp; omega) ?_; intro v' w1 hown' hgrow hnl; obtain ⟨g', c', rfl⟩ := Joins.ownsRow_form hown' (by omega); have hw3 := (H1.out.alloc (.cells #[.bool false, .int .i64 (n)] 53)).grown hgrow; have k1 := pvar_of hw3; have hf := pfre_of hw3)
          have HP := Lib.hid ((H1.out.alloc (.cells #[.bool false, .int .i64 (n)] 53)).push hown' hgrow)
          go_roundw
          case rel => exact ⟨_, i + 1, by go_num, by omega, by rw [pats_next HI.out (show pf (false, n) = (false, n) by simp [pf, hn0]), ← HO.out]; exact HP.out⟩
          case measure => simp only [intOf]; omega
      | true =>
        have H1 := Lib.hid (HS.out.alloc (.cells #[.bool true, .int .i64 (n)] 53))
        have hzA : (wr.alloc (.cells #[.bool true, .int .i64 (n)] 53)).heap.size = wr.heap.size + 1 := by simp
        have k1 := H1.out.cvar
        go_wp2_with (at_builtin; refine wpList_append_own _ rfl _ _ 37 rfl (w.heap.size + 3) 53 i53 (.agg #[.bool false, .int .i64 0]) 2 16 Try.underlying37 pi p0 p1 p2 rfl (by decide) v out.length (slits out) rfl (H1.out.alloc (.cells #[.bool true, .int .i64 (n)] 53)).1.own ⟨wr.heap.size + 1, 0, none⟩ 1 1 [.bool true, .int .i64 (n)] rfl rfl (by rw [← hzA]; exact World.news_of_block (cs := #[.bool true, .int .i64 (n)]) (t := 53) (fr := (0, 0)) (heap_alloc_new _ _)) (one_slot _ _) (by unfold maxLen; omega) (by omega) (by simp; omega) ?_; intro v' w1 hown' hgrow hnl; obtain ⟨g', c', rfl⟩ := Joins.ownsRow_form hown' (by omega); have hw3 := (H1.out.alloc (.cells #[.bool true, .int .i64 (n)] 53)).grown hgrow; have k1 := pvar_of hw3; have hf := pfre_of hw3)
        have HP := Lib.hid ((H1.out.alloc (.cells #[.bool true, .int .i64 (n)] 53)).push hown' hgrow)
        go_roundw
        case rel => exact ⟨_, i + 1, by go_num, by omega, by rw [pats_next HI.out (show pf (true, n) = (true, n) from rfl), ← HO.out]; exact HP.out⟩
        case measure => simp only [intOf]; omega
    · have e : i = l.length := by omega
      have HO := Lib.hid (show PSB w (.int .i64 p) (.slice a l.length cap) (p) (l.map (pf)) v wr by have := HS.out; rw [e, List.take_length] at this; exact this)
      have v0 : wr.cell? ⟨w.heap.size + 2, 0, none⟩ = some (.int .i64 (p)) := by have := HO.out.1.var; simp only [World.cell?, this]; rfl
      have v1 := HO.out.cvar
      have t0 : wr.cell? ⟨w.heap.size + 1, 0, none⟩ = some (.int .i64 0) := by have := HO.out.1.res; simp only [World.cell?, this]; rfl
      have t1 : wr.cell? ⟨w.heap.size + 1, 1, none⟩ = some (.slice none 0 0) := by have := HO.out.1.res; simp only [World.cell?, this]; rfl
      have f0 : wr.frozen? ⟨w.heap.size + 1, 0, none⟩ = false := by have := HO.out.1.res; simp only [World.frozen?, this]; rfl
      have f1 : wr.frozen? ⟨w.heap.size + 1, 1, none⟩ = false := by have := HO.out.1.res; simp only [World.frozen?, this]; rfl
      obtain ⟨av, nv, cv, rfl⟩ := OwnSlots.form (l := l.map (pf)) HO.out.1.own
      clear e HS
      go_wp2
      obtain ⟨s1, s2, s3⟩ := HO.out.stop
      exact bodyPost_ret2 (results_cell_row rfl _ _ (w.heap.size + 1) 39 #[.int .i64 (p), .slice av nv cv] (0, 0) _ rfl s1 Try.underlying39 rfl Try.size39) ⟨_, rfl, s2, s3⟩

set_option maxRecDepth 100000 in
set_option maxHeartbeats 3200000 in
theorem merged_any (p : Int) (l : List Slt) (x y : Int) (v : Value) (w : World) (hv : SlotsAt w w.heap.size v l) (hn : l.length ≤ 8796093021952) :
    Calls Try.prog 30 #[.agg #[.int .i64 p, v], .int .i64 x, .int .i64 y] w (PatIs p (l.map (mf x y)) w) := by
  obtain ⟨i53, pi, p0, p1, p2⟩ := info_parts Try.info53
  obtain ⟨a, cap, rfl, ha⟩ := hv.form
  have HV := Lib.hid hv
  have HA := Lib.hid ha
  clear hv ha
  go_enter Try.func30, Try.ntmps30
  go_wp2
  have HS0 := Lib.hid (PSB.start w (.int .i64 p) (.slice a l.length cap) (p))
  generalize (((w.alloc (.cells #[.int .i64 p, .slice a l.length cap] 39)).alloc (.cells #[.int .i64 0, .slice none 0 0] 39)).alloc (.cells #[.int .i64 (p), .slice none 0 0] 39)) = W0 at HS0 ⊢
  go_loopw [8] (fun k wr => ∃ (v : Value) (i : Nat), k = .int .i64 (i : Int) ∧ i ≤ l.length ∧ PSB w (.int .i64 p) (.slice a l.length cap) (p) ((l.take i).map (mf x y)) v wr) (fun k _ => l.length - (intOf k).toNat)
  case atStart => exact ⟨_, 0, rfl, Nat.zero_le _, HS0.out⟩
  case round =>
    obtain ⟨v, i, rfl, hil, hS⟩ := hrel
    have HS := Lib.hid hS
    have hsz := hS.1.size
    have ka := hS.carg
    clear hS
    by_cases h1 : i < l.length
    · obtain ⟨g, off, rfl⟩ := HA.out (ne_of_lt_len h1)
      obtain ⟨b, n, hsi⟩ : ∃ b n, l[i]? = some (b, n) := ⟨l[i].1, l[i].2, List.getElem?_eq_getElem h1⟩
      obtain ⟨hg, c0, c1⟩ := SlotsAt.get (HV.out.below HS.out.1.below) hsi
      have HI := Lib.hid hsi
      have hol : ((l.take i).map (mf x y)).length = i := by rw [List.length_map, List.length_take]; omega
      obtain ⟨out, hout⟩ : ∃ out, out = (l.take i).map (mf x y) := ⟨_, rfl⟩
      rw [← hout] at HS hol
      have HO := Lib.hid hout
      have holb : out.length ≤ 8796093021952 := by omega
      clear hsi hout hol
      cases b with
      | false =>
        have H1 := Lib.hid (HS.out.alloc (.cells #[.bool false, .int .i64 (n)] 53))
        have hzA : (wr.alloc (.cells #[.bool false, .int .i64 (n)] 53)).heap.size = wr.heap.size + 1 := by simp
        have k1 := H1.out.cvar
        go_wp2_with (at_builtin; refine wpList_append_own _ rfl _ _ 37 rfl (w.heap.size + 3) 53 i53 (.agg #[.bool false, .int .i64 0]) 2 16 Try.underlying37 pi p0 p1 p2 rfl (by decide) v out.length (slits out) rfl (H1.out.alloc (.cells #[.bool false, .int .i64 (n)] 53)).1.own ⟨wr.heap.size + 1, 0, none⟩ 1 1 [.bool false, .int .i64 (n)] rfl rfl (by rw [← hzA]; exact World.news_of_block (cs := #[.bool false, .int .i64 (n)]) (t := 53) (fr := (0, 0)) (heap_alloc_new _ _)) (one_slot _ _) (by unfold maxLen; omega) (by omega) (by simp; omega) ?_; intro v' w1 hown' hgrow hnl; obtain ⟨g', c', rfl⟩ := Joins.ownsRow_form hown' (by omega); have hw3 := (H1.out.alloc (.cells #[.bool false, .int .i64 (n)] 53)).grown hgrow; have k1 := pvar_of hw3; have hf := pfre_of hw3)
        have HP := Lib.hid ((H1.out.alloc (.cells #[.bool false, .int .i64 (n)] 53)).push hown' hgrow)
        go_roundw
        case rel => exact ⟨_, i + 1, by go_num, by omega, by rw [pats_next HI.out (show mf x y (false, n) = (false, n) by simp [mf, Plain.isVar]), ← HO.out]; exact HP.out⟩
        case measure => simp only [intOf]; omega
      | true =>
        by_cases hx : n = x
        · have hb : (n == x) = true := by simp [hx]
          have H1 := Lib.hid (HS.out.alloc (.cells #[.bool true, .int .i64 (y)] 53))
          have hzA : (wr.alloc (.cells #[.bool true, .int .i64 (y)] 53)).heap.size = wr.heap.size + 1 := by simp
          have k1 := H1.out.cvar
          go_wp2_with (at_builtin; refine wpList_append_own _ rfl _ _ 37 rfl (w.heap.size + 3) 53 i53 (.agg #[.bool false, .int .i64 0]) 2 16 Try.underlying37 pi p0 p1 p2 rfl (by decide) v out.length (slits out) rfl (H1.out.alloc (.cells #[.bool true, .int .i64 (y)] 53)).1.own ⟨wr.heap.size + 1, 0, none⟩ 1 1 [.bool true, .int .i64 (y)] rfl rfl (by rw [← hzA]; exact World.news_of_block (cs := #[.bool true, .int .i64 (y)]) (t := 53) (fr := (0, 0)) (heap_alloc_new _ _)) (one_slot _ _) (by unfold maxLen; omega) (by omega) (by simp; omega) ?_; intro v' w1 hown' hgrow hnl; obtain ⟨g', c', rfl⟩ := Joins.ownsRow_form hown' (by omega); have hw3 := (H1.out.alloc (.cells #[.bool true, .int .i64 (y)] 53)).grown hgrow; have k1 := pvar_of hw3; have hf := pfre_of hw3)
          have HP := Lib.hid ((H1.out.alloc (.cells #[.bool true, .int .i64 (y)] 53)).push hown' hgrow)
          go_roundw
          case rel => exact ⟨_, i + 1, by go_num, by omega, by rw [pats_next HI.out (show mf x y (true, n) = (true, y) by simp [mf, Plain.isVar, hx]), ← HO.out]; exact HP.out⟩
          case measure => simp only [intOf]; omega
        · have hb : (n == x) = false := by simpa using hx
          have H1 := Lib.hid (HS.out.alloc (.cells #[.bool true, .int .i64 (n)] 53))
          have hzA : (wr.alloc (.cells #[.bool true, .int .i64 (n)] 53)).heap.size = wr.heap.size + 1 := by simp
          have k1 := H1.out.cvar
          go_wp2_with (at_builtin; refine wpList_append_own _ rfl _ _ 37 rfl (w.heap.size + 3) 53 i53 (.agg #[.bool false, .int .i64 0]) 2 16 Try.underlying37 pi p0 p1 p2 rfl (by decide) v out.length (slits out) rfl (H1.out.alloc (.cells #[.bool true, .int .i64 (n)] 53)).1.own ⟨wr.heap.size + 1, 0, none⟩ 1 1 [.bool true, .int .i64 (n)] rfl rfl (by rw [← hzA]; exact World.news_of_block (cs := #[.bool true, .int .i64 (n)]) (t := 53) (fr := (0, 0)) (heap_alloc_new _ _)) (one_slot _ _) (by unfold maxLen; omega) (by omega) (by simp; omega) ?_; intro v' w1 hown' hgrow hnl; obtain ⟨g', c', rfl⟩ := Joins.ownsRow_form hown' (by omega); have hw3 := (H1.out.alloc (.cells #[.bool true, .int .i64 (n)] 53)).grown hgrow; have k1 := pvar_of hw3; have hf := pfre_of hw3)
          have HP := Lib.hid ((H1.out.alloc (.cells #[.bool true, .int .i64 (n)] 53)).push hown' hgrow)
          go_roundw
          case rel => exact ⟨_, i + 1, by go_num, by omega, by rw [pats_next HI.out (show mf x y (true, n) = (true, n) by simp [mf, Plain.isVar, hx]), ← HO.out]; exact HP.out⟩
          case measure => simp only [intOf]; omega
    · have e : i = l.length := by omega
      have HO := Lib.hid (show PSB w (.int .i64 p) (.slice a l.length cap) (p) (l.map (mf x y)) v wr by have := HS.out; rw [e, List.take_length] at this; exact this)
      have v0 : wr.cell? ⟨w.heap.size + 2, 0, none⟩ = some (.int .i64 (p)) := by have := HO.out.1.var; simp only [World.cell?, this]; rfl
      have v1 := HO.out.cvar
      have t0 : wr.cell? ⟨w.heap.size + 1, 0, none⟩ = some (.int .i64 0) := by have := HO.out.1.res; simp only [World.cell?, this]; rfl
      have t1 : wr.cell? ⟨w.heap.size + 1, 1, none⟩ = some (.slice none 0 0) := by have := HO.out.1.res; simp only [World.cell?, this]; rfl
      have f0 : wr.frozen? ⟨w.heap.size + 1, 0, none⟩ = false := by have := HO.out.1.res; simp only [World.frozen?, this]; rfl
      have f1 : wr.frozen? ⟨w.heap.size + 1, 1, none⟩ = false := by have := HO.out.1.res; simp only [World.frozen?, this]; rfl
      obtain ⟨av, nv, cv, rfl⟩ := OwnSlots.form (l := l.map (mf x y)) HO.out.1.own
      clear e HS
      go_wp2
      obtain ⟨s1, s2, s3⟩ := HO.out.stop
      exact bodyPost_ret2 (results_cell_row rfl _ _ (w.heap.size + 1) 39 #[.int .i64 (p), .slice av nv cv] (0, 0) _ rfl s1 Try.underlying39 rfl Try.size39) ⟨_, rfl, s2, s3⟩

set_option maxRecDepth 100000 in
set_option maxHeartbeats 3200000 in
theorem put_any (p : Int) (l : List Slt) (x y : Int) (v : Value) (w : World) (hv : SlotsAt w w.heap.size v l) (hn : l.length ≤ 8796093021952) :
    Calls Try.prog 31 #[.agg #[.int .i64 p, v], .int .i64 x, .int .i64 y] w (PatIs p (l.map (uf x y)) w) := by
  obtain ⟨i53, pi, p0, p1, p2⟩ := info_parts Try.info53
  obtain ⟨a, cap, rfl, ha⟩ := hv.form
  have HV := Lib.hid hv
  have HA := Lib.hid ha
  clear hv ha
  go_enter Try.func31, Try.ntmps31
  go_wp2
  have HS0 := Lib.hid (PSB.start w (.int .i64 p) (.slice a l.length cap) (p))
  generalize (((w.alloc (.cells #[.int .i64 p, .slice a l.length cap] 39)).alloc (.cells #[.int .i64 0, .slice none 0 0] 39)).alloc (.cells #[.int .i64 (p), .slice none 0 0] 39)) = W0 at HS0 ⊢
  go_loopw [8] (fun k wr => ∃ (v : Value) (i : Nat), k = .int .i64 (i : Int) ∧ i ≤ l.length ∧ PSB w (.int .i64 p) (.slice a l.length cap) (p) ((l.take i).map (uf x y)) v wr) (fun k _ => l.length - (intOf k).toNat)
  case atStart => exact ⟨_, 0, rfl, Nat.zero_le _, HS0.out⟩
  case round =>
    obtain ⟨v, i, rfl, hil, hS⟩ := hrel
    have HS := Lib.hid hS
    have hsz := hS.1.size
    have ka := hS.carg
    clear hS
    by_cases h1 : i < l.length
    · obtain ⟨g, off, rfl⟩ := HA.out (ne_of_lt_len h1)
      obtain ⟨b, n, hsi⟩ : ∃ b n, l[i]? = some (b, n) := ⟨l[i].1, l[i].2, List.getElem?_eq_getElem h1⟩
      obtain ⟨hg, c0, c1⟩ := SlotsAt.get (HV.out.below HS.out.1.below) hsi
      have HI := Lib.hid hsi
      have hol : ((l.take i).map (uf x y)).length = i := by rw [List.length_map, List.length_take]; omega
      obtain ⟨out, hout⟩ : ∃ out, out = (l.take i).map (uf x y) := ⟨_, rfl⟩
      rw [← hout] at HS hol
      have HO := Lib.hid hout
      have holb : out.length ≤ 8796093021952 := by omega
      clear hsi hout hol
      cases b with
      | false =>
        have H1 := Lib.hid (HS.out.alloc (.cells #[.bool false, .int .i64 (n)] 53))
        have hzA : (wr.alloc (.cells #[.bool false, .int .i64 (n)] 53)).heap.size = wr.heap.size + 1 := by simp
        have k1 := H1.out.cvar
        go_wp2_with (at_builtin; refine wpList_append_own _ rfl _ _ 37 rfl (w.heap.size + 3) 53 i53 (.agg #[.bool false, .int .i64 0]) 2 16 Try.underlying37 pi p0 p1 p2 rfl (by decide) v out.length (slits out) rfl (H1.out.alloc (.cells #[.bool false, .int .i64 (n)] 53)).1.own ⟨wr.heap.size + 1, 0, none⟩ 1 1 [.bool false, .int .i64 (n)] rfl rfl (by rw [← hzA]; exact World.news_of_block (cs := #[.bool false, .int .i64 (n)]) (t := 53) (fr := (0, 0)) (heap_alloc_new _ _)) (one_slot _ _) (by unfold maxLen; omega) (by omega) (by simp; omega) ?_; intro v' w1 hown' hgrow hnl; obtain ⟨g', c', rfl⟩ := Joins.ownsRow_form hown' (by omega); have hw3 := (H1.out.alloc (.cells #[.bool false, .int .i64 (n)] 53)).grown hgrow; have k1 := pvar_of hw3; have hf := pfre_of hw3)
        have HP := Lib.hid ((H1.out.alloc (.cells #[.bool false, .int .i64 (n)] 53)).push hown' hgrow)
        go_roundw
        case rel => exact ⟨_, i + 1, by go_num, by omega, by rw [pats_next HI.out (show uf x y (false, n) = (false, n) by simp [uf, Plain.isVar]), ← HO.out]; exact HP.out⟩
        case measure => simp only [intOf]; omega
      | true =>
        by_cases hx : n = x
        · have hb : (n == x) = true := by simp [hx]
          by_cases hy : y < 0
          · have H1 := Lib.hid (HS.out.alloc (.cells #[.bool false, .int .i64 (0)] 53))
            have hzA : (wr.alloc (.cells #[.bool false, .int .i64 (0)] 53)).heap.size = wr.heap.size + 1 := by simp
            have k1 := H1.out.cvar
            go_wp2_with (at_builtin; refine wpList_append_own _ rfl _ _ 37 rfl (w.heap.size + 3) 53 i53 (.agg #[.bool false, .int .i64 0]) 2 16 Try.underlying37 pi p0 p1 p2 rfl (by decide) v out.length (slits out) rfl (H1.out.alloc (.cells #[.bool false, .int .i64 (0)] 53)).1.own ⟨wr.heap.size + 1, 0, none⟩ 1 1 [.bool false, .int .i64 (0)] rfl rfl (by rw [← hzA]; exact World.news_of_block (cs := #[.bool false, .int .i64 (0)]) (t := 53) (fr := (0, 0)) (heap_alloc_new _ _)) (one_slot _ _) (by unfold maxLen; omega) (by omega) (by simp; omega) ?_; intro v' w1 hown' hgrow hnl; obtain ⟨g', c', rfl⟩ := Joins.ownsRow_form hown' (by omega); have hw3 := (H1.out.alloc (.cells #[.bool false, .int .i64 (0)] 53)).grown hgrow; have k1 := pvar_of hw3; have hf := pfre_of hw3)
            have HP := Lib.hid ((H1.out.alloc (.cells #[.bool false, .int .i64 (0)] 53)).push hown' hgrow)
            go_roundw
            case rel => exact ⟨_, i + 1, by go_num, by omega, by rw [pats_next HI.out (show uf x y (true, n) = (false, 0) by simp [uf, Plain.isVar, hx, hy]), ← HO.out]; exact HP.out⟩
            case measure => simp only [intOf]; omega
          · have H1 := Lib.hid (HS.out.alloc (.cells #[.bool false, .int .i64 (y)] 53))
            have hzA : (wr.alloc (.cells #[.bool false, .int .i64 (y)] 53)).heap.size = wr.heap.size + 1 := by simp
            have k1 := H1.out.cvar
            go_wp2_with (at_builtin; refine wpList_append_own _ rfl _ _ 37 rfl (w.heap.size + 3) 53 i53 (.agg #[.bool false, .int .i64 0]) 2 16 Try.underlying37 pi p0 p1 p2 rfl (by decide) v out.length (slits out) rfl (H1.out.alloc (.cells #[.bool false, .int .i64 (y)] 53)).1.own ⟨wr.heap.size + 1, 0, none⟩ 1 1 [.bool false, .int .i64 (y)] rfl rfl (by rw [← hzA]; exact World.news_of_block (cs := #[.bool false, .int .i64 (y)]) (t := 53) (fr := (0, 0)) (heap_alloc_new _ _)) (one_slot _ _) (by unfold maxLen; omega) (by omega) (by simp; omega) ?_; intro v' w1 hown' hgrow hnl; obtain ⟨g', c', rfl⟩ := Joins.ownsRow_form hown' (by omega); have hw3 := (H1.out.alloc (.cells #[.bool false, .int .i64 (y)] 53)).grown hgrow; have k1 := pvar_of hw3; have hf := pfre_of hw3)
            have HP := Lib.hid ((H1.out.alloc (.cells #[.bool false, .int .i64 (y)] 53)).push hown' hgrow)
            go_roundw
            case rel => exact ⟨_, i + 1, by go_num, by omega, by rw [pats_next HI.out (show uf x y (true, n) = (false, y) by simp [uf, Plain.isVar, hx, hy]), ← HO.out]; exact HP.out⟩
            case measure => simp only [intOf]; omega
        · have hb : (n == x) = false := by simpa using hx
          have H1 := Lib.hid (HS.out.alloc (.cells #[.bool true, .int .i64 (n)] 53))
          have hzA : (wr.alloc (.cells #[.bool true, .int .i64 (n)] 53)).heap.size = wr.heap.size + 1 := by simp
          have k1 := H1.out.cvar
          go_wp2_with (at_builtin; refine wpList_append_own _ rfl _ _ 37 rfl (w.heap.size + 3) 53 i53 (.agg #[.bool false, .int .i64 0]) 2 16 Try.underlying37 pi p0 p1 p2 rfl (by decide) v out.length (slits out) rfl (H1.out.alloc (.cells #[.bool true, .int .i64 (n)] 53)).1.own ⟨wr.heap.size + 1, 0, none⟩ 1 1 [.bool true, .int .i64 (n)] rfl rfl (by rw [← hzA]; exact World.news_of_block (cs := #[.bool true, .int .i64 (n)]) (t := 53) (fr := (0, 0)) (heap_alloc_new _ _)) (one_slot _ _) (by unfold maxLen; omega) (by omega) (by simp; omega) ?_; intro v' w1 hown' hgrow hnl; obtain ⟨g', c', rfl⟩ := Joins.ownsRow_form hown' (by omega); have hw3 := (H1.out.alloc (.cells #[.bool true, .int .i64 (n)] 53)).grown hgrow; have k1 := pvar_of hw3; have hf := pfre_of hw3)
          have HP := Lib.hid ((H1.out.alloc (.cells #[.bool true, .int .i64 (n)] 53)).push hown' hgrow)
          go_roundw
          case rel => exact ⟨_, i + 1, by go_num, by omega, by rw [pats_next HI.out (show uf x y (true, n) = (true, n) by simp [uf, Plain.isVar, hx]), ← HO.out]; exact HP.out⟩
          case measure => simp only [intOf]; omega
    · have e : i = l.length := by omega
      have HO := Lib.hid (show PSB w (.int .i64 p) (.slice a l.length cap) (p) (l.map (uf x y)) v wr by have := HS.out; rw [e, List.take_length] at this; exact this)
      have v0 : wr.cell? ⟨w.heap.size + 2, 0, none⟩ = some (.int .i64 (p)) := by have := HO.out.1.var; simp only [World.cell?, this]; rfl
      have v1 := HO.out.cvar
      have t0 : wr.cell? ⟨w.heap.size + 1, 0, none⟩ = some (.int .i64 0) := by have := HO.out.1.res; simp only [World.cell?, this]; rfl
      have t1 : wr.cell? ⟨w.heap.size + 1, 1, none⟩ = some (.slice none 0 0) := by have := HO.out.1.res; simp only [World.cell?, this]; rfl
      have f0 : wr.frozen? ⟨w.heap.size + 1, 0, none⟩ = false := by have := HO.out.1.res; simp only [World.frozen?, this]; rfl
      have f1 : wr.frozen? ⟨w.heap.size + 1, 1, none⟩ = false := by have := HO.out.1.res; simp only [World.frozen?, this]; rfl
      obtain ⟨av, nv, cv, rfl⟩ := OwnSlots.form (l := l.map (uf x y)) HO.out.1.own
      clear e HS
      go_wp2
      obtain ⟨s1, s2, s3⟩ := HO.out.stop
      exact bodyPost_ret2 (results_cell_row rfl _ _ (w.heap.size + 1) 39 #[.int .i64 (p), .slice av nv cv] (0, 0) _ rfl s1 Try.underlying39 rfl Try.size39) ⟨_, rfl, s2, s3⟩

end Go.Proofs.Ytlandkindbmbfaa
