/-
  The walk of a store's Undo: the first n rows alone. Conditions: sizes within the form's own reach; no Try runs.
-/
import Derived.Test.YtmkoejpdoeblkaaW9
namespace Go.Proofs.Ytmkoejpdoeblkaa
open Go.RowKit Pl

theorem StoreAt.undoCut {G : Nat → Rl} {X : Nat} {A : List Int} {l : List Rw} {fs : List Value} {V : SV} {w : World} {a : Option Addr} {c : Nat} (h : StoreAt G X A l fs V w) (hv : V.uv = .slice a fs.length c) :
    StoreAt G X A l (fs.take l.length) { V with uv := .slice a l.length c } (w.setCell ⟨X, 2, none⟩ (.slice a l.length c)) ∧ Tr (fun r => r = .st) G w G (w.setCell ⟨X, 2, none⟩ (.slice a l.length c)) := by
  have t := Tr.setX h.tag w 2 (.slice a l.length c)
  have hlen := h.undo.len
  have htl : (fs.take l.length).length = l.length := by rw [List.length_take]; omega
  have hu : UndoP w G X (.slice a l.length c) l (fs.take l.length) := by
    have hr := h.undo.row
    have ht := h.undo.tagged
    rw [hv] at hr ht
    refine ⟨⟨by rw [Nat.mul_one], ?_⟩, fun k hk => ht k (by cases a <;> exact hk), by omega, fun j s hj => ?_⟩
    · rcases hr.2 with ⟨h1, h0⟩ | ⟨g, cap, cur, h1, hg, hh, q2, q3, q4, q5⟩
      · simp only [Value.slice.injEq] at h1
        exact .inl ⟨by rw [h1.1, h1.2.2]; congr 1; omega, by omega⟩
      · simp only [Value.slice.injEq] at h1
        obtain ⟨rfl, _, rfl⟩ := h1
        refine .inr ⟨g, c, cur, by rw [htl], hg, hh, by omega, q3, q4, ?_⟩
        have h6 := congrArg (List.take l.length) q5
        rw [List.take_take, Nat.mul_one, Nat.min_eq_left (by omega)] at h6
        rw [htl, Nat.mul_one]; exact h6
    · obtain ⟨c0, c1, c2, c3, u, e, hc⟩ := h.undo.clos j s hj
      refine ⟨c0, c1, c2, c3, u, ?_, hc⟩
      rw [List.getElem?_take, if_pos (List.getElem?_eq_some_iff.1 hj).1]; exact e
  exact ⟨⟨h.blk.set2 _, h.tag, t.own h.ars (by simp), h.rows.tr t (by simp) (by simp), hu.tr t (by simp) (by simp), h.num.tr t (by simp), h.of.tr t (by simp [ofF]) (by simp [ofF]), h.whr.tr t (by simp [whF]) (by simp [whF]), h.len, h.fits, h.nodup, h.out.set _ _, h.okA⟩, t⟩
/-- What is there behind Undo. -/
def undone (l : List Rw) (n : Int) : List Rw := if 0 ≤ n ∧ n ≤ l.length then l.take n.toNat else l
def UndoIs (G : Nat → Rl) (X : Nat) (A : List Int) (l : List Rw) (n : Int) (V : SV) (w : World) (e : Ending) (w' : World) : Prop :=
  e = .returned (.int .i64 (if 0 ≤ n ∧ n ≤ l.length then 0 else 2)) ∧ ∃ fs' V', StoreAt G X A (undone l n) fs' V' w' ∧ (undone l n).length = fs'.length ∧ V'.N = V.N ∧ V'.lv = V.lv ∧ Tr Own G w G w'
theorem int_ret {a b : Int} (h : a = b) : Ending.returned (.int .i64 a) = .returned (.int .i64 b) := by rw [h]

set_option maxRecDepth 100000 in
set_option maxHeartbeats 3200000 in
theorem undo_any {G : Nat → Rl} {X : Nat} {A : List Int} {l : List Rw} {fs : List Value} {V : SV} {n : Int} {la : Option Addr} {lc : Nat} (w : World) (h : StoreAt G X A l fs V w) (hl : l.length = fs.length) (hlv : V.lv = .slice la 0 lc) (hN : V.N ≤ 4194304) (hn : I64 n) :
    Calls Try.prog 11 #[.pointer (some ⟨X, 0, none⟩), .int .i64 n] w (UndoIs G X A l n V w) := by
  have hln := h.len
  obtain ⟨ra, rc, hrv⟩ : ∃ a c, V.rv = .slice a l.length c := by
    obtain ⟨us, bs, hr⟩ := h.rows
    rcases Joins.ownsRow_forms hr.row with ⟨h1, h2⟩ | ⟨g, cap, h1⟩
    · exact ⟨none, 0, by rw [h1]; simp [h2]⟩
    · exact ⟨_, cap, h1⟩
  have x1 : w.cell? ⟨X, 1, none⟩ = some (.slice ra l.length rc) := by rw [← hrv]; exact h.blk.cells.2.1
  have HS := Lib.hid h
  have HL := Lib.hid hl
  have HLV := Lib.hid hlv
  have HN := Lib.hid hn
  clear h hl hlv hrv hn
  by_cases hneg : n < 0
  · have hd : decide (n < 0) = true := decide_eq_true hneg
    have HC : Hid (¬ (0 ≤ n ∧ n ≤ l.length)) := Lib.hid (by omega)
    clear hneg
    go_enter Try.func11, Try.ntmps11
    go_wp2
    go_ret
    refine ⟨int_ret (by rw [if_neg HC.out]), fs, V, ?_, ?_, rfl, rfl, Tr.refl _ _ _⟩
    · rw [undone, if_neg HC.out]; exact HS.out
    · rw [undone, if_neg HC.out]; exact HL.out
  have hd : decide (n < 0) = false := decide_eq_false hneg
  by_cases hbig : n > (l.length : Int)
  · have hd2 : decide (n > (l.length : Int)) = true := decide_eq_true hbig
    have HC : Hid (¬ (0 ≤ n ∧ n ≤ l.length)) := Lib.hid (by omega)
    clear hneg hbig
    go_enter Try.func11, Try.ntmps11
    go_wp2
    go_ret
    refine ⟨int_ret (by rw [if_neg HC.out]), fs, V, ?_, ?_, rfl, rfl, Tr.refl _ _ _⟩
    · rw [undone, if_neg HC.out]; exact HS.out
    · rw [undone, if_neg HC.out]; exact HL.out
  have hd2 : decide (n > (l.length : Int)) = false := decide_eq_false hbig
  obtain ⟨m, rfl⟩ : ∃ m : Nat, n = (m : Int) := ⟨n.toNat, by omega⟩
  have hml : m ≤ l.length := by omega
  have HC : Hid (0 ≤ (m : Int) ∧ (m : Int) ≤ l.length) := Lib.hid (by omega)
  have HU : Hid (undone l (m : Int) = l.take m) := Lib.hid (by rw [undone, if_pos HC.out]; rfl)
  clear hneg hbig
  obtain ⟨ua, uc, huv, hu2, hu3, hu4⟩ : ∃ a c, V.uv = .slice a fs.length c ∧ fs.length ≤ c ∧ c ≤ 9223372036854775807 ∧ (fs ≠ [] → ∃ g, a = some ⟨g, 0, none⟩) := by
    rcases HS.out.undo.row.2 with ⟨h1, h2⟩ | ⟨g, cap, cur, h1, _, _, h2, h3, _⟩
    · exact ⟨none, 0, by rw [h1]; simp [List.length_eq_zero_iff.1 h2], by omega, by omega, fun hne => absurd (List.length_eq_zero_iff.1 h2) hne⟩
    · exact ⟨_, cap, h1, h2, by unfold maxLen at h3; omega, fun _ => ⟨g, rfl⟩⟩
  have x2 : w.cell? ⟨X, 2, none⟩ = some (.slice ua fs.length uc) := by rw [← huv]; exact HS.out.blk.cells.2.2.1
  have hfl : fs.length ≤ 4194304 := by have := HL.out; omega
  have HU4 := Lib.hid hu4
  obtain ⟨z, hz⟩ : ∃ z : Int, z = (fs.length : Int) - 1 := ⟨_, rfl⟩
  have HZ := Lib.hid hz
  have hwz : wrap64 ((fs.length : Int) - 1) = z := by rw [hz]; unfold wrap64; omega
  have HUV := Lib.hid huv
  have hd3 : decide (l.length < m) = false := decide_eq_false (by omega)
  have hd4 : ¬ l.length < m := by omega
  clear hu4 hz huv
  go_enter Try.func11, Try.ntmps11
  go_wp2
  go_loopw [5] (fun k wr => ∃ (q : Nat) (y : Int) (Vj : SV), k = .int .i64 y ∧ y + 1 = (q : Int) ∧ m ≤ q ∧ q ≤ l.length ∧ Hid (StoreAt G X A (l.take q) fs Vj wr) ∧ Hid (Vj.N = V.N ∧ Vj.lv = V.lv ∧ Vj.uv = V.uv) ∧ Hid (Tr Own G w G wr)) (fun k _ => ((intOf k) + 1).toNat)
  case atStart => exact ⟨l.length, z, V, by first | rfl | (rw [HZ.out]) | (rw [hwz]) | (rw [← hwz]), by have := HZ.out; have := HL.out; omega, hml, Nat.le_refl _, by rw [List.take_length]; exact HS, Lib.hid ⟨rfl, rfl, rfl⟩, Lib.hid (Tr.refl _ _ _)⟩
  case round =>
    obtain ⟨q, y, Vj, rfl, hy, hmq, hql, HSj, HPj, HTj⟩ := hrel
    clear x1 x2 hd hd2 hd3 hd4 hwz
    by_cases hgo : m < q
    · obtain ⟨q', rfl⟩ : ∃ q', q = q' + 1 := ⟨q - 1, by omega⟩
      obtain rfl : y = (q' : Int) := by omega
      have hlt : q' < l.length := by omega
      obtain ⟨r, hr⟩ : ∃ r, l[q']? = some r := ⟨l[q'], List.getElem?_eq_getElem hlt⟩
      have hsn : l.take (q' + 1) = l.take q' ++ [r] := by rw [List.take_add_one, hr]; rfl
      have htl : (l.take q').length = q' := by rw [List.length_take]; omega
      have hstore := HSj.out
      rw [hsn] at hstore
      obtain ⟨c0, c1, c2, c3, u, hcl, hclo⟩ := hstore.undo.clos q' r (by rw [List.getElem?_append_right (Nat.le_of_eq htl), htl]; simp)
      obtain ⟨g, rfl⟩ := HU4.out (fun e => by have := HL.out; rw [e] at this; simp only [List.length_nil] at this; omega)
      have x2 : wr.cell? ⟨X, 2, none⟩ = some (.slice (some ⟨g, 0, none⟩) fs.length uc) := by rw [← HUV.out, ← HPj.out.2.2]; exact HSj.out.blk.cells.2.2.1
      have x3 : wr.cell? ⟨g, q', none⟩ = some (.func (.func 30) #[] #[.pointer (some ⟨c0, 0, none⟩), .pointer (some ⟨c1, 0, none⟩), .pointer (some ⟨c2, 0, none⟩), .pointer (some ⟨c3, 0, none⟩)]) := by
        have hrow := HSj.out.undo.row
        rw [HPj.out.2.2, HUV.out] at hrow
        have := World.ownsRow.cellAt hrow q' (by have := HL.out; omega)
        rw [this]; exact hcl
      have hqf : q' < fs.length := by have := HL.out; omega
      have hge : decide ((q' : Int) ≥ (m : Int)) = true := decide_eq_true (by omega)
      have hge2 : decide (m ≤ q') = true := decide_eq_true (by omega)
      have hge3 : m ≤ q' := by omega
      have HST := Lib.hid hstore
      have HCLO := Lib.hid (show CloAt wr G X (l.take q').length r c0 c1 c2 c3 u by rw [htl]; exact hclo)
      have HNj : Vj.N ≤ 4194304 := by rw [HPj.out.1]; exact hN
      clear hr hsn htl hstore hcl hclo
      go_wp2_with fail
      refine (pop_any _ HST.out HCLO.out HNj).mono ?_
      rintro e w2 ⟨rfl, V2, hs2, hn2, hv2, ht2, hu9⟩
      have HP2 := Lib.hid (show V2.N = V.N ∧ V2.lv = V.lv ∧ V2.uv = V.uv from ⟨hn2.trans HPj.out.1, hv2.trans HPj.out.2.1, hu9.trans HPj.out.2.2⟩)
      have HS2 := Lib.hid hs2
      have HT2 := Lib.hid (HTj.out.trans ht2)
      have hw2 : wrap64 ((q' : Int) - 1) = (q' : Int) - 1 := by unfold wrap64; omega
      clear hs2 hn2 hv2 ht2 hu9 x2 x3
      go_wp2
      go_roundw
      case rel => exact ⟨q', (q' : Int) - 1, V2, by first | rfl | (rw [hw2]), by omega, by omega, by omega, HS2, HP2, HT2⟩
      case measure => simp only [intOf]; omega
    · have e : q = m := by omega
      subst e
      have hge : decide (y ≥ (q : Int)) = false := decide_eq_false (by omega)
      have htl : (l.take q).length = q := by rw [List.length_take]; omega
      have huv := HPj.out.2.2.trans HUV.out
      obtain ⟨hs4, ht4⟩ := HSj.out.undoCut huv
      rw [htl] at hs4 ht4
      have x2 : wr.cell? ⟨X, 2, none⟩ = some (.slice ua fs.length uc) := by rw [← huv]; exact HSj.out.blk.cells.2.2.1
      have f2 : wr.frozen? ⟨X, 2, none⟩ = false := HSj.out.blk.froz.2.1
      obtain ⟨w4, hw4⟩ : ∃ w4, w4 = wr.setCell ⟨X, 2, none⟩ (.slice ua q uc) := ⟨_, rfl⟩
      rw [← hw4] at hs4 ht4
      have HS4 := Lib.hid hs4
      have HT4 := Lib.hid (HTj.out.trans (ht4.wide (fun r hr => by subst hr; exact ⟨by simp, by simp, by simp⟩)))
      have x7 : w4.cell? ⟨X, 7, none⟩ = some (.slice la 0 lc) := by rw [← HLV.out, ← HPj.out.2.1]; exact hs4.blk.cells.2.2.2.2.2.2.2
      have HFL : Hid ((l.take q).length = (fs.take q).length) := Lib.hid (by rw [htl, List.length_take]; have := HL.out; omega)
      have hqf : q ≤ uc := by have := HL.out; omega
      have hqf2 : q ≤ fs.length := by have := HL.out; omega
      have HW4 := Lib.hid hw4
      clear hs4 ht4 htl huv hw4
      go_upto_region 10 with fail
      rw [← HW4.out]
      clear x2 f2 HW4
      go_wp2
      go_loop [54] (fun k => k = .int .i64 0) (fun _ => 0)
      case atStart => rfl
      case round =>
        subst hrel
        go_wp2
        go_ret
        refine ⟨int_ret (by rw [if_pos HC.out]), fs.take q, { Vj with uv := .slice ua q uc }, ?_, ?_, HPj.out.1, HPj.out.2.1, HT4.out⟩
        · rw [HU.out]; exact HS4.out
        · rw [HU.out]; exact HFL.out
end Go.Proofs.Ytmkoejpdoeblkaa
