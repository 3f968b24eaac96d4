/-
  The walks of slices.Clone, alpha.test, its closures and alpha.Fits: a row fits as the plain law says. Conditions: the numbers are ints, the lists within the form's own reach.
-/
import Derived.Test.YtlandkindbmbfaaW7
namespace Go.Proofs.Ytlandkindbmbfaa
open Go.RowKit Plain

theorem OwnInts.form {w : World} {B : Nat} {v : Value} {l : List Int} (h : OwnInts w B v l) : ∃ a n c, v = .slice a n c := by
  rcases Joins.ownsRow_forms h with ⟨rfl, _⟩ | ⟨g, cap, rfl⟩
  · exact ⟨_, _, _, rfl⟩
  · exact ⟨_, _, _, rfl⟩

def CloneIs (l : List Int) (w : World) (e : Ending) (w' : World) : Prop := ∃ v, e = .returned v ∧ OwnInts w' w.heap.size v l ∧ Below w.heap.size w w'

set_option maxRecDepth 100000 in
set_option maxHeartbeats 1600000 in
theorem clone_any (l : List Int) (v : Value) (w : World) (hv : IntsAt w w.heap.size v l) (hn : Nilly v) (hl : l.length ≤ 17592186044400) :
    Calls Try.prog 61 #[v] w (CloneIs l w) := by
  obtain ⟨i3, qi, q0, q1, q2⟩ := info_parts Try.info3
  obtain ⟨a, c, rfl, _⟩ := id hv
  rcases a with _ | ad
  · obtain ⟨e1, e2⟩ := hn _ _ rfl
    have h0 : l = [] := List.length_eq_zero_iff.1 e1
    subst h0 e2
    have heq : ∀ w, (binOp .eql 25 (.slice none 0 0) (.slice none 0 0)).run Try.prog w = .ok (.bool true) w := fun w => Lib.run_eql_slice_nil w 25 3 none 0 0 0 0 Try.underlying25
    clear hv hn
    go_enter Try.func61, Try.ntmps61
    go_wp2
    go_ret
    exact ⟨_, rfl, OwnInts.nil _ _, Below.refl _ _⟩
  · have HNW := Lib.hid ((hv.alloc (Nat.le_refl _) (.cells #[] 3)).news)
    have heq : ∀ w, (binOp .eql 25 (.slice (some ad) l.length c) (.slice none 0 0)).run Try.prog w = .ok (.bool false) w := fun w => Lib.run_eql_slice_nil w 25 3 (some ad) _ _ _ _ Try.underlying25
    clear hv hn
    go_enter Try.func61, Try.ntmps61
    go_wp2_with (at_builtin; refine wpList_append_own _ rfl _ _ 25 rfl w.heap.size 3 i3 (.int .i64 0) 1 8 Try.underlying25 qi q0 q1 q2 rfl (by decide) (.slice (some ⟨w.heap.size, 0, none⟩) 0 0) 0 [] rfl (World.ownsRow_made w #[] 0 (Nat.le_refl _) (by decide) rfl) ad l.length c (lits l) rfl (by rw [lits_length, Nat.mul_one]) HNW.out (lits_one _) (by unfold maxLen; omega) (by omega) (by simp) ?_; intro v' w1 hown' hgrow _)
    go_ret
    refine ⟨v', rfl, by unfold OwnInts; simpa only [Nat.zero_add, List.nil_append] using hown', ((Below.refl _ _).alloc (Nat.le_refl _) _).grown hgrow (by simp) (fun k hk => ?_)⟩
    simp [Value.ownBlock] at hk; omega

theorem test1_any (p : Int) (u : Value) (w : World) : Calls Try.prog 63 #[.int .i64 p, u] w fun e w' => e = .returned (.bool false) ∧ w = w' := by
  go_enter Try.func63, Try.ntmps63
  go_wp2
  go_ret
  exact ⟨rfl, rfl⟩

set_option maxRecDepth 100000 in
set_option maxHeartbeats 1600000 in
theorem test2_any (s : Shp) (p : Int) (row : List Int) (u cv : Value) (bs bc : Nat) (w : World) (hva : validB s = true) (hs : Okay s) (hr : row.length ≤ 35184372088832)
    (hu : IntsAt w w.heap.size u row) (hc : IntsAt w w.heap.size cv s.cells) (h0 : w.cell? ⟨bs, 0, none⟩ = some (.int .i64 s.pred)) (h2 : w.cell? ⟨bc, 0, none⟩ = some cv) :
    Calls Try.prog 64 #[.int .i64 p, u, .pointer (some ⟨bs, 0, none⟩), .pointer (some ⟨bc, 0, none⟩)] w fun e w' => e = .returned (.bool (fitsB s p row)) ∧ w = w' := by
  obtain ⟨V, hV⟩ : ∃ V, V = fitsB s p row := ⟨_, rfl⟩
  rw [← hV]
  have HV := Lib.hid hV
  clear hV
  obtain ⟨b, cb, rfl, hb⟩ := hu
  have HU := Lib.hid hb
  obtain ⟨a, ca, rfl, ha⟩ := hc
  have HA := Lib.hid ha
  have hsl := hs.len
  have HVA := Lib.hid hva
  clear ha hb hva
  by_cases hp : p = s.pred
  · by_cases hl : row.length = s.cells.length
    · have hpn : (p != s.pred) = false := by simp [hp]
      have hln : ((s.cells.length : Int) != (s.cells.length : Int)) = false := by simp
      have HL := Lib.hid hl
      have HP := Lib.hid hp
      rw [hl] at hr ⊢
      clear hl hp
      go_enter Try.func64, Try.ntmps64
      go_wp2
      clear hpn hln
      go_loop [23] (fun k => ∃ i : Nat, k = .int .i64 (i : Int) ∧ i ≤ s.cells.length ∧ Hid (AllTo (fitAt s.cells row) i)) (fun k => s.cells.length - (intOf k).toNat)
      case atStart => exact ⟨0, rfl, Nat.zero_le _, AllTo.start _⟩
      case round =>
        obtain ⟨i, rfl, hil, hE⟩ := hrel
        by_cases h1 : i < s.cells.length
        · obtain ⟨g, off, rfl, hg, hc⟩ := HA.out.resolve_left (fun e => by rw [e] at h1; simp at h1)
          obtain ⟨g2, off2, rfl, hg2, hd⟩ := HU.out.resolve_left (fun e => by rw [← HL.out, e] at h1; simp at h1)
          obtain ⟨x, hx⟩ : ∃ x, x = at' s.cells i := ⟨_, rfl⟩
          obtain ⟨y, hy⟩ : ∃ y, y = at' row i := ⟨_, rfl⟩
          have hA : w.cell? ⟨g, off + i, none⟩ = some (.int .i64 x) := by
            rw [hx]; exact hc i h1
          have hB : w.cell? ⟨g2, off2 + i, none⟩ = some (.int .i64 y) := by
            rw [hy]; exact hd i (by rw [HL.out]; exact h1)
          have hxb : -9223372036854775808 ≤ x ∧ x ≤ 9223372036854775807 := by rw [hx]; exact hs.ints i
          by_cases h2 : x < 0
          · obtain ⟨j, hj⟩ : ∃ j : Nat, -1 - x = (j : Int) := ⟨(-1 - x).toNat, by omega⟩
            have hji : j ≤ i := by
              obtain ⟨k, hk, hki, _⟩ := valid_cell HVA.out h1 (by rw [← hx]; exact h2)
              rw [← hx] at hk; omega
            obtain ⟨z, hz⟩ : ∃ z, z = at' row j := ⟨_, rfl⟩
            have hC : w.cell? ⟨g2, off2 + j, none⟩ = some (.int .i64 z) := by
              rw [hz]; exact hd j (by rw [HL.out]; omega)
            have hjl : j < s.cells.length := by omega
            clear hc hd hg hg2 HA HU hs
            by_cases he : y = z
            · have HE := Lib.hid (hE.out.round (by rw [fitAt_neg hx hy h2 hj hz, he]; simp))
              have hb : (z != z) = false := by simp
              subst he
              clear hx hy hz hE
              go_wp2
              go_round
              case rel => exact ⟨i + 1, by go_num, by omega, HE.out⟩
              case measure => simp only [intOf]; omega
            · have hb : (y != z) = true := by simpa using he
              have HR := Lib.hid (show V = false by rw [HV.out]; exact fitsB_bad (by rw [HL.out]; exact h1) (by rw [fitAt_neg hx hy h2 hj hz]; simpa using he))
              clear hx hy hz hE he HV
              go_wp2
              go_ret
              exact ⟨ret_bool HR.out.symm, rfl⟩
          · clear hc hd hg hg2 HA HU hs
            by_cases he : y = x
            · have HE := Lib.hid (hE.out.round (by rw [fitAt_pos hx hy (by omega), he]; simp))
              have hb : (x != x) = false := by simp
              subst he
              clear hx hy hE
              go_wp2
              go_round
              case rel => exact ⟨i + 1, by go_num, by omega, HE.out⟩
              case measure => simp only [intOf]; omega
            · have hb : (y != x) = true := by simpa using he
              have HR := Lib.hid (show V = false by rw [HV.out]; exact fitsB_bad (by rw [HL.out]; exact h1) (by rw [fitAt_pos hx hy (by omega)]; simpa using he))
              clear hx hy hE he HV
              go_wp2
              go_ret
              exact ⟨ret_bool HR.out.symm, rfl⟩
        · have e : i = s.cells.length := by omega
          have HR := Lib.hid (show V = true by rw [HV.out]; exact fitsB_true HVA.out HP.out HL.out (by rw [HL.out, ← e]; exact hE.out))
          clear e
          go_wp2
          go_ret
          exact ⟨ret_bool HR.out.symm, rfl⟩
    · have hpn : (p != s.pred) = false := by simp [hp]
      have hln : ((row.length : Int) != (s.cells.length : Int)) = true := by simp; omega
      have HR := Lib.hid (show V = false by rw [HV.out]; exact fitsB_len hl)
      clear hp hl HV
      go_enter Try.func64, Try.ntmps64
      go_wp2
      go_ret
      exact ⟨ret_bool HR.out.symm, rfl⟩
  · have hpn : (p != s.pred) = true := by simpa using hp
    have HR := Lib.hid (show V = false by rw [HV.out]; exact fitsB_pred hp)
    clear hp HV
    go_enter Try.func64, Try.ntmps64
    go_wp2
    go_ret
    exact ⟨ret_bool HR.out.symm, rfl⟩

/-- What alpha.test hands back. -/
def TestIs (s : Shp) (v : Value) (w : World) (e : Ending) (w' : World) : Prop :=
  (validB s = false ∧ e = .returned (.func (.func 63) #[] #[]) ∧ Below w.heap.size w w') ∨
  (validB s = true ∧ ∃ bc cv, e = .returned (.func (.func 64) #[] #[.pointer (some ⟨w.heap.size, 0, none⟩), .pointer (some ⟨bc, 0, none⟩)]) ∧ Below w.heap.size w w' ∧
    w'.heap[w.heap.size]? = some (.cells #[.int .i64 s.pred, v] 27 (0, 0)) ∧ w.heap.size < bc ∧ w'.heap[bc]? = some (.cells #[cv] 25 (0, 0)) ∧ OwnInts w' w.heap.size cv s.cells)

set_option maxRecDepth 100000 in
set_option maxHeartbeats 1600000 in
theorem test_any (s : Shp) (v : Value) (w : World) (hv : IntsAt w w.heap.size v s.cells) (hn : Nilly v) (hs : Okay s) (hl : s.cells.length ≤ 17592186044400) :
    Calls Try.prog 53 #[.agg #[.int .i64 s.pred, v]] w (TestIs s v w) := by
  have hmf : ∀ (fn : Fn) (first cap : Array Value) (w : World), (Instr.makeFunc fn first cap).run Try.prog w = .ok (.func fn first cap) w := fun _ _ _ _ => rfl
  obtain ⟨a, c, rfl, _⟩ := id hv
  have HV := Lib.hid hv
  have HN := Lib.hid hn
  have HC := Lib.hid (valid_any s _ (w.alloc (.cells #[.int .i64 s.pred, .slice a s.cells.length c] 27)) ((hv.alloc (Nat.le_refl _) _).mono (by simp)) hs.ints hs.len)
  clear hv hn
  go_enter Try.func53, Try.ntmps53
  go_wp2_with fail
  refine HC.out.mono ?_
  rintro e w1 ⟨rfl, hb1⟩
  have hz1 : w.heap.size + 1 ≤ w1.heap.size := by simpa using hb1.size
  have B1 := Lib.hid (show w1.heap[w.heap.size]? = some (.cells #[.int .i64 s.pred, .slice a s.cells.length c] 27 (0, 0)) by rw [hb1.block _ (by simp)]; exact heap_alloc_new w _)
  have N1 := Lib.hid (show Below w.heap.size w w1 from ((Below.refl _ _).alloc (Nat.le_refl _) _).trans (hb1.mono (by simp)))
  clear hb1 HC
  by_cases hva : validB s = true
  · have HVA := Lib.hid hva
    rw [hva]
    clear hva
    have c0 : w1.cell? ⟨w.heap.size, 0, none⟩ = some (.int .i64 s.pred) := by have := B1.out; simp [World.cell?, this]
    have c1 : w1.cell? ⟨w.heap.size, 1, none⟩ = some (.slice a s.cells.length c) := by have := B1.out; simp [World.cell?, this]
    go_wp2_with fail
    refine (clone_any s.cells _ w1 ((HV.out.below N1.out).mono (by omega)) HN.out hl).mono ?_
    rintro e w2 ⟨cv, rfl, hown, hb2⟩
    have hz2 := hb2.size
    have B2 := Lib.hid (show w2.heap[w.heap.size]? = _ from (hb2.block _ (by omega)).trans B1.out)
    have N2 := Lib.hid (N1.out.trans (hb2.mono (by omega)))
    have HO := Lib.hid hown
    obtain ⟨ac, nc, cc, hcv⟩ := hown.form
    subst hcv
    clear hb2 c0 c1 B1 N1 hown
    go_wp2
    go_ret
    refine .inr ⟨HVA.out, w2.heap.size, .slice ac nc cc, rfl, ?_, ?_, by omega, ?_, ?_⟩
    · exact N2.out.alloc (by omega) _
    · rw [Below.heap_alloc _ _ _ (by omega)]; exact B2.out
    · exact heap_alloc_new w2 _
    · exact World.ownsRow.alloc (World.ownsRow.mono HO.out (by omega)) _
  · have hva' : validB s = false := by simpa using hva
    have HR := Lib.hid hva'
    rw [hva']
    clear hva hva'
    go_wp2
    go_ret
    exact .inl ⟨HR.out, rfl, N1.out⟩

theorem OwnInts.mono {w : World} {B B' : Nat} {v : Value} {l : List Int} (h : OwnInts w B v l) (hb : B' ≤ B) : OwnInts w B' v l := World.ownsRow.mono h hb

set_option maxRecDepth 100000 in
set_option maxHeartbeats 1600000 in
theorem fits_any (s : Shp) (v : Value) (p : Int) (row : List Int) (u : Value) (w : World) (hv : IntsAt w w.heap.size v s.cells) (hn : Nilly v) (hs : Okay s) (hl : s.cells.length ≤ 17592186044400)
    (hu : IntsAt w w.heap.size u row) (hr : row.length ≤ 35184372088832) :
    Calls Try.prog 19 #[.agg #[.int .i64 s.pred, v], .int .i64 p, u] w (BoolIs w (fitsB s p row)) := by
  obtain ⟨a, c, rfl, _⟩ := id hv
  obtain ⟨b, cb, rfl, _⟩ := id hu
  have HT := Lib.hid (test_any s _ (w.alloc (.cells #[.int .i64 s.pred, .slice a s.cells.length c] 27)) ((hv.alloc (Nat.le_refl _) _).mono (by simp)) hn hs hl)
  have HU := Lib.hid hu
  clear hv hu hn
  go_enter Try.func19, Try.ntmps19
  go_wp2_with fail
  refine HT.out.mono ?_
  rintro e w1 h
  clear HT
  rcases h with ⟨hva, rfl, hb1⟩ | ⟨hva, bc, cv, rfl, hb1, hB, hlt, hC, hO⟩
  · have HR := Lib.hid (show fitsB s p row = false from fitsB_invalid hva)
    have N1 := Lib.hid (show Below w.heap.size w w1 from ((Below.refl _ _).alloc (Nat.le_refl _) _).trans (hb1.mono (by simp)))
    clear hva hb1
    go_wp2_with fail
    refine (test1_any _ _ _).mono ?_
    rintro e w' ⟨rfl, rfl⟩
    go_wp2
    go_ret
    exact ⟨ret_bool HR.out.symm, N1.out⟩
  · have hz1 : w.heap.size + 1 ≤ w1.heap.size := by simpa using hb1.size
    have N1 := Lib.hid (show Below w.heap.size w w1 from ((Below.refl _ _).alloc (Nat.le_refl _) _).trans (hb1.mono (by simp)))
    have HVA := Lib.hid hva
    have c0 := Lib.hid (show w1.cell? ⟨(w.alloc (.cells #[.int .i64 s.pred, .slice a s.cells.length c] 27)).heap.size, 0, none⟩ = some (.int .i64 s.pred) by simp [World.cell?] at hB ⊢; rw [hB]; rfl)
    have c2 := Lib.hid (show w1.cell? ⟨bc, 0, none⟩ = some cv by simp [World.cell?, hC])
    have HCA := Lib.hid hO.at
    clear hva hb1 hB hC hO hlt
    go_wp2_with fail
    refine (test2_any s p row _ cv _ bc w1 HVA.out hs hr ((HU.out.below N1.out).mono (by omega)) HCA.out (by simpa using c0.out) c2.out).mono ?_
    rintro e w' ⟨rfl, rfl⟩
    go_wp2
    go_ret
    exact ⟨rfl, N1.out⟩

end Go.Proofs.Ytlandkindbmbfaa
