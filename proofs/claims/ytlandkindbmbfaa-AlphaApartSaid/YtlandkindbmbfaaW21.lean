/-
  The walk of a net's Add, where nobody watches: the row is numbered, the memories that it fits take its number and are told. Conditions: the numbers are ints, the lists within the form's own reach.
-/
import Derived.Test.YtlandkindbmbfaaK8
namespace Go.Proofs.Ytlandkindbmbfaa
open Go.RowKit Plain

section
variable {w : World} {G : Nat → Nat} {X n : Nat} {mv : Value} {ms : List Nat} {ss : List Shp} {ls : Nat → List Int}

set_option maxRecDepth 100000 in
theorem add_no (p : Int) (row : List Int) (u : Value) (w : World) (hu : IntsAt w w.heap.size u row) (hr : row.length ≤ 35184372088832) (hp : p < 0 ∨ negB row = true) :
    Calls Try.prog 43 #[.pointer (some ⟨X, 0, none⟩), .int .i64 p, u] w (TupIs [] 2 w) := by
  have HC := Lib.hid (containsNeg_any row u w hu hr)
  obtain ⟨a, c, rfl, _⟩ := hu
  by_cases h0 : p < 0
  · clear hp HC
    go_enter Try.func43, Try.ntmps43
    go_wp2
    go_ret2
    exact ⟨_, rfl, OwnInts.nil _ _, Below.refl _ _⟩
  · have hn : negB row = true := hp.resolve_left h0
    rw [hn] at HC
    clear hp hn
    go_enter Try.func43, Try.ntmps43
    go_wp2_with fail
    refine HC.out.mono ?_
    rintro e w' ⟨rfl, rfl⟩
    go_wp2
    go_ret2
    exact ⟨_, rfl, OwnInts.nil _ _, Below.refl _ _⟩

theorem cell_one_at {w : World} {N : Nat} (x : Value) (t : TypeId) (h : N = w.heap.size) : ∀ j u, [x][j]? = some u → (w.alloc (.cells #[x] t)).cell? ((⟨N, 0, none⟩ : Addr).add j) = some u := by
  subst h; exact cell_one_new _ _ _

theorem AddInv.up {wr w1 : World} {G' : Nat → Nat} {p : Int} {row : List Int} {i k : Nat} {o : Value} (h : AddInv w G X mv ms ss p row ls n i k o G' wr) (hb : Below wr.heap.size wr w1) : AddInv w G X mv ms ss p row ls n i k o G' w1 :=
  ⟨h.net.up hb, h.tags, h.turned.trans (Turned.of_below (G := G') hb) h.tags, row_keep h.own (fun k hk => hb.block k (World.ownsRow.lt h.own k hk).2), h.otag⟩

def AddIs (w : World) (G : Nat → Nat) (X : Nat) (mv : Value) (ms : List Nat) (ss : List Shp) (p : Int) (row : List Int) (ls : Nat → List Int) (n : Nat) (e : Ending) (w' : World) : Prop :=
  ∃ v G', e = .returned (.tuple #[v, .int .i64 0]) ∧ AddInv w G X mv ms ss p row ls n ss.length ss.length v G' w'

set_option maxRecDepth 100000 in
set_option maxHeartbeats 3200000 in
theorem add_yes (h : MNet w G X mv ms ss ls n) (hss : ss.length ≤ 4398046510976) (hok : Okays ss) (hva : ∀ s, s ∈ ss → validB s = true) (hn : n < 17592186044400) (hb : ∀ i, i < ss.length → (ls i).length ≤ n)
    (p : Int) (row : List Int) (u : Value) (hu : IntsAt w w.heap.size u row) (hut : row ≠ [] → ∀ k, u.ownBlock = some k → G k < 2) (hr : row.length ≤ 35184372088832) (hp : 0 ≤ p) (hng : negB row = false) :
    Calls Try.prog 43 #[.pointer (some ⟨X, 0, none⟩), .int .i64 p, u] w (AddIs w G X mv ms ss p row ls n) := by
  obtain ⟨i3, qi, q0, q1, q2⟩ := info_parts Try.info3
  have HC := Lib.hid (containsNeg_any row u w hu hr)
  rw [hng] at HC
  obtain ⟨au, cu, rfl, _⟩ := id hu
  have HU := Lib.hid hu
  have HUT := Lib.hid hut
  have HB := Lib.hid hb
  have c1 := h.c1
  have f1 := h.f1
  have I0 := Lib.hid (AddInv.start (p := p) (row := row) h)
  obtain ⟨a, c, rfl, hg⟩ := h.form
  have HG := Lib.hid hg
  have c0 := h.c0
  have hp' : ¬ p < 0 := by omega
  clear h hg hut hu hng hb
  go_enter Try.func43, Try.ntmps43
  go_wp2_with fail
  refine HC.out.mono ?_
  rintro e w' ⟨rfl, rfl⟩
  clear HC
  go_wp2
  generalize w.setCell ⟨X, 1, none⟩ (.int .i64 ((n : Int) + 1)) = w0 at I0 ⊢
  clear c0 c1 f1
  go_loopw [9, 40] (fun v k wr => ∃ (o : Value) (i : Nat) (G' : Nat → Nat), o = v ∧ k = .int .i64 (i : Int) ∧ i ≤ ss.length ∧ Hid (AddInv w G X (.slice a ss.length c) ms ss p row ls n i i o G' wr)) (fun _ k _ => ss.length - (intOf k).toNat)
  case atStart => exact ⟨_, 0, G, rfl, rfl, Nat.zero_le _, I0⟩
  case round =>
    obtain ⟨o, i, G', rfl, rfl, hil, hI⟩ := hrel
    obtain ⟨ov, on, oc, rfl⟩ := OwnInts.form hI.out.own
    by_cases h1 : i < ss.length
    · obtain ⟨g, rfl⟩ := HG.out (fun e => by rw [e] at h1; simp at h1)
      obtain ⟨b, hb⟩ : ∃ b, ms[i]? = some b := ⟨ms[i]'(by rw [hI.out.net.mlen]; exact h1), List.getElem?_eq_getElem _⟩
      obtain ⟨s, hs⟩ : ∃ s, ss[i]? = some s := ⟨ss[i]'h1, List.getElem?_eq_getElem h1⟩
      have k1 := hI.out.net.ptr hb
      have hmem := hI.out.net.mem i b s hs hb
      rw [if_neg (Nat.lt_irrefl i)] at hmem
      obtain ⟨l, hl⟩ : ∃ l, l = ls i := ⟨_, rfl⟩
      rw [← hl] at hmem
      have hln : l.length ≤ n := by rw [hl]; exact HB.out i h1
      have HLL := Lib.hid hl
      obtain ⟨fv, rv, r0, r1, _, f1, FN, ro, rt, rb⟩ := hmem.parts
      obtain ⟨bs, bc, cv, rfl, e0, e1, hcv⟩ := FN.parts
      have HFN := Lib.hid FN
      have RO := Lib.hid ro
      have RB := Lib.hid rb
      have RT := Lib.hid rt
      have HSI := Lib.hid hs
      have HBI := Lib.hid hb
      have hti : (idx (fitF p row) (ss.take i)).length ≤ i := Nat.le_trans (idx_length _) (by rw [List.length_take]; omega)
      obtain ⟨t, ht⟩ : ∃ t, t = idx (fitF p row) (ss.take i) := ⟨_, rfl⟩
      rw [← ht] at hti
      have HTT := Lib.hid ht
      have HT2 := Lib.hid (test2_any s p row (.slice au row.length cu) cv bs bc wr (hva s (List.mem_of_getElem? hs)) (hok s (List.mem_of_getElem? hs)).1 hr (HU.out.turned hI.out.turned HUT.out) hcv e0 e1)
      clear hs hb hl hmem ro rb rt hcv e0 e1 FN ht
      go_wp2_with fail
      refine HT2.out.mono ?_
      rintro e w' ⟨rfl, rfl⟩
      clear HT2
      cases hf : fitsB s p row with
      | false =>
        have HN := Lib.hid (hI.out.skip HSI.out hf)
        clear hf r1 f1 k1
        go_wp2
        go_roundw
        case rel => exact ⟨_, i + 1, G', rfl, by go_num, by omega, HN⟩
        case measure => simp only [intOf]; omega
      | true =>
        have HF := Lib.hid hf
        clear hf
        have hgb : G' b = 2 * i + 3 := (hI.out.net.mem i b s HSI.out HBI.out).1
        have hbl : b < wr.heap.size := hI.out.net.lt (by omega)
        have hrv : some b ≠ rv.ownBlock := fun e => by have := RT.out b e.symm; omega
        have HRV := Lib.hid hrv
        have HBL := Lib.hid hbl
        have ka : (wr.alloc (.cells #[.int .i64 (n : Int)] 3)).cell? ⟨b, 1, none⟩ = some rv := (World.cell?_alloc_past _ _ _ hbl).trans r1
        clear hrv hgb
        go_wp2_with (first
          | ((fail_if_success (have hchk := HMID)); at_builtin; refine wpList_append_own_at _ rfl _ _ 25 rfl 0 3 i3 (.int .i64 0) 1 8 Try.underlying25 qi q0 q1 q2 rfl (by decide) rv l.length (lits l) rfl (World.ownsRow.alloc RO.out (.cells #[.int .i64 (n : Int)] 3)) ⟨wr.heap.size, 0, none⟩ 1 1 [.int .i64 (n : Int)] rfl rfl (cell_one_new _ _ _) (one_i64 _) (by unfold maxLen; omega) (by omega) (by omega) ?_; intro v' w1 hown' hgrow hnl hat; obtain ⟨g', c', rfl⟩ := Joins.ownsRow_form hown' (by omega); have r2 := hgrow.cell ka HRV.out; have f2 : w1.frozen? ⟨b, 1, none⟩ = false := (World.frozen?_of_block ((hgrow.block b (by simp; omega) HRV.out).trans (Below.heap_alloc _ _ _ HBL.out))).trans f1; have HMID := Lib.hid (hI.out.mid HSI.out HBI.out RB.out HFN.out RT.out HLL.out hown' hgrow hat HF.out))
          | (at_builtin; obtain ⟨G2, I2⟩ := HMID.out; have J2 := Lib.hid I2; clear I2; refine wpList_append_own_at _ rfl _ _ 25 rfl w.heap.size 3 i3 (.int .i64 0) 1 8 Try.underlying25 qi q0 q1 q2 rfl (by decide) (.slice ov on oc) t.length (lits t) rfl (World.ownsRow.alloc (by rw [HTT.out]; exact J2.out.own) (.cells #[.int .i64 (i : Int)] 3)) ⟨w1.heap.size, 0, none⟩ 1 1 [.int .i64 (i : Int)] rfl rfl (cell_one_at _ _ (by simp [World.setCell])) (one_i64 _) (by unfold maxLen; omega) (by omega) (by have := J2.out.turned.size; simp at this ⊢; omega) ?_; intro v2 w2 hown2 hgrow2 _ hat2; have HTELL := Lib.hid (J2.out.tell HSI.out HF.out HTT.out hown2 hgrow2 hat2)))
        go_roundw
        case rel => exact ⟨_, i + 1, G2, rfl, by go_num, by omega, HTELL⟩
        case measure => simp only [intOf]; omega
    · obtain rfl : i = ss.length := by omega
      have hl0 : (idx (fitF p row) (ss.take ss.length)).length ≤ ss.length := Nat.le_trans (idx_length _) (by rw [List.length_take]; omega)
      have HBD := Lib.hid (idx_bounds (f := fitF p row) (ss.take ss.length))
      have HLEN : (ss.take ss.length).length = ss.length := by rw [List.take_length]
      have HOW := Lib.hid hI.out.own
      obtain ⟨t, ht⟩ : ∃ t, t = idx (fitF p row) (ss.take ss.length) := ⟨_, rfl⟩
      rw [← ht] at hl0 HBD HOW
      have HC := Lib.hid (clone_any t _ wr (OwnInts.at HOW.out) (OwnInts.nilly HOW.out) (by omega))
      clear ht
      go_wp2_with fail
      refine HC.out.mono ?_
      rintro e w1 ⟨cv, rfl, hcown, hcb⟩
      have HE := Lib.hid (hI.out.up hcb)
      clear HC
      obtain ⟨ca, cc, rfl, hca⟩ : ∃ ca cc, cv = .slice ca t.length cc ∧ (t ≠ [] → ∃ g, ca = some ⟨g, 0, none⟩) := by
        rcases Joins.ownsRow_forms hcown with ⟨rfl, h0⟩ | ⟨g, cap, rfl⟩
        · exact ⟨none, 0, by rw [h0], fun hn => absurd (List.length_eq_zero_iff.1 h0) hn⟩
        · exact ⟨some ⟨g, 0, none⟩, cap, rfl, fun _ => ⟨g, rfl⟩⟩
      have HCA := Lib.hid hca
      have HCO := Lib.hid hcown
      clear hca hcown hcb
      go_wp2
      go_loopw [70] (fun k wr => ∃ j : Nat, k = .int .i64 (j : Int) ∧ j ≤ t.length ∧ wr = w1) (fun k _ => t.length - (intOf k).toNat)
      case atStart => exact ⟨0, rfl, Nat.zero_le _, rfl⟩
      case round =>
        obtain ⟨j, rfl, hj, rfl⟩ := hrel
        by_cases h2 : j < t.length
        · obtain ⟨g', rfl⟩ := HCA.out (fun e => by rw [e] at h2; simp at h2)
          have e1 := OwnInts.cell HCO.out h2
          rw [Nat.zero_add] at e1
          have hb := HBD.out (at' t j) (at_mem h2)
          rw [HLEN] at hb
          obtain ⟨q, hq⟩ := Int.eq_ofNat_of_zero_le hb.1
          rw [hq] at e1 hb
          have hqs : q < ss.length := by omega
          obtain ⟨g, rfl⟩ := HG.out (fun e => by rw [e] at hqs; simp at hqs)
          obtain ⟨b, hb1⟩ : ∃ b, ms[q]? = some b := ⟨ms[q]'(by rw [HE.out.net.mlen]; exact hqs), List.getElem?_eq_getElem _⟩
          have k0 := HE.out.net.c0
          have k1 := HE.out.net.ptr hb1
          obtain ⟨fv, rv, r0, r1, r2, _⟩ := (HE.out.net.mem q b (ss[q]'hqs) (List.getElem?_eq_getElem hqs) hb1).parts
          clear hb hq hb1
          go_wp2
          go_loop [85] (fun k => k = .int .i64 0) (fun _ => 0)
          case atStart => exact rfl
          case round =>
            go_wp2
            go_roundw
            case rel => exact ⟨j + 1, by go_num, by omega, by first | rfl | trivial⟩
            case measure => simp only [intOf]; omega
        · go_wp2
          go_ret2
          exact ⟨_, _, rfl, HE.out⟩
end

end Go.Proofs.Ytlandkindbmbfaa
