/-
  Texts of this seat, one behind the other: V11, V7, V12. Conditions: those that each of them states.
-/
import Derived.Test.YtlandkindbmbfaaG15
/-
  The walk of a net's Add where memories are watched: the memories that the row fits take it, then each of their watchers is told. Conditions: the numbers are ints, the lists within the form's own reach.
-/
namespace Go.Proofs.Ytlandkindbmbfaa.Wa
open Go.RowKit Plain
attribute [local go_sem ↓] Go.wp_at_zero Go.wp_at_succ

/-- What a row's coming turns: the net's own, the list of the calls and the mark of the late ones. -/
structure AWk (b : Bx) (gv : Value) (G : Nat → Nat) (w w' : World) (gv' : Value) : Prop where
  os : w'.os = w.os
  tape : w'.tape = w.tape
  output : w'.output = w.output
  size : w.heap.size ≤ w'.heap.size
  block : ∀ k, k < w.heap.size → G k < 2 → k ≠ b.g → k ≠ b.l → gv.ownBlock ≠ some k → w'.heap[k]? = w.heap[k]?
  at' : ∀ k, gv'.ownBlock = some k → gv.ownBlock = some k ∨ w.heap.size ≤ k

section
variable [Inhabited WVals]
variable {wB w : World} {X X2 nw : Nat} {mv sv rv gv : Value} {ms : List Nat} {ss ra : List Shp} {b : Bx} {done : List Cl} {G : Nat → Nat}

theorem AddInv.up {wr w1 : World} {n : Nat} {ls : Nat → List Int} {G' : Nat → Nat} {p : Int} {row : List Int} {i k : Nat} {o : Value} (h : AddInv w G X mv ms ss p row ls n i k o G' wr) (hb : Below wr.heap.size wr w1) : AddInv w G X mv ms ss p row ls n i k o G' w1 :=
  ⟨h.net.up hb, h.tags, h.turned.trans (Turned.of_below (G := G') hb) h.tags, row_keep h.own (fun k hk => hb.block k (World.ownsRow.lt h.own k hk).2), h.otag⟩

def AddWIs (wB : World) (X : Nat) (mv : Value) (ms : List Nat) (ss : List Shp) (X2 : Nat) (sv : Value) (b : Bx) (nw : Nat) (sval : Value) (rs : List Shp) (done : List Cl) (rv gv : Value) (G : Nat → Nat) (w : World) (e : Ending) (w' : World) : Prop :=
  (∃ v, e = .returned v) ∧ ∃ G' gv', WS wB X mv ms ss X2 sv b nw sval rs rs done w' G' rv gv' ∧ (∀ k, k < w.heap.size → G' k = G k) ∧ AWk b gv G w w' gv'

set_option maxRecDepth 100000 in
set_option maxHeartbeats 12800000 in
theorem add_watch {sa : Option Addr} {cs : Nat} {watch : List Int} {p : Int} {row : List Int} (hss : ss.length ≤ 4398046510976) (h : WS wB X mv ms ss X2 sv b watch.length (.slice sa ss.length cs) ra (ra ++ [⟨p, row⟩]) done w G rv gv) (hsh : OwnShps wB (X2 + 1) sv ss) (hok : Okays ss) (hva : ∀ s, s ∈ ss → validB s = true)
    (hn : ra.length < 4398046510976) (hst : Short (ra ++ [⟨p, row⟩])) (hfs : ∀ i, i < ss.length → wfOf i = (whos watch (i : Int)).map (clos b)) (hdl : done.length + watch.length ≤ 4398046511000)
    (u : Value) (hu : IntsAt w w.heap.size u row) (hut : row ≠ [] → ∀ k, u.ownBlock = some k → G k < 2) (hr : row.length ≤ 35184372088832) (hp : 0 ≤ p) (hng : negB row = false) :
    Calls Try.prog 43 #[.pointer (some ⟨X, 0, none⟩), .int .i64 p, u] w (AddWIs wB X mv ms ss X2 sv b watch.length (.slice sa ss.length cs) (ra ++ [⟨p, row⟩]) (done ++ tell watch (ra.length : Int) (took ss ⟨p, row⟩)) rv gv G w) := by
  obtain ⟨i3, qi, q0, q1, q2⟩ := info_parts Try.info3
  have HWS := Lib.hid h
  have HSH := Lib.hid hsh
  have HOK := Lib.hid hok
  have HST := Lib.hid hst
  have HFS := Lib.hid hfs
  obtain ⟨n, hnn⟩ : ∃ n, n = ra.length := ⟨_, rfl⟩
  obtain ⟨ls, hls⟩ : ∃ ls, ls = lsOf ss ra := ⟨_, rfl⟩
  have hnet : MNet w G X mv ms ss ls n := by rw [hls, hnn]; exact h.both.net
  have hb : ∀ i, i < ss.length → (ls i).length ≤ n := fun i _ => by rw [hls, hnn]; exact lsOf_len ss ra i
  have HLS := Lib.hid hls
  have HNN := Lib.hid hnn
  rw [← hnn] at hn
  clear h hls hnn hst hfs
  have HC := Lib.hid (containsNeg_any row u w hu hr)
  rw [hng] at HC
  obtain ⟨au, cu, rfl, _⟩ := id hu
  have HU := Lib.hid hu
  have HUT := Lib.hid hut
  have HB := Lib.hid hb
  have c1 := hnet.c1
  have f1 := hnet.f1
  have I0 := Lib.hid (AddInv.start (p := p) (row := row) hnet)
  obtain ⟨a, c, rfl, hg⟩ := hnet.form
  have HG := Lib.hid hg
  have c0 := hnet.c0
  have hp' : ¬ p < 0 := by omega
  clear hnet hg hut hu hng hb
  go_enter Try.func43, Try.ntmps43
  go_wp2_with fail
  refine HC.out.mono ?_
  rintro e w' ⟨rfl, rfl⟩
  clear HC
  go_wp2
  generalize w.setCell ⟨X, 1, none⟩ (.int .i64 ((n : Int) + 1)) = w0 at I0 ⊢
  clear c0 c1 f1
  go_loopw [9, 40] (fun v k wr => ∃ (o : Value) (i : Nat) (G' : Nat → Nat), o = v ∧ k = .int .i64 (i : Int) ∧ i ≤ ss.length ∧ Hid (AddInv w G X (.slice a ss.length c) ms ss p row ls n i i o G' wr)) (fun _ k _ => ss.length - (intOf k).toNat)
  case atStart => exact ⟨_, 0, G, rfl, rfl, Nat.zero_le _, I0⟩
  case round =>
    obtain ⟨o, i, G', rfl, rfl, hil, hI⟩ := hrel
    obtain ⟨ov, on, oc, rfl⟩ := OwnInts.form hI.out.own
    by_cases h1 : i < ss.length
    · obtain ⟨g, rfl⟩ := HG.out (fun e => by rw [e] at h1; simp at h1)
      obtain ⟨b, hb⟩ : ∃ b, ms[i]? = some b := ⟨ms[i]'(by rw [hI.out.net.mlen]; exact h1), List.getElem?_eq_getElem _⟩
      obtain ⟨s, hs⟩ : ∃ s, ss[i]? = some s := ⟨ss[i]'h1, List.getElem?_eq_getElem h1⟩
      have k1 := hI.out.net.ptr hb
      have hmem := hI.out.net.mem i b s hs hb
      rw [if_neg (Nat.lt_irrefl i)] at hmem
      obtain ⟨l, hl⟩ : ∃ l, l = ls i := ⟨_, rfl⟩
      rw [← hl] at hmem
      have hln : l.length ≤ n := by rw [hl]; exact HB.out i h1
      have HLL := Lib.hid hl
      obtain ⟨fv, rv, r0, r1, _, f1, FN, ro, rt, rb, _, _⟩ := hmem.parts
      obtain ⟨bs, bc, cv, rfl, e0, e1, hcv⟩ := FN.parts
      have HFN := Lib.hid FN
      have RO := Lib.hid ro
      have RB := Lib.hid rb
      have RT := Lib.hid rt
      have HSI := Lib.hid hs
      have HBI := Lib.hid hb
      have hti : (idx (fitF p row) (ss.take i)).length ≤ i := Nat.le_trans (idx_length _) (by rw [List.length_take]; omega)
      obtain ⟨t, ht⟩ : ∃ t, t = idx (fitF p row) (ss.take i) := ⟨_, rfl⟩
      rw [← ht] at hti
      have HTT := Lib.hid ht
      have HT2 := Lib.hid (test2_any s p row (.slice au row.length cu) cv bs bc wr (hva s (List.mem_of_getElem? hs)) (hok s (List.mem_of_getElem? hs)).1 hr (HU.out.turned hI.out.turned HUT.out) hcv e0 e1)
      clear hs hb hl hmem ro rb rt hcv e0 e1 FN ht
      go_wp2_with fail
      refine HT2.out.mono ?_
      rintro e w' ⟨rfl, rfl⟩
      clear HT2
      cases hf : fitsB s p row with
      | false =>
        have HN := Lib.hid (hI.out.skip HSI.out hf)
        clear hf r1 f1 k1
        go_wp2
        go_roundw
        case rel => exact ⟨_, i + 1, G', rfl, by go_num, by omega, HN⟩
        case measure => simp only [intOf]; omega
      | true =>
        have HF := Lib.hid hf
        clear hf
        have hgb : G' b = 2 * i + 3 := (hI.out.net.mem i b s HSI.out HBI.out).1
        have hbl : b < wr.heap.size := hI.out.net.lt (by omega)
        have hrv : some b ≠ rv.ownBlock := fun e => by have := RT.out b e.symm; omega
        have HRV := Lib.hid hrv
        have HBL := Lib.hid hbl
        have ka : (wr.alloc (.cells #[.int .i64 (n : Int)] 3)).cell? ⟨b, 1, none⟩ = some rv := (World.cell?_alloc_past _ _ _ hbl).trans r1
        clear hrv hgb
        go_wp2_with (first
          | ((fail_if_success (have hchk := HMID)); at_builtin; refine wpList_append_own_at _ rfl _ _ 25 rfl 0 3 i3 (.int .i64 0) 1 8 Try.underlying25 qi q0 q1 q2 rfl (by decide) rv l.length (lits l) rfl (World.ownsRow.alloc RO.out (.cells #[.int .i64 (n : Int)] 3)) ⟨wr.heap.size, 0, none⟩ 1 1 [.int .i64 (n : Int)] rfl rfl (cell_one_new _ _ _) (one_i64 _) (by unfold maxLen; omega) (by omega) (by omega) ?_; intro v' w1 hown' hgrow hnl hat; obtain ⟨g', c', rfl⟩ := Joins.ownsRow_form hown' (by omega); have r2 := hgrow.cell ka HRV.out; have f2 : w1.frozen? ⟨b, 1, none⟩ = false := (World.frozen?_of_block ((hgrow.block b (by simp; omega) HRV.out).trans (Below.heap_alloc _ _ _ HBL.out))).trans f1; have HMID := Lib.hid (hI.out.mid HSI.out HBI.out RB.out HFN.out RT.out HLL.out hown' hgrow hat HF.out))
          | (at_builtin; obtain ⟨G2, I2⟩ := HMID.out; have J2 := Lib.hid I2; clear I2; refine wpList_append_own_at _ rfl _ _ 25 rfl w.heap.size 3 i3 (.int .i64 0) 1 8 Try.underlying25 qi q0 q1 q2 rfl (by decide) (.slice ov on oc) t.length (lits t) rfl (World.ownsRow.alloc (by rw [HTT.out]; exact J2.out.own) (.cells #[.int .i64 (i : Int)] 3)) ⟨w1.heap.size, 0, none⟩ 1 1 [.int .i64 (i : Int)] rfl rfl (cell_one_at _ _ (by simp [World.setCell])) (one_i64 _) (by unfold maxLen; omega) (by omega) (by have := J2.out.turned.size; simp at this ⊢; omega) ?_; intro v2 w2 hown2 hgrow2 _ hat2; have HTELL := Lib.hid (J2.out.tell HSI.out HF.out HTT.out hown2 hgrow2 hat2)))
        go_roundw
        case rel => exact ⟨_, i + 1, G2, rfl, by go_num, by omega, HTELL⟩
        case measure => simp only [intOf]; omega
    · have e : i = ss.length := by omega
      rw [e] at hI
      clear e
      have hl0 : (idx (fitF p row) (ss.take ss.length)).length ≤ ss.length := Nat.le_trans (idx_length _) (by rw [List.length_take]; omega)
      have HBD := Lib.hid (idx_bounds (f := fitF p row) (ss.take ss.length))
      have HND := Lib.hid (show (idx (fitF p row) (ss.take ss.length)).Nodup from idxFrom_nodup _ _)
      have HTK := Lib.hid (show idx (fitF p row) (ss.take ss.length) = took ss ⟨p, row⟩ by rw [List.take_length]; rfl)
      have HLEN : (ss.take ss.length).length = ss.length := by rw [List.take_length]
      have HOW := Lib.hid hI.out.own
      obtain ⟨t, ht⟩ : ∃ t, t = idx (fitF p row) (ss.take ss.length) := ⟨_, rfl⟩
      rw [← ht] at hl0 HBD HOW HND HTK
      have HC := Lib.hid (clone_any t _ wr (OwnInts.at HOW.out) (OwnInts.nilly HOW.out) (by omega))
      clear ht
      go_wp2_with fail
      refine HC.out.mono ?_
      rintro e w1 ⟨cv, rfl, hcown, hcb⟩
      have hE := hI.out.up hcb
      have hB1 : Both wB X (.slice a ss.length c) ms ss X2 sv (ra ++ [⟨p, row⟩]) (ra ++ [⟨p, row⟩]) w1 G' rv := HWS.out.both.turn (ra' := ra ++ [⟨p, row⟩]) (by
          rw [List.length_append, List.length_singleton, ← HNN.out]
          exact hE.net.congr (fun j hj => by
            rw [if_pos hj, HLS.out, HNN.out]
            exact lsOf_add ss ra ⟨p, row⟩ j)) hE.tags hE.turned
      have H1 := Lib.hid (HWS.out.keep hB1 (fun k hk h0 _ _ => hE.turned.block k hk (by omega)) hE.tags)
      have HTU := Lib.hid hE.turned
      have HTG := Lib.hid hE.tags
      clear HC hE hB1
      obtain ⟨ca, cc, rfl, hca⟩ : ∃ ca cc, cv = .slice ca t.length cc ∧ (t ≠ [] → ∃ g, ca = some ⟨g, 0, none⟩) := by
        rcases Joins.ownsRow_forms hcown with ⟨rfl, h0⟩ | ⟨g, cap, rfl⟩
        · exact ⟨none, 0, by rw [h0], fun hn => absurd (List.length_eq_zero_iff.1 h0) hn⟩
        · exact ⟨some ⟨g, 0, none⟩, cap, rfl, fun _ => ⟨g, rfl⟩⟩
      have HCA := Lib.hid hca
      have HCO := Lib.hid hcown
      clear hca hcown hcb
      go_wp2
      go_loopw [70] (fun k wr => ∃ (j : Nat) (gv' : Value), k = .int .i64 (j : Int) ∧ j ≤ t.length ∧ Hid (WS wB X (.slice a ss.length c) ms ss X2 sv b watch.length (.slice sa ss.length cs) (ra ++ [⟨p, row⟩]) (ra ++ [⟨p, row⟩]) (done ++ tell watch (n : Int) (t.take j)) wr G' rv gv') ∧ Hid (Cbk b gv w1 wr gv')) (fun k _ => t.length - (intOf k).toNat)
      case atStart => exact ⟨0, gv, rfl, Nat.zero_le _, by rw [List.take_zero]; simpa [tell] using H1, Lib.hid (Cbk.refl _ _ _)⟩
      case round =>
        obtain ⟨j, gv1, rfl, hj, HW1, HK1⟩ := hrel
        by_cases h2 : j < t.length
        · obtain ⟨g', rfl⟩ := HCA.out (fun e => by rw [e] at h2; simp at h2)
          have hng1 : g' ≠ b.g := fun e => not_own HCO.out H1.out.box.g (by decide) (by rw [e]; rfl)
          have hng2 : g' ≠ b.l := fun e => not_own HCO.out H1.out.box.l (by decide) (by rw [e]; rfl)
          have hng3 : gv.ownBlock ≠ some g' := fun e => by
            rcases types_apart H1.out.own HCO.out (by decide) with h7 | h7
            · rw [h7] at e; cases e
            · exact h7 e
          have hgl := (World.ownsRow.lt HCO.out g' rfl).2
          have HCK := Lib.hid (fun (w' : World) (gv' : Value) (hk : Cbk b gv w1 w' gv') => World.cell?_of_block (a := ⟨g', j, none⟩) (hk.block g' hgl hng1 hng2 hng3))
          have e1 := OwnInts.cell HCO.out h2
          rw [Nat.zero_add] at e1
          have hb := HBD.out (at' t j) (at_mem h2)
          rw [HLEN] at hb
          obtain ⟨q, hq⟩ := Int.eq_ofNat_of_zero_le hb.1
          rw [hq] at e1 hb
          have HQ := Lib.hid hq
          have hqs : q < ss.length := by omega
          have e2 : wr.cell? ⟨g', j, none⟩ = some (.int .i64 (q : Int)) := (HCK.out wr gv1 HK1.out).trans e1
          obtain ⟨g, rfl⟩ := HG.out (fun e => by rw [e] at hqs; simp at hqs)
          obtain ⟨bq, hb1⟩ : ∃ bq, ms[q]? = some bq := ⟨ms[q]'(by rw [HW1.out.both.net.mlen]; exact hqs), List.getElem?_eq_getElem _⟩
          have HB1 := Lib.hid hb1
          have k0 := HW1.out.both.net.c0
          have k1 := HW1.out.both.net.ptr hb1
          obtain ⟨wl, hwl⟩ : ∃ wl, wl = whos watch (q : Int) := ⟨_, rfl⟩
          have HWL := Lib.hid hwl
          have HFQ := Lib.hid (show wfOf q = wl.map (clos b) by rw [hwl]; exact HFS.out q hqs)
          have hwll : wl.length ≤ watch.length := by rw [hwl]; exact whosTo_len _ _ _
          obtain ⟨fv, rv1, r0, r1, r2, _, _, _, _, _, wo, _⟩ := (HW1.out.both.net.mem q bq (ss[q]'hqs) (List.getElem?_eq_getElem hqs) hb1).parts
          rw [HFQ.out, List.length_map] at wo
          obtain ⟨aw, cw, hwv, hwa⟩ : ∃ aw cw, wvOf q = .slice aw wl.length cw ∧ (wl ≠ [] → ∃ g, aw = some ⟨g, 0, none⟩) := by
            rcases Joins.ownsRow_forms wo with ⟨h0, h1⟩ | ⟨g, cap, h0⟩
            · exact ⟨none, 0, by rw [h0, h1], fun hn => absurd (List.length_eq_zero_iff.1 h1) hn⟩
            · exact ⟨some ⟨g, 0, none⟩, cap, h0, fun _ => ⟨g, rfl⟩⟩
          rw [hwv] at r2
          have HWV := Lib.hid hwv
          have HWA := Lib.hid hwa
          obtain ⟨done1, hdone1⟩ : ∃ d, d = done ++ tell watch (n : Int) (t.take j) := ⟨_, rfl⟩
          rw [← hdone1] at HW1
          have HD1 := Lib.hid hdone1
          clear hb hq hb1 e1 hng1 hng2 hng3 hgl hwl wo hwv hwa hdone1
          go_wp2
          go_loopw [85] (fun k wx => ∃ (q2 : Nat) (gv2 : Value), k = .int .i64 (q2 : Int) ∧ q2 ≤ wl.length ∧ Hid (WS wB X (.slice (some ⟨g, 0, none⟩) ss.length c) ms ss X2 sv b watch.length (.slice sa ss.length cs) (ra ++ [⟨p, row⟩]) (ra ++ [⟨p, row⟩]) (done1 ++ (tellOne watch (n : Int) (q : Int)).take q2) wx G' rv gv2) ∧ Hid (Cbk b gv w1 wx gv2)) (fun k _ => wl.length - (intOf k).toNat)
          case atStart => exact ⟨0, gv1, rfl, Nat.zero_le _, by rw [List.take_zero, List.append_nil]; exact HW1, HK1⟩
          case round =>
            obtain ⟨q2, gv2, rfl, hq2, HW2, HK2⟩ := hrel
            by_cases h3 : q2 < wl.length
            · obtain ⟨gw, rfl⟩ := HWA.out (ne_of_lt_len h3)
              obtain ⟨jj, hjj⟩ : ∃ jj, wl[q2]? = some jj := ⟨wl[q2], List.getElem?_eq_getElem h3⟩
              have hjl : jj < watch.length := whosTo_lt (by rw [HWL.out] at hjj; exact List.mem_of_getElem? hjj)
              obtain ⟨_, _, _, _, _, _, _, _, _, _, wo, _⟩ := (HW2.out.both.net.mem q bq (ss[q]'hqs) (List.getElem?_eq_getElem hqs) HB1.out).parts
              rw [HFQ.out, List.length_map, HWV.out] at wo
              have d0 : wr.cell? ⟨gw, q2, none⟩ = some (clos b jj) := by
                rw [World.ownsRow.cellAt wo q2 (by omega), List.getElem?_map, hjj]; rfl
              unfold clos at d0
              have hpart := tell_part watch (n : Int) HND.out (j := j) (q := q2) (x := (q : Int)) (by rw [← HQ.out]; unfold at'; rw [List.getElem?_eq_getElem h2]; rfl)
              have hdn : (done1 ++ (tellOne watch (n : Int) (q : Int)).take q2).length ≤ 4398046511000 := by
                rw [List.length_append, HD1.out, List.length_append]; omega
              have HCB := Lib.hid (cb_row hss HW2.out HSH.out HOK.out (by rw [List.length_append, List.length_singleton, ← HNN.out]; omega) HST.out hjl hqs (row := n) (by rw [List.length_append, List.length_singleton, HNN.out]) hdn)
              have HT1 := Lib.hid (show (tellOne watch (n : Int) (q : Int)).take (q2 + 1) = (tellOne watch (n : Int) (q : Int)).take q2 ++ [⟨(jj : Int), (q : Int), (n : Int)⟩] from take_one (by unfold tellOne; rw [List.getElem?_map, ← HWL.out, hjj]; rfl))
              clear wo hjj hpart hdn
              go_wp2_with fail
              refine HCB.out.mono ?_
              rintro e w3 ⟨rfl, gv3, hW3, hK3⟩
              have HW3 := Lib.hid hW3
              have HK3 := Lib.hid (HK2.out.trans hK3)
              clear hW3 hK3
              go_wp2
              go_roundw
              case rel =>
                refine ⟨q2 + 1, gv3, by go_num, by omega, ?_, HK3⟩
                rw [HT1.out, ← List.append_assoc]
                exact HW3
              case measure => simp only [intOf]; omega
            · have e : q2 = wl.length := by omega
              rw [e] at HW2
              have HT2 : Hid ((tellOne watch (n : Int) (q : Int)).take wl.length = tellOne watch (n : Int) (q : Int)) := by
                rw [HWL.out]
                exact List.take_of_length_le (by unfold tellOne; rw [List.length_map]; exact Nat.le_refl _)
              rw [HT2.out] at HW2
              clear e
              go_wp2
              go_roundw
              case rel =>
                refine ⟨j + 1, gv2, by go_num, by omega, ?_, HK2⟩
                rw [take_one (show t[j]? = some (q : Int) by rw [← HQ.out]; unfold at'; rw [List.getElem?_eq_getElem h2]; rfl), tell_snoc, ← List.append_assoc, ← HD1.out]
                exact HW2
              case measure => simp only [intOf]; omega
        · have e : j = t.length := by omega
          rw [e, List.take_length, HTK.out, HNN.out] at HW1
          clear e
          go_wp2
          go_ret2
          refine ⟨⟨_, rfl⟩, G', gv1, HW1.out, HTG.out, ⟨HK1.out.os.trans HTU.out.os, HK1.out.tape.trans HTU.out.tape, HK1.out.output.trans HTU.out.output, Nat.le_trans HTU.out.size HK1.out.size, fun k hk h1 h2 h3 h4 => (HK1.out.block k (Nat.lt_of_lt_of_le hk HTU.out.size) h2 h3 h4).trans (HTU.out.block k hk h1), fun k hk => ?_⟩⟩
          rcases HK1.out.at' k hk with h1 | h1
          · exact .inl h1
          · exact .inr (Nat.le_trans HTU.out.size h1)
end

end Go.Proofs.Ytlandkindbmbfaa.Wa
/-
  The walk of a net's Watch: the watcher comes behind the others of its memory. Conditions: the lists within the form's own reach.
-/
namespace Go.Proofs.Ytlandkindbmbfaa.Wa
open Go.RowKit Plain
attribute [local go_sem ↓] Go.wp_at_zero Go.wp_at_succ

theorem Try.info73 : (Try.prog.info? 73).map (fun i => (i.zero, i.size, i.bytes)) = some (some .nilFunc, 1, 8) := by kernel_rfl

section
variable {w w1 : World} {G : Nat → Nat} {X n : Nat} {mv : Value} {ms : List Nat} {ss : List Shp} {ls : Nat → List Int} {I : WVals}

theorem watch_no (h : @MNet ⟨I⟩ w G X mv ms ss ls n) (m : Int) (f : Value) (hm : thereB m ss.length = false) : Calls Try.prog 39 #[.pointer (some ⟨X, 0, none⟩), .int .i64 m, f] w fun e w' => e = .returned (.int .i64 2) ∧ w = w' := by
  letI : Inhabited WVals := ⟨I⟩
  have HT := Lib.hid (there_any h m)
  rw [hm] at HT
  clear h hm
  go_enter Try.func39, Try.ntmps39
  go_wp2_with fail
  refine HT.out.mono ?_
  rintro e w' ⟨rfl, rfl⟩
  go_wp2
  go_ret
  exact ⟨rfl, rfl⟩
set_option maxRecDepth 100000 in
theorem watch_nil (h : @MNet ⟨I⟩ w G X mv ms ss ls n) (m : Int) : Calls Try.prog 39 #[.pointer (some ⟨X, 0, none⟩), .int .i64 m, .nilFunc] w fun e w' => e = .returned (.int .i64 2) ∧ w = w' := by
  cases hm : thereB m ss.length with
  | false => exact watch_no h m _ hm
  | true =>
    letI : Inhabited WVals := ⟨I⟩
    have HT := Lib.hid (there_any h m)
    rw [hm] at HT
    have hrun : Sem.run Try.prog (binOp BinOp.eql 73 Value.nilFunc Value.nilFunc) w = .ok (.bool true) w := by kernel_rfl
    clear h hm
    go_enter Try.func39, Try.ntmps39
    go_wp2_with fail
    refine HT.out.mono ?_
    rintro e w' ⟨rfl, rfl⟩
    go_wp2
    go_ret
    exact ⟨rfl, rfl⟩

def WatchIs (I : WVals) (w : World) (G : Nat → Nat) (X : Nat) (mv : Value) (ms : List Nat) (ss : List Shp) (ls : Nat → List Int) (n m : Nat) (f : Value) (e : Ending) (w' : World) : Prop :=
  e = .returned (.int .i64 0) ∧ ∃ v' G', @MNet ⟨upd I m v' f⟩ w' G' X mv ms ss ls n ∧ WDis (upd I m v' f) ss.length ∧ (∀ k, k < w.heap.size → G' k = G k) ∧ NTurned G w w'

set_option maxRecDepth 100000 in
set_option maxHeartbeats 3200000 in
theorem watch_yes (h : @MNet ⟨I⟩ w G X mv ms ss ls n) (hd : WDis I ss.length) {m : Nat} (hm : m < ss.length) (hl : (I.fs m).length ≤ 1048576) (k : Nat) (cs : Array Value) :
    Calls Try.prog 39 #[.pointer (some ⟨X, 0, none⟩), .int .i64 (m : Int), .func (.func k) #[] cs] w (WatchIs I w G X mv ms ss ls n m (.func (.func k) #[] cs)) := by
  letI : Inhabited WVals := ⟨I⟩
  obtain ⟨i73, fi, f0, f1, f2⟩ := info_parts Try.info73
  have HT := Lib.hid (there_any h (m : Int))
  rw [show thereB (m : Int) ss.length = true from decide_eq_true (by omega)] at HT
  obtain ⟨b, hb⟩ : ∃ b, ms[m]? = some b := ⟨ms[m]'(by rw [h.mlen]; exact hm), List.getElem?_eq_getElem _⟩
  have hs : ss[m]? = some ss[m] := List.getElem?_eq_getElem hm
  obtain ⟨F, hF⟩ : ∃ F, F = Value.func (.func k) #[] cs := ⟨_, rfl⟩
  have h1 := h.alloc (.cells #[F] 73)
  obtain ⟨a, c, rfl, hg⟩ := h.form
  obtain ⟨g, rfl⟩ := hg (fun e => by rw [e] at hm; simp at hm)
  obtain ⟨gb, fv, rv, rb, _, _, _, wo, wt⟩ := h.mem m b ss[m] hs hb
  have wo : w.ownsRow 0 73 1 (I.v m) (I.fs m).length (I.fs m) := wo
  have wt : ∀ k, (I.v m).ownBlock = some k → G k = 1 := wt
  have rb : w.heap[b]? = some (.cells #[fv, rv, I.v m] 105 (0, 0)) := rb
  have c0 := h.c0
  have c1 := h.ptr hb
  have c2 : w.cell? ⟨b, 2, none⟩ = some (I.v m) := by simp only [World.cell?, rb]; rfl
  have k0 := h1.c0
  have k1 := h1.ptr hb
  have hbl : b < w.heap.size := h.lt (by omega)
  have hXl : X < w.heap.size := h.lt (by rw [h.tag]; decide)
  have hgl : g < w.heap.size := (World.ownsRow.lt h.row g rfl).2
  have k2 : (w.alloc (.cells #[F] 73)).cell? ⟨b, 2, none⟩ = some (I.v m) := (World.cell?_alloc_past _ _ _ hbl).trans c2
  have hXw : some X ≠ (I.v m).ownBlock := fun e => by have := wt X e.symm; rw [h.tag] at this; cases this
  have hbw : some b ≠ (I.v m).ownBlock := fun e => by have := wt b e.symm; omega
  have hgw : some g ≠ (I.v m).ownBlock := fun e => by
    rcases types_apart h.row wo (by decide) with h7 | h7
    · simp [Value.ownBlock] at h7
    · exact h7 e
  have HN := Lib.hid (And.intro h (And.intro hd (And.intro hs hb)))
  have WO := Lib.hid wo
  have HW := Lib.hid (And.intro hXw (And.intro hbw hgw))
  have RB := Lib.hid rb
  have HLT := Lib.hid (And.intro hXl (And.intro hbl hgl))
  have hrun : Sem.run Try.prog (binOp BinOp.eql 73 (Value.func (.func k) #[] cs) Value.nilFunc) w = .ok (.bool false) w := by kernel_rfl
  clear h h1 hd hs hb hg gb wo wt rb hXw hbw hgw hbl hXl hgl
  go_enter Try.func39, Try.ntmps39
  go_wp2_with fail
  refine HT.out.mono ?_
  rintro e w' ⟨rfl, rfl⟩
  go_wp2_with fail
  subst hF
  go_region_law
    (first
      | (refine step_append_at _ (by rfl) _ _ 103 (by rfl) 0 73 i73 .nilFunc 1 8 Try.underlying103 fi f0 f1 f2 rfl (by decide) (I.v m) (I.fs m).length (I.fs m) (by rfl) (by exact World.ownsRow.alloc WO.out (.cells #[.func (.func k) #[] cs] 73)) ⟨w.heap.size, 0, none⟩ 1 1 [.func (.func k) #[] cs] (by rfl) (by rfl) (by exact cell_one_new _ _ _) (by intro x hx; simp at hx; subst hx; rfl) (by unfold maxLen; omega) (by omega) (by omega) ?_; intro v' w1 hown1 hgrow1 hnl1 hat1; obtain ⟨g', c', rfl⟩ := Joins.ownsRow_form hown1 (by omega); have hgrow : (w.alloc (.cells #[.func (.func k) #[] cs] 73)).grownBy w1 (I.v m).ownBlock := ⟨hgrow1.os, hgrow1.tape, hgrow1.output, hgrow1.size, hgrow1.block⟩; have HWT := Lib.hid (HN.out.1.watch HN.out.2.1 HN.out.2.2.1 HN.out.2.2.2 hgrow hown1 hat1); have q0 := hgrow.cell k0 HW.out.1; have q1 := hgrow.cell k1 HW.out.2.2; have q2 := hgrow.cell k2 HW.out.2.1; have qf : w1.frozen? ⟨b, 2, none⟩ = false := (by have e : w1.heap[b]? = some (.cells #[fv, rv, I.v m] 105 (0, 0)) := (hgrow.block b (by have := HLT.out.2.1; simp; omega) HW.out.2.1).trans ((Below.heap_alloc _ _ _ HLT.out.2.1).trans RB.out); simp only [World.frozen?, e]; rfl)))
  all_goals
    go_wp2
    go_ret
    obtain ⟨G', h1, h2, h3, h4⟩ := HWT.out
    exact ⟨rfl, _, G', h1, h2, h3, h4⟩
end

end Go.Proofs.Ytlandkindbmbfaa.Wa
/-
  The law AlphaWatches: what a watcher more, a row of the document's, the list of the calls that are to come do to what the law knows. No condition beyond those that each lemma states.
-/
namespace Go.Proofs.Ytlandkindbmbfaa.Wa
open Go.RowKit Plain

def Bx.more (b : Bx) (i k : Nat) : Bx := ⟨b.g, b.l, b.n, b.m, b.s, fun j => if j = i then k else b.who j⟩
theorem clos_more (b : Bx) {i k j : Nat} (h : j < i) : clos (b.more i k) j = clos b j := by
  have e : (b.more i k).who j = b.who j := if_neg (by omega)
  unfold clos
  rw [e]; rfl

section
variable {wB wr w1 : World} {X X2 nw : Nat} {mv sv sval rv rv' gv gv' wv : Value} {ms : List Nat} {ss ra rd ra' rd' : List Shp} {b : Bx} {done done' : List Cl} {G G' : Nat → Nat} {I J : WVals} {watch : List Int}

/-- A variable more that a watcher keeps. -/
theorem WS.who (h : @WS ⟨I⟩ wB X mv ms ss X2 sv b nw sval ra rd done wr G rv gv) : @WS ⟨I⟩ wB X mv ms ss X2 sv (b.more nw wr.heap.size) (nw + 1) sval ra rd done (wr.alloc (.cells #[.int .i64 (nw : Int)] 3)) G rv gv := by
  letI : Inhabited WVals := ⟨I⟩
  have h1 := h.up (up_alloc wr (.cells #[.int .i64 (nw : Int)] 3))
  refine ⟨h1.both, ⟨h1.box.g, h1.box.l, h1.box.n, h1.box.m, h1.box.s, fun j hj => ?_⟩, ⟨h1.zero.g, h1.zero.l, h1.zero.n, h1.zero.m, h1.zero.s, fun j hj => ?_⟩, h1.own, h1.gz, h1.gge, h1.lge⟩
  · by_cases e : j = nw
    · subst e
      have e2 : (b.more j wr.heap.size).who j = wr.heap.size := if_pos rfl
      rw [e2]; exact heap_alloc_new _ _
    · have e2 : (b.more nw wr.heap.size).who j = b.who j := if_neg e
      rw [e2]; exact h1.box.who j (by omega)
  · by_cases e : j = nw
    · have e2 : (b.more nw wr.heap.size).who j = wr.heap.size := if_pos e
      rw [e2]; exact h.both.net.zero _ (Nat.le_refl _)
    · have e2 : (b.more nw wr.heap.size).who j = b.who j := if_neg e
      rw [e2]; exact h1.zero.who j (by omega)
/-- A watcher more. -/
theorem WS.watched (h : @WS ⟨I⟩ wB X mv ms ss X2 sv b nw sval ra rd done wr G rv gv) (hn : @MNet ⟨J⟩ w1 G' X mv ms ss (lsOf ss ra) ra.length) (ht : ∀ k, k < wr.heap.size → G' k = G k) (hT : NTurned G wr w1) : @WS ⟨J⟩ wB X mv ms ss X2 sv b nw sval ra rd done w1 G' rv gv := by
  have hk : ∀ k, k < wr.heap.size → G k = 0 → w1.heap[k]? = wr.heap[k]? := hT.block
  have hz : ∀ k, k < wB.heap.size → G k = 0 := by letI : Inhabited WVals := ⟨I⟩; exact h.both.zero
  have hl2 : X2 < wB.heap.size := by letI : Inhabited WVals := ⟨I⟩; exact h.both.lt2
  have hb := by letI : Inhabited WVals := ⟨I⟩; exact h.both.box
  have hr := by letI : Inhabited WVals := ⟨I⟩; exact h.both.rows
  have he : Exc X2 wB wr := by letI : Inhabited WVals := ⟨I⟩; exact h.both.exc
  have hx : Boxes b nw X X2 sval gv wr := by letI : Inhabited WVals := ⟨I⟩; exact h.box
  have hzz : BoxZ b nw G := by letI : Inhabited WVals := ⟨I⟩; exact h.zero
  have ho : OwnCls wr wB.heap.size gv done := by letI : Inhabited WVals := ⟨I⟩; exact h.own
  have hgz : ∀ k, gv.ownBlock = some k → G k = 0 := by letI : Inhabited WVals := ⟨I⟩; exact h.gz
  have g1 : wB.heap.size ≤ b.g := by letI : Inhabited WVals := ⟨I⟩; exact h.gge
  have g2 : wB.heap.size ≤ b.l := by letI : Inhabited WVals := ⟨I⟩; exact h.lge
  have hs := he.size
  letI : Inhabited WVals := ⟨J⟩
  refine ⟨⟨hn, fun k hk2 => (ht k (by omega)).trans (hz k hk2), hl2, (hk X2 (by omega) (hz X2 hl2)).trans hb, hr.keep (fun k hk1 hk2 _ => ⟨hk k hk1 hk2, (ht k hk1).trans hk2⟩), he.trans hT.size hT.os hT.tape hT.output (fun k hk2 _ => hk k (by omega) (hz k hk2))⟩,
    hx.keep (fun k cs t h1 h2 _ _ => hk k (lt_of_block h1) (hzz.of h2)), hzz.keep hx ht, row_keep ho (fun k hk2 => hk k (World.ownsRow.lt ho k hk2).2 (hgz k hk2)), fun k hk2 => (ht k (World.ownsRow.lt ho k hk2).2).trans (hgz k hk2), g1, g2⟩
/-- Who watches what, behind the first i of the watchers. -/
def FsTo (I : WVals) (b : Bx) (watch : List Int) (n i : Nat) : Prop := ∀ m, m < n → I.fs m = (whosTo watch (m : Int) i).map (clos b)
theorem FsTo.start (b : Bx) (watch : List Int) (n : Nat) : FsTo WNil b watch n 0 := fun _ _ => rfl
theorem FsTo.len {n i m : Nat} (h : FsTo I b watch n i) (hm : m < n) : (I.fs m).length ≤ i := by rw [h m hm, List.length_map]; exact whosTo_len _ _ _
theorem map_more {m : Int} {i k : Nat} : (whosTo watch m i).map (clos (b.more i k)) = (whosTo watch m i).map (clos b) :=
  List.map_congr_left (fun _ hj => clos_more b (whosTo_lt hj))
theorem FsTo.no {n i k : Nat} (h : FsTo I b watch n i) (hx : ∀ m, m < n → at' watch i ≠ (m : Int)) : FsTo I (b.more i k) watch n (i + 1) := fun m hm => by
  rw [whosTo_no (hx m hm), map_more]; exact h m hm
theorem FsTo.yes {n i k m : Nat} {v' : Value} (h : FsTo I b watch n i) (hx : at' watch i = (m : Int)) : FsTo (upd I m v' (clos (b.more i k) i)) (b.more i k) watch n (i + 1) := fun q hq => by
  by_cases e : q = m
  · subst e
    have e1 : (upd I q v' (clos (b.more i k) i)).fs q = I.fs q ++ [clos (b.more i k) i] := if_pos rfl
    rw [e1, whosTo_yes hx, List.map_append, map_more, h q hq]; rfl
  · have e1 : (upd I m v' (clos (b.more i k) i)).fs q = I.fs q := if_neg e
    rw [e1, whosTo_no (fun e2 => by rw [hx] at e2; omega), map_more]; exact h q hq
end

section
variable [Inhabited WVals]
variable {wB wr w1 : World} {X X2 nw : Nat} {mv sv sval rv rv' gv gv' wv wv' : Value} {ms : List Nat} {ss ra rd ra' rd' : List Shp} {b : Bx} {done l l' : List Cl} {G G' : Nat → Nat}

/-- The list of the calls that are to come has grown. -/
theorem WS.want (h : WS wB X mv ms ss X2 sv b nw sval ra rd done wr G rv gv) (how : OwnCls wr wB.heap.size wv l) (hwz : ∀ k, wv.ownBlock = some k → G k = 0 ∧ gv.ownBlock ≠ some k) (hg : GrwC wB.heap.size wv wr l' wv' w1) :
    WS wB X mv ms ss X2 sv b nw sval ra rd done w1 G rv gv ∧ ∀ k, wv'.ownBlock = some k → G k = 0 ∧ gv.ownBlock ≠ some k := by
  have hne : ∀ {k : Nat} {cs : Array Value} {t : TypeId}, wr.heap[k]? = some (.cells cs t (0, 0)) → t ≠ 72 → w1.heap[k]? = wr.heap[k]? := fun h1 h2 => hg.block _ (lt_of_block h1) (not_own how h1 h2)
  refine ⟨⟨h.both.other (fun k => wv.ownBlock = some k) hg.size hg.os hg.tape hg.output (fun k hk hS => hg.block k hk hS) (fun k hS => (hwz k hS).1) (fun k hS => (World.ownsRow.lt how k hS).1) (fun k hS => ?_), ⟨(hne h.box.g (by decide)).trans h.box.g, (hne h.box.l (by decide)).trans h.box.l, (hne h.box.n (by decide)).trans h.box.n, (hne h.box.m (by decide)).trans h.box.m, (hne h.box.s (by decide)).trans h.box.s, fun j hj => (hne (h.box.who j hj) (by decide)).trans (h.box.who j hj)⟩, h.zero, row_keep h.own (fun k hk => hg.block k (World.ownsRow.lt h.own k hk).2 (fun e => (hwz k e).2 hk)), h.gz, h.gge, h.lge⟩, fun k hk => ?_⟩
  · obtain ⟨cs, hc⟩ := row_block how hS
    exact ⟨cs, 72, hc, by decide, by decide⟩
  · rcases hg.at' k hk with h1 | h1
    · exact hwz k h1
    · exact ⟨h.both.net.zero k h1, fun e => by have := (World.ownsRow.lt h.own k e).2; omega⟩
/-- .. and lies as it lay where the nets alone have turned. -/
theorem WS.keepW (h : WS wB X mv ms ss X2 sv b nw sval ra rd done wr G rv gv) (how : OwnCls wr wB.heap.size wv l) (hwz : ∀ k, wv.ownBlock = some k → G k = 0 ∧ gv.ownBlock ≠ some k) (hb : ∀ k, k < wr.heap.size → G k = 0 → k ≠ X2 → rv.ownBlock ≠ some k → w1.heap[k]? = wr.heap[k]?) : OwnCls w1 wB.heap.size wv l := by
  obtain ⟨vs, hvl, ho, _⟩ := h.both.rows
  refine row_keep how (fun k hk => ?_)
  obtain ⟨cs, hc⟩ := row_block how hk
  exact hb k (World.ownsRow.lt how k hk).2 (hwz k hk).1 (fun e => by rw [e, h.both.box] at hc; simp at hc) (not_own ho hc (by decide))
theorem WS.addW (h : WS wB X mv ms ss X2 sv b nw sval ra rd done wr G rv gv) (how : OwnCls wr wB.heap.size wv l) (hwz : ∀ k, wv.ownBlock = some k → G k = 0 ∧ gv.ownBlock ≠ some k) (hA : AWk b gv G wr w1 gv') (hG : ∀ k, k < wr.heap.size → G' k = G k) : OwnCls w1 wB.heap.size wv l ∧ ∀ k, wv.ownBlock = some k → G' k = 0 ∧ gv'.ownBlock ≠ some k := by
  refine ⟨row_keep how (fun k hk => ?_), fun k hk => ?_⟩
  · obtain ⟨cs, hc⟩ := row_block how hk
    exact hA.block k (World.ownsRow.lt how k hk).2 (by rw [(hwz k hk).1]; decide) (fun e => by rw [e, h.box.g] at hc; simp at hc) (fun e => by rw [e, h.box.l] at hc; simp at hc) (hwz k hk).2
  · have hlt := (World.ownsRow.lt how k hk).2
    refine ⟨(hG k hlt).trans (hwz k hk).1, fun e => ?_⟩
    rcases hA.at' k e with h1 | h1
    · exact (hwz k hk).2 h1
    · omega
end

end Go.Proofs.Ytlandkindbmbfaa.Wa
