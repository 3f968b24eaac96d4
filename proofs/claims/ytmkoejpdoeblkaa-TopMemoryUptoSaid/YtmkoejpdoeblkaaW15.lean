/-
  The walk of holdsList: the store tells of a row just what the plain list does. Conditions: sizes within the form's own reach.
-/
import Derived.Test.YtmkoejpdoeblkaaW14
namespace Go.Proofs.Ytmkoejpdoeblkaa
open Go.RowKit Pl

/-- Has the row at a place (as an int) that id there? -/
def hasAt (l : List Rw) (i : Nat) (d : Int) (x : Int) : Bool := match l[x.toNat]? with | some r => decide (r.2[i]? = some d) | none => false
theorem hasAt_nat {l : List Rw} {i q : Nat} {d : Int} {r : Rw} (h : l[q]? = some r) : hasAt l i d (q : Int) = decide (r.2[i]? = some d) := by
  unfold hasAt
  rw [Int.toNat_natCast, h]
theorem pick_has (l : List Rw) (p : Int) (i : Nat) (d : Int) : (pick (ofQ p) l).filter (hasAt l i d) = pick (whQ (p, i, d)) l := by
  refine pick_filter (fun j r hj hq => ?_) (fun r hr => ?_)
  · rw [hasAt_nat hj]
    simp only [ofQ, decide_eq_true_eq] at hq
    simp only [whQ, hq, true_and]
  · simp only [whQ, decide_eq_true_eq] at hr
    simp only [ofQ, decide_eq_true_eq]
    exact hr.1
theorem pick_take (q : Rw → Bool) {l : List Rw} {i : Nat} {r : Rw} (h : l[i]? = some r) : pick q (l.take (i + 1)) = pick q (l.take i) ++ if q r then [(i : Int)] else [] := by
  have hi := (List.getElem?_eq_some_iff.1 h).1
  rw [List.take_add_one, h]
  show pick q (l.take i ++ [r]) = _
  rw [pick_snoc, List.length_take, Nat.min_eq_left (by omega)]
theorem filter_take {L : List Int} {f : Int → Bool} {j : Nat} {x : Int} (h : L[j]? = some x) : (L.take (j + 1)).filter f = (L.take j).filter f ++ if f x then [x] else [] := by
  rw [List.take_add_one, h]
  show (L.take j ++ [x]).filter f = _
  rw [List.filter_append]
  congr 1
  by_cases hf : f x = true <;> simp [hf]

set_option maxRecDepth 100000 in
set_option maxHeartbeats 6400000 in
theorem holds_any {G : Nat → Rl} {X : Nat} {A : List Int} {l : List Rw} {fs : List Value} {V : SV} (w : World) (h : StoreAt G X A l fs V w) (hN : V.N ≤ 2097152) (v : Value) (hv : RowsIn w All v l) (r : Rw) (y : Value) (hy : RowIn w All y r) (hr : okRow r) :
    Calls Try.prog 15 #[.pointer (some ⟨X, 0, none⟩), v, y] w (BoolIs w true) := by
  obtain ⟨i3, qi, q0, q1, q2⟩ := info_parts Try.info3
  have hln := h.len
  have hll : l.length ≤ 2097152 := Nat.le_trans hln hN
  obtain ⟨a, ca, rfl, hfa⟩ := hv.form
  obtain ⟨u, rfl, hu⟩ := hy
  obtain ⟨p, sl⟩ := r
  simp only at hu
  obtain ⟨ua, uc, rfl, hua⟩ := hu.form
  have hrl : ∀ s ∈ l, s.2.length ≤ 1048576 := fun s hs => (h.fits s hs).2.2.2
  obtain ⟨c5, hc5⟩ : ∃ c5, c5 = w.heap.size := ⟨_, rfl⟩
  obtain ⟨w1, hw1⟩ : ∃ w1, w1 = w.alloc (.cells #[.int .i64 p, .slice ua sl.length uc] 34) := ⟨_, rfl⟩
  have hb1 : Below w.heap.size w w1 := by rw [hw1]; exact up_alloc _ _
  have hz1 : w1.heap.size = c5 + 1 := by rw [hw1, hc5]; simp
  have e5 : w1.heap[c5]? = some (.cells #[.int .i64 p, .slice ua sl.length uc] 34) := by rw [hw1, hc5]; exact heap_alloc_new _ _
  have HS := Lib.hid (h.up hb1)
  have HX := Lib.hid (hv.below hb1)
  have HFA := Lib.hid hfa
  have HU := Lib.hid (hu.below hb1)
  have HUA := Lib.hid hua
  have HR := Lib.hid hr
  have HRL := Lib.hid hrl
  have HB1 := Lib.hid hb1
  have HE5 := Lib.hid e5
  have HW1 := Lib.hid hw1
  have HC5 := Lib.hid hc5
  -- what stands in every world behind
  have HKEEP : Hid (∀ x, Below w1.heap.size w1 x → x.cell? ⟨c5, 0, none⟩ = some (.int .i64 p) ∧ x.cell? ⟨c5, 1, none⟩ = some (.slice ua sl.length uc) ∧ StoreAt G X A l fs V x ∧ RowsIn x All (.slice a l.length ca) l ∧ IntsIn x All (.slice ua sl.length uc) sl) := Lib.hid (fun x hx => by
    have e := (hx.block c5 (by omega)).trans e5
    obtain ⟨h1, h2, _, _⟩ := row2 e
    exact ⟨h1, h2, HS.out.up hx, HX.out.below hx, HU.out.below hx⟩)
  have hsl := hr.2.2
  simp only at hsl
  clear h hv hfa hu hua hr hrl hb1 e5 hw1 hc5
  obtain ⟨N, hNN⟩ : ∃ N, N = rowNo l (p, sl) := ⟨_, rfl⟩
  go_enter Try.func15, Try.ntmps15
  go_upto_region 1 with fail
  rw [← HC5.out, ← HW1.out]
  obtain ⟨x0, x1, _, kx, kr⟩ := HKEEP.out w1 (Below.refl _ _)
  go_wp2_with fail
  refine (rowAt_any l (p, sl) _ _ w1 kx ⟨_, rfl, kr⟩ (by omega) HRL.out hsl).mono ?_
  rintro e w2 ⟨rfl, hb2⟩
  rw [← hNN]
  obtain ⟨y0, y1, ks, kx, kr⟩ := HKEEP.out w2 hb2
  have KS := Lib.hid ks
  have HB2 := Lib.hid hb2
  clear x0 x1 kx kr ks hb2
  go_wp2_with fail
  refine (len_any w2 KS.out).mono ?_
  rintro e w' ⟨rfl, rfl⟩
  have hne : ((l.length : Int) != (l.length : Int)) = false := by simp
  go_wp2_with fail
  refine (ownRow_any (p, sl) _ w2 ⟨_, rfl, (HKEEP.out w2 HB2.out).2.2.2.2⟩ hsl).mono ?_
  rintro e w3 ⟨u3, rfl, ho3, hb3⟩
  obtain ⟨a3, n3, c3, rfl⟩ := ho3.form
  have HB3 := Lib.hid (HB2.out.trans (hb3.mono HB2.out.size))
  have HO3 := Lib.hid (OwnInts.in (D := All) ho3 (fun _ _ => trivial))
  clear hb3 ho3 y0 y1
  obtain ⟨y0, y1, ks, kx, kr⟩ := HKEEP.out w3 HB3.out
  have KS := Lib.hid ks
  clear kx kr ks
  go_wp2_with fail
  refine (num_any w3 KS.out (p, sl) _ ⟨_, rfl, HO3.out⟩ HR.out).mono ?_
  rintro e w4 ⟨rfl, hb4⟩
  rw [← hNN]
  have HB4 := Lib.hid (HB3.out.trans (hb4.mono HB3.out.size))
  clear hb4 y0 y1
  obtain ⟨y0, y1, ks, kx, kr⟩ := HKEEP.out w4 HB4.out
  have hnn : (N != N) = false := by simp
  have KR := Lib.hid kr
  clear kx kr ks
  go_wp2_with fail
  refine (ownRow_any (p, sl) _ w4 ⟨_, rfl, KR.out⟩ hsl).mono ?_
  rintro e w5 ⟨u5, rfl, ho5, hb5⟩
  obtain ⟨a5, n5, c5', rfl⟩ := ho5.form
  have HB5 := Lib.hid (HB4.out.trans (hb5.mono HB4.out.size))
  have HO5 := Lib.hid (OwnInts.in (D := All) ho5 (fun _ _ => trivial))
  clear hb5 ho5 y0 y1
  obtain ⟨y0, y1, ks, kx, kr⟩ := HKEEP.out w5 HB5.out
  have KS := Lib.hid ks
  clear kx kr ks
  go_wp2_with fail
  refine (has_any w5 KS.out (p, sl) _ ⟨_, rfl, HO5.out⟩ HR.out).mono ?_
  rintro e w6 ⟨rfl, hb6⟩
  rw [← hNN]
  have HB6 := Lib.hid (HB5.out.trans (hb6.mono HB5.out.size))
  obtain ⟨bN, hbN⟩ : ∃ bN, bN = decide (0 ≤ N) := ⟨_, rfl⟩
  rw [← hbN]
  have hbN2 : decide (N ≥ 0) = bN := hbN.symm
  have hbb : (bN != bN) = false := by simp
  have HNN := Lib.hid hNN
  clear hb6 y0 y1 hNN hbN
  go_wp2
  -- the places of the predicate
  go_loopw [46, 8] (fun k x wr => ∃ (i : Nat) (o : Value), k = .int .i64 (i : Int) ∧ o = x ∧ i ≤ l.length ∧ Hid (Below w1.heap.size w1 wr) ∧ Hid (OwnInts wr w1.heap.size o (pick (ofQ p) (l.take i)))) (fun k _ _ => l.length - (intOf k).toNat)
  case atStart => exact ⟨0, _, rfl, rfl, Nat.zero_le _, HB6, Lib.hid (OwnInts.nil _ _)⟩
  case round =>
    obtain ⟨i, o, rfl, rfl, hil, HBi, HOi⟩ := hrel
    by_cases h1 : i < l.length
    · obtain ⟨g, off, rfl⟩ := HFA.out (fun e => by rw [e] at h1; simp at h1)
      obtain ⟨s, hsi⟩ : ∃ s, l[i]? = some s := ⟨l[i], List.getElem?_eq_getElem h1⟩
      obtain ⟨y0, y1, ks, kx, kr⟩ := HKEEP.out wr HBi.out
      obtain ⟨us, d0, d1, hus⟩ := kx.at hsi
      obtain ⟨sp, ss⟩ := s
      simp only at d0 d1 hus
      have HSI := Lib.hid hsi
      have hss : ss.length ≤ 1048576 := HRL.out (sp, ss) (List.mem_of_getElem? hsi)
      clear ks kx kr hus hsi
      by_cases he : sp = p
      · have heq : (sp == p) = true := by simpa using he
        have HP : Hid (pick (ofQ p) (l.take (i + 1)) = pick (ofQ p) (l.take i) ++ [(i : Int)]) := Lib.hid (by rw [pick_take _ HSI.out]; simp [ofQ, he])
        have hpl : (pick (ofQ p) (l.take i)).length ≤ 2097152 := Nat.le_trans (pick_len _ _) (by rw [List.length_take]; omega)
        obtain ⟨L, hL⟩ : ∃ L, L = pick (ofQ p) (l.take i) := ⟨_, rfl⟩
        rw [← hL] at HOi hpl HP
        have HOi' : Hid (OwnInts wr w1.heap.size o L) := HOi
        clear HOi hL he
        go_wp2_with fail
        go_quiet (fail)
        generalize hW : wr.drewN _ = w7
        have HB7 := Lib.hid (show Below w1.heap.size w1 w7 by rw [← hW]; exact below_drewN HBi.out)
        have HO7 := Lib.hid (show OwnInts w7 w1.heap.size o L by rw [← hW]; exact HOi'.out)
        have hz7 := HB7.out.size
        clear hW y0 y1 d0 d1 HOi'
        go_wp2_with (at_builtin; refine wpList_append_own _ rfl _ _ 22 rfl w1.heap.size 3 i3 (.int .i64 0) 1 8 Try.underlying22 qi q0 q1 q2 rfl (by decide) o L.length (lits L) rfl (HO7.out.alloc (.cells #[.int .i64 (i : Int)] 3)) ⟨w7.heap.size, 0, none⟩ 1 1 [.int .i64 (i : Int)] rfl rfl (World.news_of_block (cs := #[.int .i64 (i : Int)]) (t := 3) (fr := (0, 0)) (heap_alloc_new w7 _)) (one_i64 _) (by unfold maxLen; omega) (by omega) (by simp; omega) ?_; intro o2 w8 hown' hgrow _)
        have HO8 : Hid (OwnInts w8 w1.heap.size o2 (pick (ofQ p) (l.take (i + 1)))) := Lib.hid (by rw [HP.out]; unfold OwnInts; rw [lits_snoc, List.length_append]; exact hown')
        have HB8 := Lib.hid ((HB7.out.alloc hz7 (.cells #[.int .i64 (i : Int)] 3)).grown hgrow (by simp; omega) (fun k hk => (HO7.out.lt k hk).1))
        clear hown' hgrow HO7 HB7 hz7
        obtain ⟨y0, y1, ks, kx, kr⟩ := HKEEP.out w8 HB8.out
        have KS := Lib.hid ks
        clear ks kx kr
        go_wp2_with fail
        refine (row_in w8 KS.out i (sp, ss) HSI.out (by omega)).mono ?_
        rintro e w9 ⟨u9, rfl, ho9, hb9⟩
        obtain ⟨a9, n9, c9, rfl⟩ := ho9.form
        go_upto_region 11 with fail
        obtain ⟨wa, hwa⟩ : ∃ wa, wa = w9.alloc (.cells #[.int .i64 sp, .slice a9 n9 c9] 34) := ⟨_, rfl⟩
        obtain ⟨c10, hc10⟩ : ∃ c10, c10 = w9.heap.size := ⟨_, rfl⟩
        rw [← hwa, ← hc10]
        have hba : Below w9.heap.size w9 wa := by rw [hwa]; exact up_alloc _ _
        have e10 : wa.heap[c10]? = some (.cells #[.int .i64 sp, .slice a9 n9 c9] 34) := by rw [hwa, hc10]; exact heap_alloc_new _ _
        obtain ⟨z0, z1, _, _⟩ := row2 e10
        have HBa := Lib.hid ((HB8.out.trans (hb9.mono HB8.out.size)).trans (hba.mono (Nat.le_trans HB8.out.size hb9.size)))
        have HOa := Lib.hid ((HO8.out.below hb9).below hba)
        have HI9 := Lib.hid ((OwnInts.in (D := All) ho9 (fun _ _ => trivial)).below hba)
        obtain ⟨_, _, ks, kx, kr⟩ := HKEEP.out wa HBa.out
        obtain ⟨us2, d0, d1, hus⟩ := kx.at HSI.out
        simp only at d0 d1 hus
        have HUS := Lib.hid hus
        clear hwa hc10 hba e10 ho9 hb9 ks kx kr hus y0 y1
        go_still_tail 8, (by kernel_rfl)
        change wpList _ _ _ _ _ wa.drew
        generalize hW : wa.drew = w11
        have HB11 := Lib.hid (show Below w1.heap.size w1 w11 by rw [← hW]; exact below_drewN (n := 1) HBa.out)
        have HO11 := Lib.hid (show OwnInts w11 w1.heap.size _ (pick (ofQ p) (l.take (i + 1))) by rw [← hW]; exact HOa.out)
        have HI11 := Lib.hid (HI9.out.heap (w' := w11) (by rw [← hW]; rfl))
        have HU11 := Lib.hid (HUS.out.heap (w' := w11) (by rw [← hW]; rfl))
        clear hW d0 d1 z0 z1
        go_wp2_with fail
        refine (sameRow_any (sp, ss) (sp, ss) _ _ _ ⟨_, rfl, HI11.out⟩ ⟨us2, rfl, HU11.out⟩ hss hss).mono ?_
        rintro e w12 ⟨rfl, hb12⟩
        have hdd : decide ((sp, ss) = (sp, ss)) = true := decide_eq_true rfl
        have HB12 := Lib.hid (HB11.out.trans (hb12.mono HB11.out.size))
        have HO12 := Lib.hid (HO11.out.below hb12)
        clear hb12
        go_wp2
        go_roundw
        case rel => exact ⟨i + 1, _, by go_num, rfl, by omega, HB12, HO12⟩
        case measure => simp only [intOf]; omega
      · have heq : (sp == p) = false := by simpa using he
        have HP : Hid (pick (ofQ p) (l.take (i + 1)) = pick (ofQ p) (l.take i)) := Lib.hid (by rw [pick_take _ HSI.out]; simp [ofQ, he])
        clear he
        go_wp2_with fail
        go_quiet (fail)
        generalize hW : wr.drewN _ = w8
        have HB8 := Lib.hid (show Below w1.heap.size w1 w8 by rw [← hW]; exact below_drewN HBi.out)
        have HO8 : Hid (OwnInts w8 w1.heap.size o (pick (ofQ p) (l.take (i + 1)))) := Lib.hid (by rw [HP.out, ← hW]; exact HOi.out)
        clear hW y0 y1 d0 d1
        obtain ⟨y0, y1, ks, kx, kr⟩ := HKEEP.out w8 HB8.out
        have KS := Lib.hid ks
        clear ks kx kr
        go_wp2_with fail
        refine (row_in w8 KS.out i (sp, ss) HSI.out (by omega)).mono ?_
        rintro e w9 ⟨u9, rfl, ho9, hb9⟩
        obtain ⟨a9, n9, c9, rfl⟩ := ho9.form
        go_upto_region 11 with fail
        obtain ⟨wa, hwa⟩ : ∃ wa, wa = w9.alloc (.cells #[.int .i64 sp, .slice a9 n9 c9] 34) := ⟨_, rfl⟩
        obtain ⟨c10, hc10⟩ : ∃ c10, c10 = w9.heap.size := ⟨_, rfl⟩
        rw [← hwa, ← hc10]
        have hba : Below w9.heap.size w9 wa := by rw [hwa]; exact up_alloc _ _
        have e10 : wa.heap[c10]? = some (.cells #[.int .i64 sp, .slice a9 n9 c9] 34) := by rw [hwa, hc10]; exact heap_alloc_new _ _
        obtain ⟨z0, z1, _, _⟩ := row2 e10
        have HBa := Lib.hid ((HB8.out.trans (hb9.mono HB8.out.size)).trans (hba.mono (Nat.le_trans HB8.out.size hb9.size)))
        have HOa := Lib.hid ((HO8.out.below hb9).below hba)
        have HI9 := Lib.hid ((OwnInts.in (D := All) ho9 (fun _ _ => trivial)).below hba)
        obtain ⟨_, _, ks, kx, kr⟩ := HKEEP.out wa HBa.out
        obtain ⟨us2, d0, d1, hus⟩ := kx.at HSI.out
        simp only at d0 d1 hus
        have HUS := Lib.hid hus
        clear hwa hc10 hba e10 ho9 hb9 ks kx kr hus y0 y1
        go_still_tail 8, (by kernel_rfl)
        change wpList _ _ _ _ _ wa.drew
        generalize hW : wa.drew = w11
        have HB11 := Lib.hid (show Below w1.heap.size w1 w11 by rw [← hW]; exact below_drewN (n := 1) HBa.out)
        have HO11 := Lib.hid (show OwnInts w11 w1.heap.size _ (pick (ofQ p) (l.take (i + 1))) by rw [← hW]; exact HOa.out)
        have HI11 := Lib.hid (HI9.out.heap (w' := w11) (by rw [← hW]; rfl))
        have HU11 := Lib.hid (HUS.out.heap (w' := w11) (by rw [← hW]; rfl))
        clear hW d0 d1 z0 z1
        go_wp2_with fail
        refine (sameRow_any (sp, ss) (sp, ss) _ _ _ ⟨_, rfl, HI11.out⟩ ⟨us2, rfl, HU11.out⟩ hss hss).mono ?_
        rintro e w12 ⟨rfl, hb12⟩
        have hdd : decide ((sp, ss) = (sp, ss)) = true := decide_eq_true rfl
        have HB12 := Lib.hid (HB11.out.trans (hb12.mono HB11.out.size))
        have HO12 := Lib.hid (HO11.out.below hb12)
        clear hb12
        go_wp2
        go_roundw
        case rel => exact ⟨i + 1, _, by go_num, rfl, by omega, HB12, HO12⟩
        case measure => simp only [intOf]; omega
    · have e : i = l.length := by omega
      subst e
      rw [List.take_length] at HOi
      obtain ⟨L, hL⟩ : ∃ L, L = pick (ofQ p) l := ⟨_, rfl⟩
      rw [← hL] at HOi
      have hLl : L.length ≤ 2097152 := by rw [hL]; exact Nat.le_trans (pick_len _ _) hll
      have HL := Lib.hid hL
      have HOi' : Hid (OwnInts wr w1.heap.size o L) := HOi
      obtain ⟨oa, oc, rfl, hoa⟩ := (OwnInts.in (D := All) HOi'.out (fun _ _ => trivial)).form
      have HOA := Lib.hid hoa
      obtain ⟨y0, y1, ks, kx, kr⟩ := HKEEP.out wr HBi.out
      have KS := Lib.hid ks
      have hp64 : I64 p := HR.out.1
      clear ks kx kr hL hoa HOi
      go_wp2_with fail
      refine (of_any wr KS.out p hp64 (by omega)).mono ?_
      rintro e w13 ⟨v13, rfl, ho13, hb13⟩
      have hb13' : Below w1.heap.size w1 w13 := HBi.out.trans (hb13.mono HBi.out.size)
      have hI13 := OwnInts.in (D := All) ho13 (fun _ _ => trivial)
      have hI2 := OwnInts.in (D := All) (HOi'.out.below hb13) (fun _ _ => trivial)
      rw [← HL.out] at hI13
      have H13 := Lib.hid (And.intro hI13 hI2)
      have HB13 := Lib.hid hb13'
      have HO13 := Lib.hid (HOi'.out.below hb13)
      clear ho13 hb13 hb13' hI13 hI2 y0 y1 HOi' HBi
      go_wp2_with fail
      refine (sameInts_any L L _ _ w13 H13.out.1 H13.out.2 (by omega) (by omega)).mono ?_
      rintro e w14 ⟨rfl, hb14⟩
      have hdL : decide (L = L) = true := decide_eq_true rfl
      have HB14 := Lib.hid (HB13.out.trans (hb14.mono HB13.out.size))
      have HO14 := Lib.hid (HO13.out.below hb14)
      clear hb14 H13 HB13 HO13
      obtain ⟨y0, y1, _, _, _⟩ := HKEEP.out w14 HB14.out
      go_wp2
      clear hdL y0 y1
      -- the places and ids
      go_loopw [89] (fun k wr => ∃ m : Nat, k = .int .i64 (m : Int) ∧ m ≤ sl.length ∧ Hid (Below w1.heap.size w1 wr) ∧ Hid (OwnInts wr w1.heap.size (.slice oa L.length oc) L)) (fun k _ => sl.length - (intOf k).toNat)
      case atStart => exact ⟨0, rfl, Nat.zero_le _, HB14, HO14⟩
      case round =>
        obtain ⟨m, rfl, hml, HBx, HOx⟩ := hrel
        clear HB14 HO14
        by_cases h2 : m < sl.length
        · obtain ⟨gu, offu, rfl⟩ := HUA.out (fun e => by rw [e] at h2; simp at h2)
          generalize wr = wx at *
          obtain ⟨y0, y1, ks, kx, kr⟩ := HKEEP.out wx HBx.out
          obtain ⟨d, hd⟩ : ∃ d, d = at' sl m := ⟨_, rfl⟩
          have z0 : wx.cell? ⟨gu, offu + m, none⟩ = some (.int .i64 d) := by rw [hd]; exact kr.at h2
          have hdi : I64 d := by rw [hd]; exact HR.out.2.1 m
          have HDI := Lib.hid hdi
          obtain ⟨B2, hB2⟩ : ∃ B2, B2 = wx.heap.size := ⟨_, rfl⟩
          have HB2' := Lib.hid hB2
          clear ks kx kr hd hdi hB2
          go_wp2
          clear y0 y1 z0
          go_loopw [96, 14] (fun k x wr => ∃ (j : Nat) (t : Value), k = .int .i64 (j : Int) ∧ t = x ∧ j ≤ L.length ∧ Hid (Below B2 wx wr) ∧ Hid (OwnInts wr B2 t ((L.take j).filter (hasAt l m d)))) (fun k _ _ => L.length - (intOf k).toNat)
          case atStart => exact ⟨0, _, rfl, rfl, Nat.zero_le _, Lib.hid (Below.refl _ _), Lib.hid (OwnInts.nil _ _)⟩
          case round =>
            obtain ⟨j, t, rfl, rfl, hjl, HBj, HOj⟩ := hrel
            have HBJ := Lib.hid (show Below w1.heap.size w1 wr from HBx.out.trans (HBj.out.mono (by have := HB2'.out; have := HBx.out.size; omega)))
            have HOJ := Lib.hid (show OwnInts wr w1.heap.size (.slice oa L.length oc) L from HOx.out.below (by rw [← HB2'.out]; exact HBj.out))
            by_cases h3 : j < L.length
            · obtain ⟨go, offo, rfl⟩ := HOA.out (fun e => by rw [e] at h3; simp at h3)
              obtain ⟨xq, hxq⟩ : ∃ xq, xq = at' L j := ⟨_, rfl⟩
              have hmem : xq ∈ pick (ofQ p) l := by rw [← HL.out, hxq, at_eq h3]; exact List.getElem_mem h3
              have hbd := pick_bound hmem
              obtain ⟨q, rfl⟩ : ∃ q : Nat, xq = (q : Int) := ⟨xq.toNat, by omega⟩
              have hql : q < l.length := by omega
              have hLj : L[j]? = some (q : Int) := by rw [at_some h3, ← hxq]
              have z1 : wr.cell? ⟨go, offo + j, none⟩ = some (.int .i64 (q : Int)) := by
                rw [hxq]
                exact (OwnInts.in (D := All) HOJ.out (fun _ _ => trivial)).at h3
              obtain ⟨sq, hsq⟩ : ∃ sq, l[q]? = some sq := ⟨l[q], List.getElem?_eq_getElem hql⟩
              obtain ⟨_, _, ks, kx, kr⟩ := HKEEP.out wr HBJ.out
              obtain ⟨g, off, rfl⟩ := HFA.out (fun e => by rw [e] at hql; simp at hql)
              obtain ⟨uq, _, d1, huq⟩ := kx.at hsq
              obtain ⟨qa, qc, rfl, hqa⟩ := huq.form
              obtain ⟨sqp, sqs⟩ := sq
              simp only at d1 huq hqa
              have hT : hasAt l m d (q : Int) = decide (sqs[m]? = some d) := hasAt_nat hsq
              have hft := filter_take (f := hasAt l m d) hLj
              rw [hT] at hft
              have HFT := Lib.hid hft
              clear hxq hmem hbd hLj ks kx kr hsq hT hft
              by_cases h4 : m < sqs.length
              · obtain ⟨gq, offq, rfl⟩ := hqa (fun e => by rw [e] at h4; simp at h4)
                obtain ⟨dq, hdq⟩ : ∃ dq, dq = at' sqs m := ⟨_, rfl⟩
                have d2 : wr.cell? ⟨gq, offq + m, none⟩ = some (.int .i64 dq) := by rw [hdq]; exact huq.at h4
                have hsm : sqs[m]? = some dq := by rw [hdq]; exact at_some h4
                rw [hsm] at HFT
                clear huq hdq hsm hqa
                by_cases h5 : dq = d
                · have h5' : (dq == d) = true := by simpa using h5
                  obtain ⟨F, hF⟩ : ∃ F, F = (L.take j).filter (hasAt l m d) := ⟨_, rfl⟩
                  rw [← hF] at HOj HFT
                  have hFl : F.length ≤ 2097152 := by rw [hF]; exact Nat.le_trans (List.length_filter_le _ _) (by rw [List.length_take]; omega)
                  have HOj' : Hid (OwnInts wr B2 t F) := HOj
                  have HFE : Hid ((L.take (j + 1)).filter (hasAt l m d) = F ++ [(q : Int)]) := Lib.hid (by rw [HFT.out, if_pos (by rw [h5]; simp)])
                  have hz9 : B2 ≤ wr.heap.size := by have := HB2'.out; have := HBj.out.size; omega
                  clear hF HOj HFT h5
                  go_wp2_with (at_builtin; refine wpList_append_own _ rfl _ _ 22 rfl B2 3 i3 (.int .i64 0) 1 8 Try.underlying22 qi q0 q1 q2 rfl (by decide) t F.length (lits F) rfl (HOj'.out.alloc (.cells #[.int .i64 (q : Int)] 3)) ⟨wr.heap.size, 0, none⟩ 1 1 [.int .i64 (q : Int)] rfl rfl (World.news_of_block (cs := #[.int .i64 (q : Int)]) (t := 3) (fr := (0, 0)) (heap_alloc_new wr _)) (one_i64 _) (by unfold maxLen; omega) (by omega) (by simp; omega) ?_; intro t2 w8 hown' hgrow _)
                  have HO8 : Hid (OwnInts w8 B2 t2 ((L.take (j + 1)).filter (hasAt l m d))) := Lib.hid (by rw [HFE.out]; unfold OwnInts; rw [lits_snoc, List.length_append]; exact hown')
                  have HB8 := Lib.hid ((HBj.out.alloc hz9 (.cells #[.int .i64 (q : Int)] 3)).grown hgrow (by simp; omega) (fun k hk => (HOj'.out.lt k hk).1))
                  clear hown' hgrow
                  go_roundw
                  case rel => exact ⟨j + 1, _, by go_num, rfl, by omega, HB8, HO8⟩
                  case measure => simp only [intOf]; omega
                · have h5' : (dq == d) = false := by simpa using h5
                  have HFE : Hid ((L.take (j + 1)).filter (hasAt l m d) = (L.take j).filter (hasAt l m d)) := Lib.hid (by rw [HFT.out, if_neg (by simpa using h5), List.append_nil])
                  clear HFT h5
                  go_wp2
                  go_roundw
                  case rel => exact ⟨j + 1, _, by go_num, rfl, by omega, HBj, by rw [HFE.out]; exact HOj⟩
                  case measure => simp only [intOf]; omega
              · have HFE : Hid ((L.take (j + 1)).filter (hasAt l m d) = (L.take j).filter (hasAt l m d)) := Lib.hid (by rw [HFT.out, if_neg (by rw [List.getElem?_eq_none (by omega)]; simp), List.append_nil])
                clear HFT huq hqa
                go_wp2
                go_roundw
                case rel => exact ⟨j + 1, _, by go_num, rfl, by omega, HBj, by rw [HFE.out]; exact HOj⟩
                case measure => simp only [intOf]; omega
            · have e : j = L.length := by omega
              subst e
              rw [List.take_length] at HOj
              have HFE : Hid (L.filter (hasAt l m d) = pick (whQ (p, m, d)) l) := Lib.hid (by rw [HL.out]; exact pick_has l p m d)
              rw [HFE.out] at HOj
              obtain ⟨F, hF⟩ : ∃ F, F = pick (whQ (p, m, d)) l := ⟨_, rfl⟩
              rw [← hF] at HOj
              have HF := Lib.hid hF
              have HOj' : Hid (OwnInts wr B2 t F) := HOj
              have hFl : F.length ≤ 2097152 := by rw [hF]; exact Nat.le_trans (pick_len _ _) hll
              clear hF HOj
              by_cases h6 : 0 ≤ d
              · have h6' : decide (d ≥ 0) = true := decide_eq_true h6
                obtain ⟨y0, _, ks, _, _⟩ := HKEEP.out wr HBJ.out
                have KSj := Lib.hid ks
                have hgood : whF.good (p, m, d) := ⟨hp64, by simp; omega, HDI.out⟩
                clear ks h6
                go_wp2_with fail
                refine (where_any wr KSj.out p m d hgood (by omega)).mono ?_
                rintro e w13 ⟨v13, rfl, ho13, hb13⟩
                have hI13 := OwnInts.in (D := All) ho13 (fun _ _ => trivial)
                have hI2 := OwnInts.in (D := All) (HOj'.out.below hb13) (fun _ _ => trivial)
                rw [← HF.out] at hI13
                have H13 := Lib.hid (And.intro hI13 hI2)
                have HB13 := Lib.hid (HBJ.out.trans (hb13.mono HBJ.out.size))
                have HO13 := Lib.hid (HOJ.out.below hb13)
                clear ho13 hb13 hI13 hI2 y0
                go_wp2_with fail
                refine (sameInts_any F F _ _ w13 H13.out.1 H13.out.2 (by omega) (by omega)).mono ?_
                rintro e w14 ⟨rfl, hb14⟩
                have hdF : decide (F = F) = true := decide_eq_true rfl
                have HB14 := Lib.hid (HB13.out.trans (hb14.mono HB13.out.size))
                have HO14 := Lib.hid (HO13.out.below hb14)
                clear hb14 H13 HB13 HO13
                go_wp2
                go_roundw
                case rel => exact ⟨m + 1, by go_num, by omega, HB14, HO14⟩
                case measure => simp only [intOf]; omega
              · have h6' : decide (d ≥ 0) = false := decide_eq_false h6
                clear h6
                go_wp2
                go_roundw
                case rel => exact ⟨m + 1, by go_num, by omega, HBJ, HOJ⟩
                case measure => simp only [intOf]; omega
        · have e : m = sl.length := by omega
          subst e
          obtain ⟨_, _, ks, _, _⟩ := HKEEP.out wr HBx.out
          have KSj := Lib.hid ks
          clear ks
          go_wp2_with fail
          refine (row_out wr KSj.out).mono ?_
          rintro e w20 ⟨rfl, hb20⟩
          have HB20 := Lib.hid (HBx.out.trans (hb20.mono HBx.out.size))
          clear hb20
          go_wp2
          go_ret
          refine ⟨rfl, ?_⟩
          exact ((HB1.out.trans (HB20.out.mono (by have := HC5.out; omega)))).alloc (by have := HB20.out.size; have := HC5.out; omega) _
end Go.Proofs.Ytmkoejpdoeblkaa
