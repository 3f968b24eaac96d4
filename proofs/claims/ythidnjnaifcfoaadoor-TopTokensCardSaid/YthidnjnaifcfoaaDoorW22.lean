/-
  The walk of edicttop.cut, at the tokens of the text. Conditions: the text is at most 65536 bytes long; the tokens lie in memory; the variables hold what the program's text lays.
-/
import Derived.Test.YthidnjnaifcfoaaDoorW21
import Derived.StillTailTactics
namespace Go.Proofs.YthidnjnaifcfoaaDoor
open Go.RowKit Go.Shelf Pl

theorem tok_facts {s : ByteArray} {p : Nat} {t : Tk} {ts' : List Tk} {f : Nat × Nat} (h : Sc (L s) p (t :: ts') f) :
    ∃ r, gap .out ((L s).drop p) = .inl r ∧ t.off = s.size - r.length ∧
      ((t = ⟨0, [], 0, 0, s.size, s.size⟩ ∧ ts' = [] ∧ f = (0, 0) ∧ r = []) ∨
       (t.kind ≠ 0 ∧ t.off < t.fin ∧ t.fin ≤ s.size ∧ TokOk (L (s.extract t.off t.fin)) t.kind t.op t.text t.int ∧ Munch t.kind t.op ((L s).drop t.fin) ∧ Sc (L s) t.fin ts' f)) := by
  cases h with
  | fin p h1 => exact ⟨[], h1, by simp only [L_len, List.length_nil, Nat.sub_zero], .inl ⟨by rw [L_len], rfl, rfl, rfl⟩⟩
  | tok p r rest text kind op int ts f h1 h2 h3 =>
    refine ⟨r, h1, by simp only [L_len], .inr ?_⟩
    obtain ⟨w, g1, g2, g3, g4⟩ := next_tok h2
    obtain ⟨k1, k2⟩ := gap_place h1
    obtain ⟨k3, k4⟩ := tok_kind h2
    rw [L_len] at k1 k2
    have hrl : r.length = w.length + rest.length := by rw [g1, List.length_append]
    have hd : (L s).drop (s.size - rest.length) = rest := by
      have := drop_rest (l := L s) (p := s.size - r.length) (w := w) (rest := rest) (by rw [k1, g1])
      rw [L_len] at this; exact this
    have hrs : r.length ≤ s.size := by omega
    refine ⟨k3, ?_, ?_, ?_, ?_, h3⟩
    · simp only [L_len]; omega
    · simp only [L_len]; omega
    · simp only [L_len]
      have : L (s.extract (s.size - r.length) (s.size - rest.length)) = w := by
        rw [cut_drop, k1, show s.size - rest.length - (s.size - r.length) = w.length by omega, g1, List.take_left]
      rw [this]; exact g3
    · simp only [L_len, hd]; exact g4
theorem tok_text (t : Tk) : L ⟨t.text.toArray⟩ = t.text := by simp [L]
theorem flatT_at : ∀ (ts : List Tk) (i : Nat) (hi : i < ts.length) (j : Nat) (hj : j < 6), (flatT ts)[i * 6 + j]? = (tkV ts[i])[j]?
  | t :: ts, 0, hi, j, hj => by
    simp only [flatT, List.flatMap_cons, Nat.zero_mul, Nat.zero_add, List.getElem_cons_zero]
    rw [List.getElem?_append_left (by simp [tkV]; omega)]
  | t :: ts, i + 1, hi, j, hj => by
    simp only [flatT, List.flatMap_cons, List.getElem_cons_succ]
    rw [List.getElem?_append_right (by simp [tkV]; omega)]
    have h := flatT_at ts i (by simpa using hi) j hj
    unfold flatT at h
    rw [← h]
    congr 1
    simp [tkV]; omega
/-- Tokens that lie in memory, by place. -/
theorem tok_cells {w : World} {base cap g : Nat} {ts : List Tk} (h : w.ownsRow base 32 6 (.slice (some ⟨g, 0, none⟩) ts.length cap) ts.length (flatT ts)) {i : Nat} (hi : i < ts.length) :
    w.cell? ⟨g, i * 6, none⟩ = some (.int .i64 (ts[i].kind : Int)) ∧ w.cell? ⟨g, i * 6 + 1, none⟩ = some (.string ⟨ts[i].text.toArray⟩) ∧ w.cell? ⟨g, i * 6 + 2, none⟩ = some (.int .i64 ts[i].int) ∧
    w.cell? ⟨g, i * 6 + 3, none⟩ = some (.int .i64 (ts[i].op : Int)) ∧ w.cell? ⟨g, i * 6 + 4, none⟩ = some (.int .i64 (ts[i].off : Int)) ∧ w.cell? ⟨g, i * 6 + 5, none⟩ = some (.int .i64 (ts[i].fin : Int)) := by
  have hc : ∀ j (hj : j < 6), w.cell? ⟨g, i * 6 + j, none⟩ = (tkV ts[i])[j]? := fun j hj => by
    rw [World.ownsRow.cellAt h (i * 6 + j) (by omega), flatT_at ts i hi j hj]
  exact ⟨hc 0 (by omega), hc 1 (by omega), hc 2 (by omega), hc 3 (by omega), hc 4 (by omega), hc 5 (by omega)⟩

/-- How the tokens end, and where the last one stops. -/
def CutEnd (s : ByteArray) (ts : List Tk) (f : Nat × Nat) (p : Nat) : Prop :=
  (f = (0, 0) ∧ ∃ t ts', ts = ts' ++ [t] ∧ t.kind = 0) ∨ (Sc (L s) p [] f ∧ ∀ t ∈ ts, t.kind ≠ 0)
theorem drop_last {ts : List Tk} {i : Nat} (hi : i < ts.length) (h : ts.drop (i + 1) = []) : i + 1 = ts.length ∧ ts = ts.take i ++ [ts[i]] := by
  have h1 : ts.length ≤ i + 1 := List.drop_eq_nil_iff.1 h
  have h2 : i + 1 = ts.length := by omega
  refine ⟨h2, ?_⟩
  rw [← List.take_succ_eq_append_getElem hi, h2, List.take_length]

set_option maxRecDepth 100000 in
set_option maxHeartbeats 3200000 in
theorem cut_any (s : ByteArray) (ts : List Tk) (f : Nat × Nat) (v : Value) (B D : Nat) (w : World) (hs : s.size ≤ 65536) (hG : Gl B w) (hSc : Sc (L s) 0 ts f) (hown : w.ownsRow D 32 6 v ts.length (flatT ts)) :
    Calls Tryd.prog 9 #[.string s, v] w fun e w' => (∃ p, p ≤ s.size ∧ CutEnd s ts f p ∧ e = .returned (.tuple #[.bool true, .int .i64 (p : Int)])) ∧ Below w.heap.size w w' := by
  have htl := sc_len hSc (Nat.zero_le _)
  rw [L_len] at htl
  have hBz := hG.lt
  obtain ⟨va, vc, rfl⟩ : ∃ va vc, v = .slice va ts.length vc := by
    rcases Joins.ownsRow_forms hown with ⟨h5, h6⟩ | ⟨g, cap, h5⟩
    · exact ⟨none, 0, by rw [h5, h6]⟩
    · exact ⟨_, cap, h5⟩
  have HSC := Lib.hid hSc
  have HO := Lib.hid hown
  have HG := Lib.hid hG
  clear hSc hown hG
  go_enter Tryd.func9, Tryd.ntmps9
  go_wp2
  go_loopw [14, 6] (fun k a wr => ∃ (i p : Nat), k = .int .i64 (i : Int) ∧ a = .int .i64 (p : Int) ∧ i ≤ ts.length ∧ p ≤ s.size ∧ Hid (Sc (L s) p (ts.drop i) f) ∧ Hid (Below w.heap.size w wr) ∧ Hid (∀ t ∈ ts.take i, t.kind ≠ 0)) (fun k _ _ => ts.length - (intOf k).toNat)
  case atStart => exact ⟨0, 0, rfl, rfl, Nat.zero_le _, Nat.zero_le _, HSC, Lib.hid (Below.refl _ _), Lib.hid (fun t h => by simp at h)⟩
  case round =>
    obtain ⟨i, p, rfl, rfl, hi, hp, HSc, HB, HK⟩ := hrel
    have hwz := HB.out.size
    by_cases h1 : i < ts.length
    · have iI : (i : Int) < (ts.length : Int) := by omega
      have i0 : (0 : Int) ≤ (i : Int) := by omega
      have hwi : IntKind.i64.wrap ((i : Int) + 1) = (i : Int) + 1 := by rw [IntKind.wrap_i64]; omega
      have hsc := HSc.out
      rw [List.drop_eq_getElem_cons h1] at hsc
      obtain ⟨r, hgr, hoff, hk⟩ := tok_facts hsc
      have hor : Hid (wr.ownsRow D 32 6 (.slice va ts.length vc) ts.length (flatT ts)) := Lib.hid (own_oth HO.out (fun k c hk => HB.out.block k (Array.getElem?_eq_some_iff.1 hk).1))
      obtain ⟨g, rfl⟩ : ∃ g, va = some ⟨g, 0, none⟩ := by
        obtain ⟨g, cap, h5⟩ := Joins.ownsRow_form hor.out (by omega)
        injection h5 with h6 _ _
        exact ⟨g, h6⟩
      obtain ⟨c0, c1, c2, c3, c4, c5⟩ := tok_cells hor.out h1
      obtain ⟨t, ht⟩ : ∃ t, t = ts[i] := ⟨_, rfl⟩
      rw [← ht] at c0 c1 c2 c3 c4 c5 hoff hk
      obtain ⟨kd, hkd⟩ : ∃ kd, kd = t.kind := ⟨_, rfl⟩
      obtain ⟨tx, htx⟩ : ∃ tx : ByteArray, tx = ⟨t.text.toArray⟩ := ⟨_, rfl⟩
      obtain ⟨iv, hiv⟩ : ∃ iv, iv = t.int := ⟨_, rfl⟩
      obtain ⟨ov, hov⟩ : ∃ ov, ov = t.op := ⟨_, rfl⟩
      obtain ⟨o, ho⟩ : ∃ o, o = t.off := ⟨_, rfl⟩
      obtain ⟨e, he⟩ : ∃ e, e = t.fin := ⟨_, rfl⟩
      rw [← hkd] at c0 hk
      rw [← htx] at c1
      rw [← hiv] at c2 hk
      rw [← hov] at c3 hk
      rw [← ho] at c4 hk hoff
      rw [← he] at c5 hk
      have HT := Lib.hid ht
      have HKD := Lib.hid hkd
      have HTX := Lib.hid htx
      have HIV := Lib.hid hiv
      have HOV := Lib.hid hov
      have HOF := Lib.hid ho
      have HFI := Lib.hid he
      have HHK := Lib.hid hk
      have HGR := Lib.hid hgr
      have HOFF := Lib.hid hoff.symm
      clear hsc hgr hoff hk ht hkd htx hiv hov ho he
      go_upto_region 5 with fail
      obtain ⟨w6, hw6⟩ : ∃ w6, w6 = wr.alloc (.cells #[.int .i64 (kd : Int), .string tx, .int .i64 iv, .int .i64 (ov : Int), .int .i64 (o : Int), .int .i64 (e : Int)] 32) := ⟨_, rfl⟩
      rw [← hw6]
      have q1 : w6.heap[wr.heap.size]? = some (.cells #[.int .i64 (kd : Int), .string tx, .int .i64 iv, .int .i64 (ov : Int), .int .i64 (o : Int), .int .i64 (e : Int)] 32) := by rw [hw6]; exact heap_alloc_new _ _
      have HB6 : Hid (Below w.heap.size w w6) := Lib.hid (by rw [hw6]; exact HB.out.alloc hwz _)
      have HQ := Lib.hid q1
      clear hw6 c0 c1 c2 c3 c4 c5
      obtain ⟨c0, c1, c2, c3, c4, c5, _, _, _, _, _, _⟩ := row6 q1
      clear q1
      go_wp2_with fail
      refine (skip_any s p _ hp hs).mono ?_
      rintro z w' ⟨hz, rfl⟩
      rw [HGR.out] at hz
      have hz2 : z = .returned (.tuple #[.int .i64 ((s.size - r.length : Nat) : Int), .int .i64 (-1)]) := hz
      subst hz2
      rw [HOFF.out]
      clear hz
      rcases HHK.out with ⟨ht0, hnil, hf, hr0⟩ | ⟨hk0, hoe, hes, hok, hmu, hnx⟩
      · have hkd : kd = 0 := by rw [HKD.out, ht0]
        have htx : tx = ⟨#[]⟩ := by rw [HTX.out, ht0]
        have hiv : iv = 0 := by rw [HIV.out, ht0]
        have hov : ov = 0 := by rw [HOV.out, ht0]
        have hos : o = s.size := by rw [HOF.out, ht0]
        have hes : e = s.size := by rw [HFI.out, ht0]
        obtain ⟨hl1, hl2⟩ := drop_last h1 hnil
        have k1 : ((kd : Int) == 0) = true := by simp; omega
        have k2 : (tx.toList == []) = true := by rw [htx]; decide +kernel
        have k3 : (iv == 0) = true := by rw [hiv]; rfl
        have k4 : ((ov : Int) == 0) = true := by simp; omega
        have k5 : ((e : Int) == (o : Int)) = true := by simp; omega
        have k6 : ((o : Int) == (s.size : Int)) = true := by simp; omega
        have hwl : IntKind.i64.wrap ((ts.length : Int) - 1) = (ts.length : Int) - 1 := by rw [IntKind.wrap_i64]; omega
        have k7 : ((i : Int) == (ts.length : Int) - 1) = true := by rw [beq_iff_eq]; omega
        have HFIN : Hid (CutEnd s ts f o) := Lib.hid (.inl ⟨hf, t, ts.take i, by rw [HT.out]; exact hl2, by rw [← HKD.out, hkd]⟩)
        have HOS := Lib.hid (show o ≤ s.size by omega)
        clear hkd htx hiv hov hos hes hl1 hl2 ht0 hnil hf hr0 HHK
        go_wp2
        go_ret2
        exact ⟨⟨o, HOS.out, HFIN.out, rfl⟩, HB6.out⟩
      · have k1 : ((kd : Int) == 0) = false := by simp; omega
        have k2 : decide ((e : Int) ≤ (o : Int)) = false := decide_eq_false (by omega)
        have k3 : decide ((e : Int) > (s.size : Int)) = false := decide_eq_false (by omega)
        have o0 : (0 : Int) ≤ (o : Int) := by omega
        have oe : (o : Int) ≤ (e : Int) := by omega
        have es : (e : Int) ≤ (s.size : Int) := by omega
        obtain ⟨z, hz⟩ : ∃ z, z = s.extract o e := ⟨_, rfl⟩
        have hzs : z.size ≤ 65536 := by rw [← L_len, hz, cut_drop, List.length_take, List.length_drop, L_len]; omega
        rw [← hz] at hok
        have hok2 : TokOk (L z) kd ov (L tx) iv := by
          rw [HTX.out, tok_text]
          exact hok
        have HOK := Lib.hid hok2
        have HMU := Lib.hid hmu
        have HNX := Lib.hid hnx
        have HZ := Lib.hid hz
        clear hok hok2 hmu hnx hz HHK
        go_upto_region 10 with fail
        go_still_tail 20, (by kernel_rfl)
        change wpList _ _ _ _ _ w6.drew
        generalize hW : w6.drew = w7
        have HB7 : Hid (Below w.heap.size w w7) := Lib.hid (by rw [← hW]; exact HB6.out.drew)
        have q7 : w7.heap[wr.heap.size]? = some (.cells #[.int .i64 (kd : Int), .string tx, .int .i64 iv, .int .i64 (ov : Int), .int .i64 (o : Int), .int .i64 (e : Int)] 32) := by rw [← hW]; exact HQ.out
        have HQ7 := Lib.hid q7
        have h7z := (Array.getElem?_eq_some_iff.1 q7).1
        clear hW c0 c1 c2 c3 c4 c5 q7
        rw [← HZ.out]
        go_wp2_with fail
        refine (spells_any z tx kd ov o e B iv _ hzs (HG.out.below (HB7.out.mono hBz)) HOK.out).mono ?_
        rintro y w8 ⟨rfl, hb8⟩
        have q8 : w8.heap[wr.heap.size]? = some (.cells #[.int .i64 (kd : Int), .string tx, .int .i64 iv, .int .i64 (ov : Int), .int .i64 (o : Int), .int .i64 (e : Int)] 32) := by rw [hb8.block _ h7z]; exact HQ7.out
        have HB8 : Hid (Below w.heap.size w w8) := Lib.hid (HB7.out.trans (hb8.mono (by omega)))
        obtain ⟨c0, c1, c2, c3, c4, c5, _, _, _, _, _, _⟩ := row6 q8
        have HES := Lib.hid hes
        have HKN : Hid (∀ u ∈ ts.take (i + 1), u.kind ≠ 0) := Lib.hid (fun u hu => by
          rw [List.take_succ_eq_append_getElem h1, List.mem_append, List.mem_singleton] at hu
          rcases hu with hu | rfl
          · exact HK.out u hu
          · rw [← HT.out, ← HKD.out]; exact hk0)
        clear q8 hb8
        by_cases hend : e < s.size
        · have n1 : (e : Int) < (s.size : Int) := by omega
          have n2 : decide ((e : Int) < (s.size : Int)) = true := decide_eq_true n1
          have e0 : (0 : Int) ≤ (e : Int) := by omega
          obtain ⟨c, hc⟩ : ∃ c, c = s[e] := ⟨_, rfl⟩
          have hM := HMU.out
          rw [L_drop hend, ← hc] at hM
          have HM1 : Hid (kd ≤ 3 ∨ kd = 10 → isW c = false) := Lib.hid (fun h => by simpa [hdNot] using hM.1 h)
          have HM2 : Hid (kd = 11 ∧ (ov = 3 ∨ ov = 5) → c.toNat ≠ 61) := Lib.hid (fun h => by simpa [hdNot] using hM.2 h)
          have HC := Lib.hid hc
          clear hM hc
          by_cases a3 : kd ≤ 3
          · have d3 : decide ((kd : Int) ≤ 3) = true := decide_eq_true (by omega)
            have d11 : ((kd : Int) == 11) = false := by simp; omega
            have hw := HM1.out (.inl a3)
            clear a3
            go_wp2_with fail
            rw [← HC.out]
            refine (wordByte_any c _).mono ?_
            rintro y w' ⟨rfl, rfl⟩
            rw [hw]
            go_wp2
            go_roundw
            case rel => exact ⟨i + 1, e, by go_num, rfl, by omega, HES.out, HNX, HB8, HKN⟩
            case measure => simp only [intOf]; omega
          · have d3 : decide ((kd : Int) ≤ 3) = false := decide_eq_false (by omega)
            by_cases a10 : kd = 10
            · have d10 : ((kd : Int) == 10) = true := by simp; omega
              have d11 : ((kd : Int) == 11) = false := by simp; omega
              have hw := HM1.out (.inr a10)
              clear a3 a10
              go_wp2_with fail
              rw [← HC.out]
              refine (wordByte_any c _).mono ?_
              rintro y w' ⟨rfl, rfl⟩
              rw [hw]
              go_wp2
              go_roundw
              case rel => exact ⟨i + 1, e, by go_num, rfl, by omega, HES.out, HNX, HB8, HKN⟩
              case measure => simp only [intOf]; omega
            · have d10 : ((kd : Int) == 10) = false := by simp; omega
              by_cases a11 : kd = 11
              · have d11 : ((kd : Int) == 11) = true := by simp; omega
                by_cases b3 : ov = 3
                · have f3 : ((ov : Int) == 3) = true := by simp; omega
                  have hw : ((c.toNat : Int) == 61) = false := by have := HM2.out ⟨a11, .inl b3⟩; simp; omega
                  clear a3 a10 a11 b3
                  go_upto_region 14 with fail
                  rw [← HC.out]
                  go_wp2
                  go_roundw
                  case rel => exact ⟨i + 1, e, by go_num, rfl, by omega, HES.out, HNX, HB8, HKN⟩
                  case measure => simp only [intOf]; omega
                · have f3 : ((ov : Int) == 3) = false := by simp; omega
                  by_cases b5 : ov = 5
                  · have f5 : ((ov : Int) == 5) = true := by simp; omega
                    have hw : ((c.toNat : Int) == 61) = false := by have := HM2.out ⟨a11, .inr b5⟩; simp; omega
                    clear a3 a10 a11 b3 b5
                    go_upto_region 14 with fail
                    rw [← HC.out]
                    go_wp2
                    go_roundw
                    case rel => exact ⟨i + 1, e, by go_num, rfl, by omega, HES.out, HNX, HB8, HKN⟩
                    case measure => simp only [intOf]; omega
                  · have f5 : ((ov : Int) == 5) = false := by simp; omega
                    clear a3 a10 a11 b3 b5
                    go_wp2
                    go_roundw
                    case rel => exact ⟨i + 1, e, by go_num, rfl, by omega, HES.out, HNX, HB8, HKN⟩
                    case measure => simp only [intOf]; omega
              · have d11 : ((kd : Int) == 11) = false := by simp; omega
                clear a3 a10 a11
                go_wp2
                go_roundw
                case rel => exact ⟨i + 1, e, by go_num, rfl, by omega, HES.out, HNX, HB8, HKN⟩
                case measure => simp only [intOf]; omega
        · have n1 : ¬ (e : Int) < (s.size : Int) := by omega
          have n3 : ¬ e < s.size := by omega
          clear hend
          go_wp2
          go_roundw
          case rel => exact ⟨i + 1, e, by go_num, rfl, by omega, HES.out, HNX, HB8, HKN⟩
          case measure => simp only [intOf]; omega
    · have iI : ¬ (i : Int) < (ts.length : Int) := by omega
      have hie : i = ts.length := by omega
      have HFIN : Hid (CutEnd s ts f p) := Lib.hid (.inr ⟨by have := HSc.out; rw [hie, List.drop_length] at this; exact this, fun t ht => HK.out t (by rw [hie, List.take_length]; exact ht)⟩)
      have HP := Lib.hid hp
      clear hie
      go_wp2
      go_ret2
      exact ⟨⟨p, HP.out, HFIN.out, rfl⟩, HB.out⟩
end Go.Proofs.YthidnjnaifcfoaaDoor
