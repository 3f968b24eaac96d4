/-
  Texts of this seat, one behind the other: W15, W16, W17. Conditions: those that each of them states.
-/
import Derived.Test.YtncdjkdpoinfaaaGreatDoorG7
import Derived.Test.YtncdjkdpoinfaaaGreatDoorG8
import Derived.Deep.AppendLies
/-
  The walk of lex's reader.next. Conditions: the text is at most 65536 bytes long; the reader lies in a block of its own; the variables hold what the program's text lays.
-/
namespace Go.Proofs.YtncdjkdpoinfaaaGreatDoor
open Go.RowKit Go.Shelf Pl

/-- A spelling as a string. -/
def sgB (p : List Nat) : ByteArray := ⟨(p.map UInt8.ofNat).toArray⟩
theorem L_sgB (p : List Nat) : L (sgB p) = p.map UInt8.ofNat := by simp [L, sgB]
def marksL : List (List Nat) := [[], [], [], [], [], [40], [41], [44], [46], [58, 45], [110, 111, 116], []]
def opsL : List (List Nat) := [[], [61], [33, 61], [60], [60, 61], [62], [62, 61]]
def sgN : List Nat := [11]
/-- What the program's variables hold, all of it below block B. -/
structure Gl (B : Nat) (w : World) : Prop where
  low : 5 ≤ B
  lt : B ≤ w.heap.size
  er : ErrR w
  sg : ∃ g off cap, w.cell? ⟨2, 0, none⟩ = some (.slice (some ⟨g, off, none⟩) 11 cap) ∧ g < B ∧ ∀ i (h : i < signs.length),
    w.cell? ⟨g, off + i * 3, none⟩ = some (.string (sgB signs[i].1)) ∧ w.cell? ⟨g, off + i * 3 + 1, none⟩ = some (.int .i64 (signs[i].2.1 : Int)) ∧ w.cell? ⟨g, off + i * 3 + 2, none⟩ = some (.int .i64 (signs[i].2.2 : Int))
  mrk : ∀ i (h : i < marksL.length), w.cell? ⟨1, i, none⟩ = some (.string (sgB marksL[i]))
  ops : ∀ i (h : i < opsL.length), w.cell? ⟨0, i, none⟩ = some (.string (sgB opsL[i]))
theorem Gl.below {B : Nat} {w w' : World} (h : Gl B w) (hb : Below B w w') : Gl B w' := by
  have hl := h.low
  have hc : ∀ b o, b < B → w'.cell? ⟨b, o, none⟩ = w.cell? ⟨b, o, none⟩ := fun b o hlt => hb.cell hlt
  refine ⟨h.low, Nat.le_trans h.lt hb.size, ?_, ?_, ?_, ?_⟩
  · obtain ⟨tp, p, h1⟩ := h.er
    exact ⟨tp, p, by rw [hc _ _ (by omega)]; exact h1⟩
  · obtain ⟨g, off, cap, h1, h2, h3⟩ := h.sg
    refine ⟨g, off, cap, by rw [hc _ _ (by omega)]; exact h1, h2, fun i hi => ?_⟩
    rw [hc _ _ h2, hc _ _ h2, hc _ _ h2]
    exact h3 i hi
  · intro i hi; rw [hc _ _ (by omega)]; exact h.mrk i hi
  · intro i hi; rw [hc _ _ (by omega)]; exact h.ops i hi
theorem Gl.bes {B X : Nat} {w w' : World} (h : Gl B w) (hb : Bes X w w') (hX : B ≤ X) : Gl B w' := h.below (hb.below hX h.lt)

/-- The token behind the gap at a place, and where it stands. -/
def nextAt (l : List UInt8) (p : Nat) : Nat × Nx :=
  match gap .out (l.drop p) with
  | .inr st => (0, .fault 16 st)
  | .inl r => (l.length - r.length, next r)

theorem TokIs.form {s : ByteArray} {X o : Nat} {w w' : World} {N : Nx} {e : Ending} (h : TokIs s X o w N e w') :
    ∃ (xk : Nat) (xt : ByteArray) (xi : Int) (xo xf xe xc xp : Nat), e = .returned (.tuple #[TokV xk xt xi xo xf xe, FaultV xc xp]) ∧ Bes X w w' := by
  cases N with
  | fin => exact ⟨_, _, _, _, _, _, _, _, h.1, h.2⟩
  | fault c a => exact ⟨_, _, _, _, _, _, _, _, h.1, h.2⟩
  | tok kind op text int rest =>
    obtain ⟨⟨t, h1, h2, h3⟩, h4⟩ := h
    exact ⟨_, _, _, _, _, _, _, _, h2, h4⟩
theorem tok_pass {s : ByteArray} {X o B : Nat} {w w2 w3 : World} {N : Nx} {e : Ending} {x0 x1 x2 x3 x4 x5 y0 y1 y2 : Value} (h : TokIs s X o w2 N e w3) (hb : Bes X w w2) (hB : w.heap.size ≤ B) (hX : X < w.heap.size) :
    TokIs s X o w N e (nine w3 B (B + 1) x0 x1 x2 x3 x4 x5 y0 y1 y2) := by
  cases N with
  | fin => exact ⟨h.1, nine_bes (hb.trans h.2) hB (by omega)⟩
  | fault c a => exact ⟨h.1, nine_bes (hb.trans h.2) hB (by omega)⟩
  | tok kind op text int rest =>
    obtain ⟨⟨t, h1, h2, h3⟩, h4⟩ := h
    exact ⟨⟨t, h1, h2, nine_rd h3 (by omega) (by omega)⟩, nine_bes (hb.trans h4) hB (by omega)⟩

theorem has_pre {p : List Nat} {r : List UInt8} (hp : ∀ x ∈ p, x < 256) : Lib.hasPrefix r (L (sgB p)) = pre p r := by
  rw [L_sgB]
  unfold Lib.hasPrefix pre
  induction p generalizing r with
  | nil => simp
  | cons x p ih =>
    cases r with
    | nil => simp [List.isPrefixOf]
    | cons a r =>
      have hx := hp x (by simp)
      rw [List.map_cons, List.isPrefixOf, ih (fun y hy => hp y (by simp [hy]))]
      rw [Bool.eq_iff_iff]
      simp only [List.length_cons, List.take_succ_cons, List.map_cons, List.cons.injEq, Bool.and_eq_true, beq_iff_eq, decide_eq_true_eq]
      constructor
      · rintro ⟨h1, h2⟩
        exact ⟨by rw [← h1, ofNat_back hx], h2⟩
      · rintro ⟨h1, h2⟩
        exact ⟨by rw [← h1]; simp, h2⟩
theorem signs_small : ∀ i (h : i < signs.length), ∀ x ∈ signs[i].1, x < 256 := by decide
theorem sign_found {r : List UInt8} {i : Nat} (hi : i < signs.length) (h : pre signs[i].1 r = true) (h2 : ∀ j (hj : j < i), pre (signs[j]'(by omega)).1 r = false) :
    nextSign r = .tok signs[i].2.1 signs[i].2.2 [] 0 (r.drop signs[i].1.length) := by
  unfold nextSign
  have h3 : signs.find? (fun s => pre s.1 r) = some signs[i] := by
    rw [List.find?_eq_some_iff_getElem]
    exact ⟨h, i, hi, rfl, fun j hj => by rw [h2 j hj]; rfl⟩
  rw [h3]
theorem sign_none {r : List UInt8} (h2 : ∀ j (hj : j < signs.length), pre signs[j].1 r = false) : nextSign r = .fault 10 r := by
  unfold nextSign
  have h3 : signs.find? (fun s => pre s.1 r) = none := by
    rw [List.find?_eq_none]
    intro x hx
    obtain ⟨j, hj, rfl⟩ := List.mem_iff_getElem.1 hx
    rw [h2 j hj]; simp
  rw [h3]
theorem signs_len : signs.length = 11 := rfl
theorem pre_len {p : List Nat} {r : List UInt8} (h : pre p r = true) : p.length ≤ r.length := by
  have h1 : (r.take p.length).map (·.toNat) = p := of_decide_eq_true h
  have := congrArg List.length h1
  rw [List.length_map, List.length_take] at this
  omega
theorem sgB_size (p : List Nat) : (sgB p).size = p.length := by
  rw [← L_len, L_sgB, List.length_map]

set_option maxRecDepth 100000 in
set_option maxHeartbeats 3200000 in
theorem next_any (s : ByteArray) (p X B : Nat) (w : World) (hs : s.size ≤ 65536) (hp : p ≤ s.size) (hR : RdB w X s p) (hG : Gl B w) (hBX : B ≤ X) :
    Calls Tryz.prog 53 #[.pointer (some ⟨X, 0, none⟩)] w fun e w' => TokIs s X (nextAt (L s) p).1 w (nextAt (L s) p).2 e w' := by
  have hX := hR.lt
  have hB5 := hG.low
  obtain ⟨w1, hw1⟩ : ∃ w1, w1 = ((w.alloc (.cells #[.int .i64 0, .string noS, .int .i64 0, .int .i64 0, .int .i64 0, .int .i64 0] 62)).alloc (.cells #[.int .i64 0, .int .i64 0, .int .i64 0] 27)) := ⟨_, rfl⟩
  obtain ⟨p0, p1, p2⟩ := two_new X w
  rw [← hw1] at p0 p1 p2
  have P0 := Lib.hid p0
  have P1 := Lib.hid p1
  have P2 := Lib.hid p2
  have hsz : w1.heap.size = w.heap.size + 2 := by rw [hw1]; simp
  have H1R : Hid (RdB w1 X s p) := Lib.hid (by rw [hw1]; exact RdB.alloc (RdB.alloc hR _) _)
  have HG1 := Lib.hid (hG.bes p0 hBX)
  have HW1 : Hid (w1 = ((w.alloc (.cells #[.int .i64 0, .string { data := #[] }, .int .i64 0, .int .i64 0, .int .i64 0, .int .i64 0] 62)).alloc (.cells #[.int .i64 0, .int .i64 0, .int .i64 0] 27))) := Lib.hid hw1
  clear p0 p1 p2 hw1 hR hG
  go_enter Tryz.func53, Tryz.ntmps53
  go_upto_region 1 with fail
  rw [← HW1.out]
  go_wp2_with fail
  refine (gap_any s p X _ hp hs H1R.out).mono ?_
  rintro e w2 ⟨he, hb2⟩
  have HB2 := Lib.hid hb2
  have hw2z := hb2.size
  clear hb2
  cases hG : gap .out ((L s).drop p) with
  | inr st =>
    rw [hG] at he
    have he2 : e = .returned (.tuple #[.int .i64 ((s.size - st.length : Nat) : Int), .bool false]) := he
    subst he2
    have HN : Hid ((nextAt (L s) p).2 = .fault 16 st) := Lib.hid (by unfold nextAt; rw [hG])
    obtain ⟨o, ho⟩ : ∃ o, o = s.size - st.length := ⟨_, rfl⟩
    rw [← ho]
    have HO := Lib.hid ho.symm
    clear he hG ho
    go_wp2_with fail
    refine (fault_any X 16 o _).mono ?_
    rintro e w2 ⟨he, hb⟩
    have he2 : e = .returned (.tuple #[.agg #[.int .i64 0, .string noS, .int .i64 0, .int .i64 0, .int .i64 0, .int .i64 0], .agg #[.int .i64 16, .int .i64 0, .int .i64 (o : Int)]]) := he
    subst he2
    clear he
    have q1 : w2.heap[w.heap.size]? = some (.cells #[.int .i64 0, .string noS, .int .i64 0, .int .i64 0, .int .i64 0, .int .i64 0] 62) := by
      rw [hb.block w.heap.size (by have := HB2.out.size; omega)]
      exact (HB2.out.block _ (by omega) (by omega)).trans P1.out
    have q2 : w2.heap[w.heap.size + 1]? = some (.cells #[.int .i64 0, .int .i64 0, .int .i64 0] 27) := by
      rw [hb.block (w.heap.size + 1) (by have := HB2.out.size; omega)]
      exact (HB2.out.block _ (by omega) (by omega)).trans P2.out
    obtain ⟨a0, a1, a2, a3, a4, a5, b0, b1, b2, b3, b4, b5⟩ := row6 q1
    obtain ⟨c0, c1, c2, d0, d1, d2⟩ := row3 q2
    obtain ⟨g1, g2⟩ := nine_set (x0 := .int .i64 0) (x1 := .string noS) (x2 := .int .i64 0) (x3 := .int .i64 0) (x4 := .int .i64 0) (x5 := .int .i64 0) (y0 := .int .i64 16) (y1 := .int .i64 0) (y2 := .int .i64 (o : Int)) q1 q2
    have G1 := Lib.hid g1
    have G2 := Lib.hid g2
    have HB : Hid (Bes X w (nine w2 w.heap.size (w.heap.size + 1) (.int .i64 0) (.string noS) (.int .i64 0) (.int .i64 0) (.int .i64 0) (.int .i64 0) (.int .i64 16) (.int .i64 0) (.int .i64 (o : Int)))) := Lib.hid (nine_bes ((P0.out.trans HB2.out).trans (Bes.of hb)) (by omega) (by omega))
    clear g1 g2 q1 q2 hb
    go_wp2
    refine bodyPost_ret (results_two_rows rfl _ _ w.heap.size (w.heap.size + 1) 62 27 _ _ (0, 0) (0, 0) _ _ rfl G1.out Tryz.underlying62 rfl Tryz.size32 rfl G2.out Tryz.underlying27 rfl Tryz.size25) rfl ?_
    exact fault_end HN.out HO.out HB.out
  | inl r =>
    rw [hG] at he
    obtain ⟨he2, hr2⟩ := (show e = .returned (.tuple #[.int .i64 ((s.size - r.length : Nat) : Int), .bool true]) ∧ RdB w2 X s (s.size - r.length) from he)
    subst he2
    have hgp := gap_place hG
    rw [L_len] at hgp
    have hNA : nextAt (L s) p = (s.size - r.length, next r) := by unfold nextAt; rw [hG]; simp only [L_len]
    obtain ⟨o, ho⟩ : ∃ o, o = s.size - r.length := ⟨_, rfl⟩
    rw [← ho] at hgp hr2 hNA ⊢
    have hos : o ≤ s.size := by omega
    rw [← hgp.1] at hNA
    have HNA := Lib.hid hNA
    have HR2 := Lib.hid hr2
    obtain ⟨r0, r1⟩ := hr2.rd
    have rf := hr2.froz
    have HG2 := Lib.hid (HG1.out.bes HB2.out hBX)
    clear he hG hgp ho hNA hr2
    have ho0 : (0 : Int) ≤ (o : Int) := by omega
    by_cases h1 : o < s.size
    · have k1 : ((o : Int) == (s.size : Int)) = false := by simp; omega
      have k2 : (o : Int) < (s.size : Int) := by omega
      have k2L : (o : Int) ≤ (s.size : Int) := by omega
      obtain ⟨c, hc⟩ : ∃ c, c = s[o] := ⟨_, rfl⟩
      have HC := Lib.hid hc
      have HD : Hid ((L s).drop o = c :: (L s).drop (o + 1)) := Lib.hid (by rw [hc]; exact L_drop h1)
      clear hc
      obtain ⟨num, hnum⟩ : ∃ num, num = (isD c || (decide (c.toNat = 45) && isD (pk s (o + 1)))) := ⟨_, rfl⟩
      have HNUM := Lib.hid hnum
      clear hnum
      go_upto_region 8 with fail
      rw [← HC.out]
      go_cut [43] from 44 to 54 (fun v wx => v = .bool num ∧ Hid (RdB wx X s o) ∧ Hid (Bes X w1 wx))
      case first =>
        go_wp2_with fail
        refine (isD_any c _).mono ?_
        rintro e w' ⟨rfl, rfl⟩
        cases hd : isD c with
        | true =>
          have HF : Hid (true = num) := Lib.hid (by rw [HNUM.out, hd]; rfl)
          clear hd
          go_wp2
          go_meet
          case rel => exact ⟨by rw [← HF.out], HR2, HB2⟩
        | false =>
          by_cases b45 : c.toNat = 45
          · have e45 : ((c.toNat : Int) == 45) = true := by simp; omega
            have HF : Hid (isD (pk s (o + 1)) = num) := Lib.hid (by rw [HNUM.out, hd, b45]; rfl)
            clear hd b45
            go_wp2_with fail
            refine (peek_any s o 1 X _ hs (by omega) (by omega) HR2.out.rd).mono ?_
            rintro e w' ⟨rfl, n, rfl⟩
            go_wp2_with fail
            refine (isD_any (pk s (o + 1)) _).mono ?_
            rintro e w' ⟨rfl, rfl⟩
            rw [HF.out]
            cases num with
            | true =>
              go_wp2
              go_meet
              case rel => exact ⟨rfl, Lib.hid (HR2.out.drewN _), Lib.hid (HB2.out.drewN _)⟩
            | false =>
              go_wp2
              go_meet
              case rel => exact ⟨rfl, Lib.hid (HR2.out.drewN _), Lib.hid (HB2.out.drewN _)⟩
          · have e45 : ((c.toNat : Int) == 45) = false := by simp; omega
            have HF : Hid (false = num) := Lib.hid (by rw [HNUM.out, hd, decide_eq_false b45]; rfl)
            clear hd b45
            go_wp2
            go_meet
            case rel => exact ⟨by rw [← HF.out], HR2, HB2⟩
      case rest =>
      obtain ⟨rfl, HR3, HB3⟩ := hcut
      obtain ⟨w3, hw3⟩ : ∃ w3, w3 = wc := ⟨_, rfl⟩
      rw [← hw3] at HR3 HB3 ⊢
      clear hw3
      obtain ⟨t0, t1⟩ := HR3.out.rd
      have tf := HR3.out.froz
      clear r0 r1 rf
      have hw3z := HB3.out.size
      cases num with
      | true =>
        have HST : Hid (isD s[o] = true ∨ (s[o].toNat = 45 ∧ hdP isD ((L s).drop (o + 1)) = true)) := Lib.hid (by
          rw [← HC.out, hd_isD]
          have h5 := HNUM.out
          simp only [Bool.true_eq, Bool.or_eq_true, Bool.and_eq_true, decide_eq_true_eq] at h5
          exact h5)
        go_wp2_with fail
        refine (integer_any s o X _ hs h1 HST.out HR3.out (HG1.out.bes HB3.out hBX).er (by omega) (by omega)).mono ?_
        rintro e w4 ht
        obtain ⟨xk, xt, xi, xo, xf, xe, xc, xp, he, hb4⟩ := ht.form
        have he2 : e = .returned (.tuple #[.agg #[.int .i64 (xk : Int), .string xt, .int .i64 xi, .int .i64 (xo : Int), .int .i64 (xf : Int), .int .i64 (xe : Int)], .agg #[.int .i64 (xc : Int), .int .i64 0, .int .i64 (xp : Int)]]) := he
        subst he2
        clear he
        have hwz := HB3.out.size
        have q1 : w4.heap[w.heap.size]? = some (.cells #[.int .i64 0, .string noS, .int .i64 0, .int .i64 0, .int .i64 0, .int .i64 0] 62) := (hb4.block _ (by omega) (by omega)).trans ((HB3.out.block _ (by omega) (by omega)).trans P1.out)
        have q2 : w4.heap[w.heap.size + 1]? = some (.cells #[.int .i64 0, .int .i64 0, .int .i64 0] 27) := (hb4.block _ (by omega) (by omega)).trans ((HB3.out.block _ (by omega) (by omega)).trans P2.out)
        obtain ⟨a0, a1, a2, a3, a4, a5, v0, v1, v2, v3, v4, v5⟩ := row6 q1
        obtain ⟨c0, c1, c2, d0, d1, d2⟩ := row3 q2
        obtain ⟨g1, g2⟩ := nine_set (x0 := .int .i64 (xk : Int)) (x1 := .string xt) (x2 := .int .i64 xi) (x3 := .int .i64 (xo : Int)) (x4 := .int .i64 (xf : Int)) (x5 := .int .i64 (xe : Int)) (y0 := .int .i64 (xc : Int)) (y1 := .int .i64 0) (y2 := .int .i64 (xp : Int)) q1 q2
        have G1 := Lib.hid g1
        have G2 := Lib.hid g2
        have HP := Lib.hid (tok_pass (x0 := .int .i64 (xk : Int)) (x1 := .string xt) (x2 := .int .i64 xi) (x3 := .int .i64 (xo : Int)) (x4 := .int .i64 (xf : Int)) (x5 := .int .i64 (xe : Int)) (y0 := .int .i64 (xc : Int)) (y1 := .int .i64 0) (y2 := .int .i64 (xp : Int)) (B := w.heap.size) ht (P0.out.trans HB3.out) (Nat.le_refl _) hX)
        clear g1 g2 q1 q2 hb4 ht
        go_wp2
        refine bodyPost_ret (results_two_rows rfl _ _ w.heap.size (w.heap.size + 1) 62 27 _ _ (0, 0) (0, 0) _ _ rfl G1.out Tryz.underlying62 rfl Tryz.size32 rfl G2.out Tryz.underlying27 rfl Tryz.size25) rfl ?_
        rw [HNA.out]
        exact HP.out
      | false =>
        have hnd : isD c = false ∧ ¬ (c.toNat = 45 ∧ hdP isD ((L s).drop (o + 1)) = true) := by
          have h5 := HNUM.out
          rw [hd_isD]
          cases hd : isD c with
          | true => rw [hd] at h5; cases h5
          | false =>
            refine ⟨rfl, fun h6 => ?_⟩
            rw [hd, decide_eq_true h6.1] at h5
            have h7 : isD (pk s (o + 1)) = true := h6.2
            rw [h7] at h5; cases h5
        have HND := Lib.hid hnd
        clear hnd
        go_wp2_with fail
        refine (isW_any c _).mono ?_
        rintro e w' ⟨rfl, rfl⟩
        cases hw : isW c with
        | true =>
          have HNW : Hid (next ((L s).drop o) = nextWord ((L s).drop o)) := Lib.hid (by
            rw [HD.out]
            refine next_word HND.out.1 (fun h => ?_) hw
            simp [isW, isD, isU, isL, h] at hw)
          have HW := Lib.hid (show isW s[o] = true by rw [← HC.out]; exact hw)
          clear hw
          go_wp2_with fail
          refine (word_any s o X _ hs h1 HW.out HR3.out).mono ?_
          rintro e w4 ht
          obtain ⟨xk, xt, xi, xo, xf, xe, xc, xp, he, hb4⟩ := ht.form
          have he2 : e = .returned (.tuple #[.agg #[.int .i64 (xk : Int), .string xt, .int .i64 xi, .int .i64 (xo : Int), .int .i64 (xf : Int), .int .i64 (xe : Int)], .agg #[.int .i64 (xc : Int), .int .i64 0, .int .i64 (xp : Int)]]) := he
          subst he2
          clear he
          have hwz := HB3.out.size
          have q1 : w4.heap[w.heap.size]? = some (.cells #[.int .i64 0, .string noS, .int .i64 0, .int .i64 0, .int .i64 0, .int .i64 0] 62) := (hb4.block _ (by omega) (by omega)).trans ((HB3.out.block _ (by omega) (by omega)).trans P1.out)
          have q2 : w4.heap[w.heap.size + 1]? = some (.cells #[.int .i64 0, .int .i64 0, .int .i64 0] 27) := (hb4.block _ (by omega) (by omega)).trans ((HB3.out.block _ (by omega) (by omega)).trans P2.out)
          obtain ⟨a0, a1, a2, a3, a4, a5, v0, v1, v2, v3, v4, v5⟩ := row6 q1
          obtain ⟨c0, c1, c2, d0, d1, d2⟩ := row3 q2
          obtain ⟨g1, g2⟩ := nine_set (x0 := .int .i64 (xk : Int)) (x1 := .string xt) (x2 := .int .i64 xi) (x3 := .int .i64 (xo : Int)) (x4 := .int .i64 (xf : Int)) (x5 := .int .i64 (xe : Int)) (y0 := .int .i64 (xc : Int)) (y1 := .int .i64 0) (y2 := .int .i64 (xp : Int)) q1 q2
          have G1 := Lib.hid g1
          have G2 := Lib.hid g2
          have HP := Lib.hid (tok_pass (x0 := .int .i64 (xk : Int)) (x1 := .string xt) (x2 := .int .i64 xi) (x3 := .int .i64 (xo : Int)) (x4 := .int .i64 (xf : Int)) (x5 := .int .i64 (xe : Int)) (y0 := .int .i64 (xc : Int)) (y1 := .int .i64 0) (y2 := .int .i64 (xp : Int)) (B := w.heap.size) ht (P0.out.trans HB3.out) (Nat.le_refl _) hX)
          clear g1 g2 q1 q2 hb4 ht
          go_wp2
          refine bodyPost_ret (results_two_rows rfl _ _ w.heap.size (w.heap.size + 1) 62 27 _ _ (0, 0) (0, 0) _ _ rfl G1.out Tryz.underlying62 rfl Tryz.size32 rfl G2.out Tryz.underlying27 rfl Tryz.size25) rfl ?_
          rw [HNA.out]
          show TokIs s X o w (next ((L s).drop o)) _ _
          rw [HNW.out]
          exact HP.out
        | false =>
          by_cases h34 : c.toNat = 34
          · have e34 : ((c.toNat : Int) == 34) = true := by simp; omega
            have HW := Lib.hid (show s[o].toNat = 34 by rw [← HC.out]; exact h34)
            clear h34 hw
            go_wp2_with fail
            refine (text_any s o X _ hs h1 HW.out HR3.out).mono ?_
            rintro e w4 ht
            obtain ⟨xk, xt, xi, xo, xf, xe, xc, xp, he, hb4⟩ := ht.form
            have he2 : e = .returned (.tuple #[.agg #[.int .i64 (xk : Int), .string xt, .int .i64 xi, .int .i64 (xo : Int), .int .i64 (xf : Int), .int .i64 (xe : Int)], .agg #[.int .i64 (xc : Int), .int .i64 0, .int .i64 (xp : Int)]]) := he
            subst he2
            clear he
            have hwz := HB3.out.size
            have q1 : w4.heap[w.heap.size]? = some (.cells #[.int .i64 0, .string noS, .int .i64 0, .int .i64 0, .int .i64 0, .int .i64 0] 62) := (hb4.block _ (by omega) (by omega)).trans ((HB3.out.block _ (by omega) (by omega)).trans P1.out)
            have q2 : w4.heap[w.heap.size + 1]? = some (.cells #[.int .i64 0, .int .i64 0, .int .i64 0] 27) := (hb4.block _ (by omega) (by omega)).trans ((HB3.out.block _ (by omega) (by omega)).trans P2.out)
            obtain ⟨a0, a1, a2, a3, a4, a5, v0, v1, v2, v3, v4, v5⟩ := row6 q1
            obtain ⟨c0, c1, c2, d0, d1, d2⟩ := row3 q2
            obtain ⟨g1, g2⟩ := nine_set (x0 := .int .i64 (xk : Int)) (x1 := .string xt) (x2 := .int .i64 xi) (x3 := .int .i64 (xo : Int)) (x4 := .int .i64 (xf : Int)) (x5 := .int .i64 (xe : Int)) (y0 := .int .i64 (xc : Int)) (y1 := .int .i64 0) (y2 := .int .i64 (xp : Int)) q1 q2
            have G1 := Lib.hid g1
            have G2 := Lib.hid g2
            have HP := Lib.hid (tok_pass (x0 := .int .i64 (xk : Int)) (x1 := .string xt) (x2 := .int .i64 xi) (x3 := .int .i64 (xo : Int)) (x4 := .int .i64 (xf : Int)) (x5 := .int .i64 (xe : Int)) (y0 := .int .i64 (xc : Int)) (y1 := .int .i64 0) (y2 := .int .i64 (xp : Int)) (B := w.heap.size) ht (P0.out.trans HB3.out) (Nat.le_refl _) hX)
            clear g1 g2 q1 q2 hb4 ht
            go_wp2
            refine bodyPost_ret (results_two_rows rfl _ _ w.heap.size (w.heap.size + 1) 62 27 _ _ (0, 0) (0, 0) _ _ rfl G1.out Tryz.underlying62 rfl Tryz.size32 rfl G2.out Tryz.underlying27 rfl Tryz.size25) rfl ?_
            rw [HNA.out]
            exact HP.out
          · have e34 : ((c.toNat : Int) == 34) = false := by simp; omega
            have HNS : Hid (next ((L s).drop o) = nextSign ((L s).drop o)) := Lib.hid (by
              rw [HD.out]
              exact next_sign HND.out.1 HND.out.2 hw h34)
            clear hw h34
            obtain ⟨g, off, cap, hg0, hgB, hgs⟩ := HG1.out.sg
            have HSG : Hid (∀ wx, Bes X w1 wx → wx.cell? ⟨2, 0, none⟩ = some (.slice (some ⟨g, off, none⟩) 11 cap) ∧ ∀ i (h : i < signs.length),
              wx.cell? ⟨g, off + i * 3, none⟩ = some (.string (sgB signs[i].1)) ∧ wx.cell? ⟨g, off + i * 3 + 1, none⟩ = some (.int .i64 (signs[i].2.1 : Int)) ∧ wx.cell? ⟨g, off + i * 3 + 2, none⟩ = some (.int .i64 (signs[i].2.2 : Int))) := Lib.hid (fun wx hb => by
              have hc := fun (b q : Nat) (hlt : b < B) => (hb.below (B := B) hBX (by have := HG1.out.lt; omega)).cell (p := ⟨b, q, none⟩) hlt
              refine ⟨by rw [hc _ _ (by omega)]; exact hg0, fun i hi => ?_⟩
              rw [hc _ _ hgB, hc _ _ hgB, hc _ _ hgB]
              exact hgs i hi)
            clear hg0 hgs
            have y0 := (HSG.out w3 HB3.out).1
            go_wp2
            go_loopw [75] (fun k wr => ∃ i : Nat, k = .int .i64 (i : Int) ∧ i ≤ 11 ∧ Hid (RdB wr X s o) ∧ Hid (Bes X w1 wr) ∧ Hid (∀ j (hj : j < signs.length), j < i → pre signs[j].1 ((L s).drop o) = false)) (fun k _ => 11 - (intOf k).toNat)
            case atStart => exact ⟨0, rfl, by omega, HR3, HB3, Lib.hid (fun j hj h => by omega)⟩
            case round =>
              obtain ⟨i, rfl, hi, HR4, HB4, HPR⟩ := hrel
              clear t0 t1 tf y0
              by_cases hi1 : i < 11
              · have kI : (i : Int) < 11 := by omega
                have kI0 : (0 : Int) ≤ (i : Int) := by omega
                have hil : i < signs.length := hi1
                obtain ⟨x0, x1, x2⟩ := (HSG.out wr HB4.out).2 i hil
                obtain ⟨tx, htx⟩ : ∃ tx, tx = sgB signs[i].1 := ⟨_, rfl⟩
                obtain ⟨kd, hkd⟩ : ∃ kd, kd = signs[i].2.1 := ⟨_, rfl⟩
                obtain ⟨opn, hop⟩ : ∃ opn, opn = signs[i].2.2 := ⟨_, rfl⟩
                rw [← htx] at x0
                rw [← hkd] at x1
                rw [← hop] at x2
                have HTX := Lib.hid htx
                have HKD := Lib.hid hkd
                have HOP := Lib.hid hop
                clear htx hkd hop
                have HSM := Lib.hid (signs_small i hil)
                go_upto_region 17 with fail
                obtain ⟨wB, hwB⟩ : ∃ wB, wB = wr.alloc (.cells #[.string tx, .int .i64 (kd : Int), .int .i64 (opn : Int)] 124) := ⟨_, rfl⟩
                rw [← hwB]
                have HRB : Hid (RdB wB X s o) := Lib.hid (by rw [hwB]; exact RdB.alloc HR4.out _)
                have HBB : Hid (Bes X w1 wB) := Lib.hid (by rw [hwB]; exact HB4.out.alloc _)
                have hbx : wB.heap[wr.heap.size]? = some (.cells #[.string tx, .int .i64 (kd : Int), .int .i64 (opn : Int)] 124) := by rw [hwB]; exact heap_alloc_new _ _
                have HBX := Lib.hid hbx
                have x0' : wB.cell? ⟨wr.heap.size, 0, none⟩ = some (.string tx) := by simp only [World.cell?, hbx]; rfl
                obtain ⟨t0, t1⟩ := HRB.out.rd
                have hwrz := HB4.out.size
                clear hwB x0 x1 x2 hbx
                have hTX : Lib.hasPrefix ((L s).drop o) (L tx) = pre signs[i].1 ((L s).drop o) := by rw [HTX.out]; exact has_pre HSM.out
                cases hpr : pre signs[i].1 ((L s).drop o) with
                | false =>
                  have HF : Hid (Lib.hasPrefix ((L s).drop o) (L tx) = false) := Lib.hid (by rw [hTX, hpr])
                  have HNX : Hid (∀ j (hj : j < signs.length), j < i + 1 → pre signs[j].1 ((L s).drop o) = false) := Lib.hid (fun j hj h => by
                    by_cases h5 : j = i
                    · subst h5; exact hpr
                    · exact HPR.out j hj (by omega))
                  have hwi : IntKind.i64.wrap ((i : Int) + 1) = (i : Int) + 1 := by rw [IntKind.wrap_i64]; omega
                  clear hpr hTX
                  go_wp2_with fail
                  go_quiet (first | (go_at_call 66; exact (has_any s tx o false _ HF.out).mono fun _ _ h => ⟨h.1, _, h.2⟩))
                  go_wp2
                  go_roundw
                  case rel => exact ⟨i + 1, by go_num, by omega, Lib.hid (HRB.out.drewN _), Lib.hid (HBB.out.drewN _), HNX⟩
                  case measure => simp only [intOf]; omega
                | true =>
                  have HF : Hid (Lib.hasPrefix ((L s).drop o) (L tx) = true) := Lib.hid (by rw [hTX, hpr])
                  have htz : tx.size = signs[i].1.length := by rw [HTX.out, sgB_size]
                  have htl := pre_len hpr
                  rw [List.length_drop, L_len] at htl
                  have HNX : Hid (next ((L s).drop o) = .tok kd opn [] 0 ((L s).drop (o + tx.size))) := Lib.hid (by
                    rw [HNS.out, sign_found hil hpr (fun j hj => HPR.out j _ hj), ← HKD.out, ← HOP.out, List.drop_drop, htz])
                  have hwe : IntKind.i64.wrap ((o : Int) + (tx.size : Int)) = (o : Int) + (tx.size : Int) := by rw [IntKind.wrap_i64]; omega
                  have htz2 : o + tx.size ≤ s.size := by omega
                  clear hpr hTX htz htl
                  go_wp2_with fail
                  go_quiet (first | (go_at_call 66; exact (has_any s tx o true _ HF.out).mono fun _ _ h => ⟨h.1, _, h.2⟩))
                  generalize hwC : wB.drewN nq = wC
                  have HRC : Hid (RdB wC X s o) := Lib.hid (by rw [← hwC]; exact HRB.out.drewN _)
                  have HBC : Hid (Bes X w1 wC) := Lib.hid (by rw [← hwC]; exact HBB.out.drewN _)
                  have hbx : wC.heap[wr.heap.size]? = some (.cells #[.string tx, .int .i64 (kd : Int), .int .i64 (opn : Int)] 124) := by rw [← hwC]; exact HBX.out
                  have x0'' : wC.cell? ⟨wr.heap.size, 0, none⟩ = some (.string tx) := by simp only [World.cell?, hbx]; rfl
                  obtain ⟨m0, m1⟩ := HRC.out.rd
                  have mf := HRC.out.froz
                  have HBXC := Lib.hid hbx
                  clear hwC t0 t1 x0' hbx
                  go_upto_region 19 with fail
                  obtain ⟨w5, hw5⟩ : ∃ w5, w5 = wC.setCell ⟨X, 1, none⟩ (.int .i64 ((o : Int) + (tx.size : Int))) := ⟨_, rfl⟩
                  rw [← hw5]
                  have HR5 : Hid (RdB w5 X s (o + tx.size)) := Lib.hid (by rw [hw5]; exact RdB.set' HRC.out (by omega))
                  have HB5 : Hid (Bes X w1 w5) := Lib.hid (by rw [hw5]; exact HBC.out.set (.inl rfl) _)
                  have q1 : w5.heap[w.heap.size]? = some (.cells #[.int .i64 0, .string noS, .int .i64 0, .int .i64 0, .int .i64 0, .int .i64 0] 62) := (HB5.out.block _ (by omega) (by omega)).trans P1.out
                  have q2 : w5.heap[w.heap.size + 1]? = some (.cells #[.int .i64 0, .int .i64 0, .int .i64 0] 27) := (HB5.out.block _ (by omega) (by omega)).trans P2.out
                  have hb5 : w5.heap[wr.heap.size]? = some (.cells #[.string tx, .int .i64 (kd : Int), .int .i64 (opn : Int)] 124) := by
                    rw [hw5, Below.heap_setCell _ _ _ _ (show wr.heap.size ≠ X by have := HR4.out.lt; omega)]; exact HBXC.out
                  have z1 : w5.cell? ⟨X, 1, none⟩ = some (.int .i64 ((o : Int) + (tx.size : Int))) := HR5.out.rd.2
                  have e1 : w5.cell? ⟨wr.heap.size, 1, none⟩ = some (.int .i64 (kd : Int)) := by simp only [World.cell?, hb5]; rfl
                  have e2 : w5.cell? ⟨wr.heap.size, 2, none⟩ = some (.int .i64 (opn : Int)) := by simp only [World.cell?, hb5]; rfl
                  obtain ⟨a0, a1, a2, a3, a4, a5, v0, v1, v2, v3, v4, v5⟩ := row6 q1
                  obtain ⟨c0, c1, c2, d0, d1, d2⟩ := row3 q2
                  have Q1 := Lib.hid q1
                  have Q2 := Lib.hid q2
                  clear q1 q2 hw5 m0 m1 mf x0'' hb5
                  go_region
                  obtain ⟨g1, g2⟩ := nine_set (x0 := .int .i64 (kd : Int)) (x1 := .string noS) (x2 := .int .i64 0) (x3 := .int .i64 (opn : Int)) (x4 := .int .i64 (o : Int)) (x5 := .int .i64 ((o : Int) + (tx.size : Int))) (y0 := .int .i64 0) (y1 := .int .i64 0) (y2 := .int .i64 0) Q1.out Q2.out
                  have G1 : Hid ((nine w5 w.heap.size (w.heap.size + 1) (.int .i64 (kd : Int)) (.string noS) (.int .i64 0) (.int .i64 (opn : Int)) (.int .i64 (o : Int)) (.int .i64 ((o : Int) + (tx.size : Int))) (.int .i64 0) (.int .i64 0) (.int .i64 0)).drew.heap[w.heap.size]? = some (.cells #[.int .i64 (kd : Int), .string noS, .int .i64 0, .int .i64 (opn : Int), .int .i64 (o : Int), .int .i64 ((o : Int) + (tx.size : Int))] 62)) := Lib.hid (by rw [drew_heap]; exact g1)
                  have G2 : Hid ((nine w5 w.heap.size (w.heap.size + 1) (.int .i64 (kd : Int)) (.string noS) (.int .i64 0) (.int .i64 (opn : Int)) (.int .i64 (o : Int)) (.int .i64 ((o : Int) + (tx.size : Int))) (.int .i64 0) (.int .i64 0) (.int .i64 0)).drew.heap[w.heap.size + 1]? = some (.cells #[.int .i64 0, .int .i64 0, .int .i64 0] 27)) := Lib.hid (by rw [drew_heap]; exact g2)
                  have hfin := tok_end (X := X) (o := o) (kind := kd) (op := opn) (t := noS) (E := o + tx.size) (w := w) HNX.out rfl (by rw [List.length_drop, L_len]; omega) (nine_rd (B := w.heap.size) (C := w.heap.size + 1) (x0 := .int .i64 (kd : Int)) (x1 := .string noS) (x2 := .int .i64 0) (x3 := .int .i64 (opn : Int)) (x4 := .int .i64 (o : Int)) (x5 := .int .i64 ((o : Int) + (tx.size : Int))) (y0 := .int .i64 0) (y1 := .int .i64 0) (y2 := .int .i64 0) HR5.out (by omega) (by omega)) (nine_bes (P0.out.trans HB5.out) (by omega) (by omega))
                  have HFIN := Lib.hid hfin.drew
                  clear g1 g2 hfin
                  go_wp2
                  refine bodyPost_ret (results_two_rows rfl _ _ w.heap.size (w.heap.size + 1) 62 27 _ _ (0, 0) (0, 0) _ _ rfl G1.out Tryz.underlying62 rfl Tryz.size32 rfl G2.out Tryz.underlying27 rfl Tryz.size25) rfl ?_
                  rw [HNA.out]
                  exact HFIN.out
              · have k5 : i = 11 := by omega
                have HNX : Hid (next ((L s).drop o) = .fault 10 ((L s).drop o)) := Lib.hid (by
                  rw [HNS.out]
                  exact sign_none (fun j hj => HPR.out j hj (by rw [signs_len] at hj; omega)))
                have HNX2 : Hid ((nextAt (L s) p).2 = .fault 10 ((L s).drop o)) := Lib.hid (by rw [HNA.out]; exact HNX.out)
                have hwz := HB4.out.size
                clear k5
                go_wp2_with fail
                refine (fault_any X 10 o _).mono ?_
                rintro e w2 ⟨he, hb⟩
                have he2 : e = .returned (.tuple #[.agg #[.int .i64 0, .string noS, .int .i64 0, .int .i64 0, .int .i64 0, .int .i64 0], .agg #[.int .i64 10, .int .i64 0, .int .i64 (o : Int)]]) := he
                subst he2
                clear he
                have q1 : w2.heap[w.heap.size]? = some (.cells #[.int .i64 0, .string noS, .int .i64 0, .int .i64 0, .int .i64 0, .int .i64 0] 62) := by
                  rw [hb.block w.heap.size (by have := HB4.out.size; omega)]
                  exact (HB4.out.block _ (by omega) (by omega)).trans P1.out
                have q2 : w2.heap[w.heap.size + 1]? = some (.cells #[.int .i64 0, .int .i64 0, .int .i64 0] 27) := by
                  rw [hb.block (w.heap.size + 1) (by have := HB4.out.size; omega)]
                  exact (HB4.out.block _ (by omega) (by omega)).trans P2.out
                obtain ⟨a0, a1, a2, a3, a4, a5, b0, b1, b2, b3, b4, b5⟩ := row6 q1
                obtain ⟨c0, c1, c2, d0, d1, d2⟩ := row3 q2
                obtain ⟨g1, g2⟩ := nine_set (x0 := .int .i64 0) (x1 := .string noS) (x2 := .int .i64 0) (x3 := .int .i64 0) (x4 := .int .i64 0) (x5 := .int .i64 0) (y0 := .int .i64 10) (y1 := .int .i64 0) (y2 := .int .i64 (o : Int)) q1 q2
                have G1 := Lib.hid g1
                have G2 := Lib.hid g2
                have HB : Hid (Bes X w (nine w2 w.heap.size (w.heap.size + 1) (.int .i64 0) (.string noS) (.int .i64 0) (.int .i64 0) (.int .i64 0) (.int .i64 0) (.int .i64 10) (.int .i64 0) (.int .i64 (o : Int)))) := Lib.hid (nine_bes ((P0.out.trans HB4.out).trans (Bes.of hb)) (by omega) (by omega))
                clear g1 g2 q1 q2 hb
                go_wp2
                refine bodyPost_ret (results_two_rows rfl _ _ w.heap.size (w.heap.size + 1) 62 27 _ _ (0, 0) (0, 0) _ _ rfl G1.out Tryz.underlying62 rfl Tryz.size32 rfl G2.out Tryz.underlying27 rfl Tryz.size25) rfl ?_
                exact fault_end HNX2.out (by rw [List.length_drop, L_len]; omega) HB.out
    · have k1 : ((o : Int) == (s.size : Int)) = true := by simp; omega
      have heq : o = s.size := by omega
      have HNX : Hid (next ((L s).drop o) = .fin) := Lib.hid (by rw [heq, L_end]; rfl)
      have q1 : w2.heap[w.heap.size]? = some (.cells #[.int .i64 0, .string noS, .int .i64 0, .int .i64 0, .int .i64 0, .int .i64 0] 62) := (HB2.out.block _ (by omega) (by omega)).trans P1.out
      have q2 : w2.heap[w.heap.size + 1]? = some (.cells #[.int .i64 0, .int .i64 0, .int .i64 0] 27) := (HB2.out.block _ (by omega) (by omega)).trans P2.out
      obtain ⟨a0, a1, a2, a3, a4, a5, v0, v1, v2, v3, v4, v5⟩ := row6 q1
      obtain ⟨c0, c1, c2, d0, d1, d2⟩ := row3 q2
      obtain ⟨g1, g2⟩ := nine_set (x0 := .int .i64 0) (x1 := .string noS) (x2 := .int .i64 0) (x3 := .int .i64 0) (x4 := .int .i64 (o : Int)) (x5 := .int .i64 (o : Int)) (y0 := .int .i64 0) (y1 := .int .i64 0) (y2 := .int .i64 0) q1 q2
      have G1 := Lib.hid g1
      have G2 := Lib.hid g2
      have HEQ := Lib.hid heq
      clear g1 g2 q1 q2 heq
      go_wp2
      refine bodyPost_ret (results_two_rows rfl _ _ w.heap.size (w.heap.size + 1) 62 27 _ _ (0, 0) (0, 0) _ _ rfl G1.out Tryz.underlying62 rfl Tryz.size32 rfl G2.out Tryz.underlying27 rfl Tryz.size25) rfl ?_
      rw [HNA.out]
      show TokIs s X o w (next ((L s).drop o)) _ _
      rw [HNX.out]
      refine ⟨by rw [← HEQ.out]; rfl, nine_bes (P0.out.trans HB2.out) (by omega) (by omega)⟩
end Go.Proofs.YtncdjkdpoinfaaaGreatDoor
/-
  The walk of the function that lex.Scan hands to lex.Each: a token more. Conditions: the list lies in memory of its own.
-/
namespace Go.Proofs.YtncdjkdpoinfaaaGreatDoor
open Go.RowKit Go.Shelf Pl

/-- Of what there was, some blocks alone may have turned. -/
structure Oth (ex : Nat → Prop) (w w' : World) : Prop where
  os : w'.os = w.os
  tape : w'.tape = w.tape
  output : w'.output = w.output
  size : w.heap.size ≤ w'.heap.size
  block : ∀ k, k < w.heap.size → ¬ ex k → w'.heap[k]? = w.heap[k]?
/-- A token's cells. -/
def tkV (t : Tk) : List Value := [.int .i64 (t.kind : Int), .string ⟨t.text.toArray⟩, .int .i64 t.int, .int .i64 (t.op : Int), .int .i64 (t.off : Int), .int .i64 (t.fin : Int)]
def flatT (ts : List Tk) : List Value := ts.flatMap tkV
theorem flatT_len (ts : List Tk) : (flatT ts).length = ts.length * 6 := by
  induction ts with
  | nil => rfl
  | cons t ts ih => simp only [flatT, List.flatMap_cons, List.length_append, List.length_cons] at ih ⊢; rw [ih]; simp only [tkV, List.length_cons, List.length_nil]; omega
theorem flatT_snoc (ts : List Tk) (t : Tk) : flatT (ts ++ [t]) = flatT ts ++ tkV t := by simp [flatT]
theorem tkV_one (t : Tk) : ∀ u ∈ tkV t, u.oneCell' = true := by
  intro u hu
  simp only [tkV, List.mem_cons, List.not_mem_nil, or_false] at hu
  rcases hu with rfl | rfl | rfl | rfl | rfl | rfl <;> rfl
theorem Tryz.info62 : (Tryz.prog.info? 62).map (fun i => (i.zero, i.size, i.bytes)) = some (some (.agg #[.int .i64 0, .string noS, .int .i64 0, .int .i64 0, .int .i64 0, .int .i64 0]), 6, 56) := by kernel_rfl

theorem clo_after {C n : Nat} {w w5 : World} {v v' : Value} {xs ys : List Value} {o p : Obj} (hC : w.heap[C]? = some (.cells #[v] 36)) (hown : w.ownsRow (C + 1) 62 6 v n xs)
    (hown' : w5.ownsRow (C + 1) 62 6 v' (n + 1) ys) (hgrow : ((w.alloc o).alloc p).grownBy w5 v.ownBlock) :
    Hid (w5.cell? ⟨C, 0, none⟩ = some v ∧ w5.frozen? ⟨C, 0, none⟩ = false ∧ (∀ u : Value, (w5.setCell ⟨C, 0, none⟩ u).heap[C]? = some (.cells #[u] 36)) ∧ (∀ u : Value, (w5.setCell ⟨C, 0, none⟩ u).ownsRow (C + 1) 62 6 v' (n + 1) ys) ∧
      ∀ u : Value, Oth (fun k => k = C ∨ some k = v.ownBlock) w (w5.setCell ⟨C, 0, none⟩ u)) := by
  have hCz : C < w.heap.size := (Array.getElem?_eq_some_iff.1 hC).1
  have hv := World.ownsRow.lt hown
  have hblk : ∀ k, k < w.heap.size → some k ≠ v.ownBlock → w5.heap[k]? = w.heap[k]? := fun k hk hne => by
    rw [hgrow.block k (by simp; omega) hne, Below.heap_alloc _ _ _ (by simp; omega), Below.heap_alloc _ _ _ hk]
  have h5 : w5.heap[C]? = some (.cells #[v] 36) := by
    rw [hblk C hCz (fun e => by have := (hv C e.symm).1; omega)]; exact hC
  refine ⟨by simp only [World.cell?, h5]; rfl, by simp only [World.frozen?, h5]; rfl, fun u => ?_, fun u => ?_, fun u => ?_⟩
  · simp [World.setCell, Array.getElem?_modify, h5]
  · exact ownsRow_setCell_below hown' (by simp) u
  · refine ⟨hgrow.os, hgrow.tape, hgrow.output, by have := hgrow.size; simp [World.setCell] at this ⊢; omega, fun k hk hx => ?_⟩
    rw [Below.heap_setCell _ _ _ _ (fun e => hx (.inl e))]
    exact hblk k hk (fun e => hx (.inr e))

set_option maxRecDepth 100000 in
set_option maxHeartbeats 3200000 in
theorem clo_any (C : Nat) (w : World) (v : Value) (ts : List Tk) (t : Tk) (hC : w.heap[C]? = some (.cells #[v] 36)) (hown : w.ownsRow (C + 1) 62 6 v ts.length (flatT ts)) (hn : ts.length ≤ 70000) :
    Calls Tryz.prog 39 #[.agg #[.int .i64 (t.kind : Int), .string ⟨t.text.toArray⟩, .int .i64 t.int, .int .i64 (t.op : Int), .int .i64 (t.off : Int), .int .i64 (t.fin : Int)], .pointer (some ⟨C, 0, none⟩)] w fun e w' =>
      e = .returned (.bool true) ∧ (∃ v', w'.heap[C]? = some (.cells #[v'] 36) ∧ w'.ownsRow (C + 1) 62 6 v' (ts.length + 1) (flatT (ts ++ [t]))) ∧ Oth (fun k => k = C ∨ some k = v.ownBlock) w w' := by
  obtain ⟨i32, bi, b0, b1, b2⟩ := info_parts Tryz.info62
  have hCz : C < w.heap.size := (Array.getElem?_eq_some_iff.1 hC).1
  have c0 : w.cell? ⟨C, 0, none⟩ = some v := by simp only [World.cell?, hC]; rfl
  have f0 : w.frozen? ⟨C, 0, none⟩ = false := by simp only [World.frozen?, hC]; rfl
  have HC := Lib.hid hC
  have HO := Lib.hid hown
  clear hC hown
  obtain ⟨kd, hkd⟩ : ∃ kd : Int, kd = (t.kind : Int) := ⟨_, rfl⟩
  obtain ⟨tx, htx⟩ : ∃ tx : ByteArray, tx = ⟨t.text.toArray⟩ := ⟨_, rfl⟩
  obtain ⟨iv, hiv⟩ : ∃ iv : Int, iv = t.int := ⟨_, rfl⟩
  obtain ⟨ov, hov⟩ : ∃ ov : Int, ov = (t.op : Int) := ⟨_, rfl⟩
  obtain ⟨fv, hfv⟩ : ∃ fv : Int, fv = (t.off : Int) := ⟨_, rfl⟩
  obtain ⟨ev, hev⟩ : ∃ ev : Int, ev = (t.fin : Int) := ⟨_, rfl⟩
  rw [← hkd, ← htx, ← hiv, ← hov, ← hfv, ← hev]
  have HTK : Hid (tkV t = [.int .i64 kd, .string tx, .int .i64 iv, .int .i64 ov, .int .i64 fv, .int .i64 ev]) := Lib.hid (by rw [hkd, htx, hiv, hov, hfv, hev]; rfl)
  have HT1 := Lib.hid (tkV_one t)
  rw [HTK.out] at HT1
  clear hkd htx hiv hov hfv hev
  have hh1 := World.ownsRow.alloc (World.ownsRow.alloc HO.out (.cells #[.int .i64 kd, .string tx, .int .i64 iv, .int .i64 ov, .int .i64 fv, .int .i64 ev] 62)) (.cells #[.int .i64 kd, .string tx, .int .i64 iv, .int .i64 ov, .int .i64 fv, .int .i64 ev] 62)
  have hzA : (w.alloc (.cells #[.int .i64 kd, .string tx, .int .i64 iv, .int .i64 ov, .int .i64 fv, .int .i64 ev] 62)).heap.size = w.heap.size + 1 := by simp
  have HH1 := Lib.hid hh1
  have hh5 : ts.length + 1 ≤ maxLen := by unfold maxLen; omega
  have hh4 : (ts.length + 1) * 56 ≤ 140737488355328 := by omega
  have hh3 : C + 1 ≤ ((w.alloc (.cells #[.int .i64 kd, .string tx, .int .i64 iv, .int .i64 ov, .int .i64 fv, .int .i64 ev] 62)).alloc (.cells #[.int .i64 kd, .string tx, .int .i64 iv, .int .i64 ov, .int .i64 fv, .int .i64 ev] 62)).heap.size := by simp; omega
  clear hh1
  go_enter Tryz.func39, Tryz.ntmps39
  go_wp2_with (at_builtin; refine wpList_append_own _ rfl _ _ 36 rfl (C + 1) 62 i32 (.agg #[.int .i64 0, .string noS, .int .i64 0, .int .i64 0, .int .i64 0, .int .i64 0]) 6 56 Tryz.underlying36 bi b0 b1 b2 rfl (by decide) v ts.length (flatT ts) rfl HH1.out ⟨w.heap.size + 1, 0, none⟩ 1 1 [.int .i64 kd, .string tx, .int .i64 iv, .int .i64 ov, .int .i64 fv, .int .i64 ev] rfl rfl (by rw [← hzA]; exact World.news_of_block (cs := #[.int .i64 kd, .string tx, .int .i64 iv, .int .i64 ov, .int .i64 fv, .int .i64 ev]) (t := 62) (fr := (0, 0)) (heap_alloc_new _ _)) HT1.out hh5 hh4 hh3 ?_; intro v' w5 hown' hgrow hnl; have HP := clo_after HC.out HO.out hown' hgrow; have z0 := HP.out.1; have zf := HP.out.2.1; obtain ⟨g', c', rfl⟩ := Joins.ownsRow_form hown' (by omega))
  go_ret
  refine ⟨rfl, ⟨.slice (some ⟨g', 0, none⟩) (ts.length + 1) c', ?_, ?_⟩, ?_⟩
  · exact HP.out.2.2.1 _
  · rw [flatT_snoc, HTK.out]; exact HP.out.2.2.2.1 _
  · exact HP.out.2.2.2.2 _
end Go.Proofs.YtncdjkdpoinfaaaGreatDoor
/-
  The walk of lex.Each at the function that lex.Scan hands to it. Conditions: the text is at most 65536 bytes long; the list lies in memory of its own; the variables hold what the program's text lays.
-/
namespace Go.Proofs.YtncdjkdpoinfaaaGreatDoor
open Go.RowKit Go.Shelf Pl

theorem of_L {t : ByteArray} {l : List UInt8} (h : L t = l) : t = ⟨l.toArray⟩ := by
  cases t with
  | mk d => rw [← h]; simp [L]
theorem fault_code {r a : List UInt8} {c : Nat} (h : next r = .fault c a) : c ≠ 0 ∧ c ≤ 16 := by
  unfold next at h
  repeat' split at h
  all_goals try (cases h; done)
  all_goals
    first
      | (unfold nextInt at h; repeat' split at h)
      | (unfold nextWord at h; repeat' split at h)
      | (unfold nextText at h; repeat' split at h)
      | (unfold nextSign at h; repeat' split at h)
  all_goals (first | (cases h; done) | (cases h; omega))
theorem tok_kind {r text rest : List UInt8} {kind op : Nat} {int : Int} (h : next r = .tok kind op text int rest) : kind ≠ 0 ∧ rest.length < r.length := by
  obtain ⟨w, h1, h2, h3, _⟩ := next_tok h
  constructor
  · cases h3 with
    | int => omega
    | no => omega
    | name => omega
    | var => omega
    | text => omega
    | sign w p kind op hm hw =>
      simp only [signs, List.mem_cons, Prod.mk.injEq, List.not_mem_nil, or_false] at hm
      omega
  · rw [h1, List.length_append]
    cases w with
    | nil => exact absurd rfl h2
    | cons => simp
def tkA (t : Tk) : Value := .agg #[.int .i64 (t.kind : Int), .string ⟨t.text.toArray⟩, .int .i64 t.int, .int .i64 (t.op : Int), .int .i64 (t.off : Int), .int .i64 (t.fin : Int)]
/-- What comes next: a fault, the end, or a token. -/
theorem next_cases {s : ByteArray} {X p : Nat} {w w' : World} {e : Ending} {rest : List Tk} {f : Nat × Nat} (hp : p ≤ s.size) (h : Sc (L s) p rest f) (ht : TokIs s X (nextAt (L s) p).1 w (nextAt (L s) p).2 e w') :
    (∃ c q : Nat, c ≠ 0 ∧ f = (c, q) ∧ rest = [] ∧ e = .returned (.tuple #[TokV 0 noS 0 0 0 0, FaultV c q])) ∨
    ∃ (t : Tk) (ts' : List Tk), rest = t :: ts' ∧ e = .returned (.tuple #[tkA t, FaultV 0 0]) ∧
      ((t.kind = 0 ∧ ts' = [] ∧ f = (0, 0)) ∨ (t.kind ≠ 0 ∧ ∃ p', p < p' ∧ p' ≤ s.size ∧ RdB w' X s p' ∧ Sc (L s) p' ts' f)) := by
  cases h with
  | openC p st h1 =>
    have hN : nextAt (L s) p = (0, .fault 16 st) := by unfold nextAt; rw [h1]
    rw [hN] at ht
    exact .inl ⟨16, _, by omega, rfl, rfl, by rw [L_len]; exact ht.1⟩
  | fin p h1 =>
    have hN : nextAt (L s) p = (s.size, .fin) := by unfold nextAt; rw [h1]; simp only [L_len, List.length_nil, Nat.sub_zero]; rfl
    rw [hN] at ht
    refine .inr ⟨_, [], rfl, ?_, .inl ⟨rfl, rfl, rfl⟩⟩
    rw [ht.1, L_len]; rfl
  | fault p r a code h1 h2 =>
    have hN : nextAt (L s) p = (s.size - r.length, .fault code a) := by unfold nextAt; rw [h1]; simp only [L_len, h2]
    rw [hN] at ht
    exact .inl ⟨code, _, (fault_code h2).1, rfl, rfl, by rw [L_len]; exact ht.1⟩
  | tok p r rest' text kind op int ts f h1 h2 h3 =>
    have hN : nextAt (L s) p = (s.size - r.length, .tok kind op text int rest') := by unfold nextAt; rw [h1]; simp only [L_len, h2]
    rw [hN] at ht
    obtain ⟨⟨t, e1, e2, e3⟩, _⟩ := ht
    obtain ⟨k1, k2⟩ := tok_kind h2
    have hg := (gap_place h1).2
    rw [L_len] at hg
    refine .inr ⟨_, ts, rfl, ?_, .inr ⟨k1, s.size - rest'.length, by omega, by omega, e3, ?_⟩⟩
    · rw [e2, L_len, of_L e1]; rfl
    · rw [L_len] at h3; exact h3

/-- Memory while lex.Each runs: the list so far, the result's cell; below the list's variable nothing has turned. -/
structure OuS (C R : Nat) (w0 : World) (done : List Tk) (w : World) : Prop where
  out : ∃ v, w.heap[C]? = some (.cells #[v] 36) ∧ w.ownsRow (C + 1) 62 6 v done.length (flatT done)
  res : w.heap[R]? = some (.cells #[.int .i64 0, .int .i64 0, .int .i64 0] 27)
  low : Below C w0 w
section
variable {s : ByteArray} {X C R p q : Nat} {w0 w w' : World} {done : List Tk}
theorem own_oth {base n : Nat} {v : Value} {xs : List Value} (h : w.ownsRow base 62 6 v n xs) (hb : ∀ (k : Nat) (c : Array Value), w.heap[k]? = some (Obj.cells c 62 (0, 0)) → w'.heap[k]? = w.heap[k]?) : w'.ownsRow base 62 6 v n xs := by
  obtain ⟨h1, h2⟩ := h
  refine ⟨h1, ?_⟩
  rcases h2 with h2 | ⟨g, cap, cur, hv, hg, hh, r⟩
  · exact Or.inl h2
  · exact Or.inr ⟨g, cap, cur, hv, hg, by rw [hb g cur hh]; exact hh, r⟩
theorem OuS.bes (h : OuS C R w0 done w) (hb : Bes X w w') (hr : RdB w X s p) (hCX : C < X) (hRX : R ≠ X) : OuS C R w0 done w' := by
  obtain ⟨v, h1, h2⟩ := h.out
  refine ⟨⟨v, ?_, ?_⟩, ?_, h.low.trans (hb.below (by omega) (by have := hr.lt; omega))⟩
  · rw [hb.block C (by have := hr.lt; omega) (by omega)]; exact h1
  · refine own_oth h2 (fun k c hk => hb.block k (Array.getElem?_eq_some_iff.1 hk).1 (fun e => ?_))
    unfold RdB at hr
    rw [e, hr] at hk
    simp at hk
  · rw [hb.block R (Array.getElem?_eq_some_iff.1 h.res).1 hRX]; exact h.res
theorem OuS.up (h : OuS C R w0 done w) (hb : Below w.heap.size w w') (hC : C < w.heap.size) : OuS C R w0 done w' := by
  obtain ⟨v, h1, h2⟩ := h.out
  refine ⟨⟨v, by rw [hb.block C hC]; exact h1, own_oth h2 (fun k c hk => hb.block k (Array.getElem?_eq_some_iff.1 hk).1)⟩, by rw [hb.block R (Array.getElem?_eq_some_iff.1 h.res).1]; exact h.res, h.low.trans (hb.mono (by omega))⟩
theorem own_type {v : Value} {base n : Nat} {xs : List Value} (ho : w.ownsRow base 62 6 v n xs) : ∀ k, v.ownBlock = some k → ∃ c, w.heap[k]? = some (.cells c 62 (0, 0)) := by
  intro k hk
  rcases ho.2 with ⟨rfl, _⟩ | ⟨g, cap, cur, rfl, hg, hh, r⟩
  · cases hk
  · simp [Value.ownBlock] at hk; subst hk; exact ⟨cur, hh⟩
theorem RdB.push {v : Value} {n : Nat} {xs : List Value} (hr : RdB w X s p) (ho : w.ownsRow (C + 1) 62 6 v n xs) (hCX : C < X) (h2 : Oth (fun k => k = C ∨ some k = v.ownBlock) w w') : RdB w' X s p := by
  unfold RdB
  rw [h2.block X hr.lt (fun hx => by
    rcases hx with hx | hx
    · omega
    · obtain ⟨c, hc⟩ := own_type ho X hx.symm
      unfold RdB at hr
      rw [hr] at hc; simp at hc)]
  exact hr
theorem OuS.push {v : Value} {t : Tk} (h : OuS C R w0 done w) (hv : w.heap[C]? = some (.cells #[v] 36)) (ho : w.ownsRow (C + 1) 62 6 v done.length (flatT done)) (hCR : C < R)
    (h1 : ∃ v', w'.heap[C]? = some (.cells #[v'] 36) ∧ w'.ownsRow (C + 1) 62 6 v' (done.length + 1) (flatT (done ++ [t]))) (h2 : Oth (fun k => k = C ∨ some k = v.ownBlock) w w') : OuS C R w0 (done ++ [t]) w' := by
  have hl := World.ownsRow.lt ho
  refine ⟨by rw [List.length_append]; exact h1, ?_, ?_⟩
  · rw [h2.block R (Array.getElem?_eq_some_iff.1 h.res).1 (fun hx => by
      rcases hx with hx | hx
      · omega
      · obtain ⟨c, hc⟩ := own_type ho R hx.symm
        rw [h.res] at hc; simp at hc)]
    exact h.res
  · have hC := (Array.getElem?_eq_some_iff.1 hv).1
    refine h.low.trans ⟨h2.os, h2.tape, h2.output, h2.size, fun k hk => h2.block k (by omega) (fun hx => ?_)⟩
    rcases hx with hx | hx
    · omega
    · have := (hl k hx.symm).1; omega
theorem OuS.fin {x y z : Value} (h : OuS C R w0 done w) (hCR : C < R) :
    (∃ v, (((w.setCell ⟨R, 0, none⟩ x).setCell ⟨R, 1, none⟩ y).setCell ⟨R, 2, none⟩ z).heap[C]? = some (.cells #[v] 36) ∧ (((w.setCell ⟨R, 0, none⟩ x).setCell ⟨R, 1, none⟩ y).setCell ⟨R, 2, none⟩ z).ownsRow (C + 1) 62 6 v done.length (flatT done)) ∧
      Below C w0 (((w.setCell ⟨R, 0, none⟩ x).setCell ⟨R, 1, none⟩ y).setCell ⟨R, 2, none⟩ z) := by
  have hk : ∀ k, k ≠ R → (((w.setCell ⟨R, 0, none⟩ x).setCell ⟨R, 1, none⟩ y).setCell ⟨R, 2, none⟩ z).heap[k]? = w.heap[k]? := fun k h2 => by
    rw [Below.heap_setCell _ _ _ _ h2, Below.heap_setCell _ _ _ _ h2, Below.heap_setCell _ _ _ _ h2]
  obtain ⟨v, h1, h2⟩ := h.out
  refine ⟨⟨v, by rw [hk C (by omega)]; exact h1, own_oth h2 (fun k c hc => hk k (fun e => ?_))⟩, ?_⟩
  · rw [e, h.res] at hc; simp at hc
  · exact ((h.low.setCell (by simp; omega) _).setCell (by simp; omega) _).setCell (by simp; omega) _
end
theorem sc_len {l : List UInt8} {p : Nat} {ts : List Tk} {f : Nat × Nat} (h : Sc l p ts f) (hp : p ≤ l.length) : ts.length ≤ l.length - p + 1 := by
  induction h with
  | openC => simp
  | fin => simp
  | fault => simp
  | tok p r rest text kind op int ts f h1 h2 h3 ih =>
    have hg := (gap_place h1).2
    have hk := (tok_kind h2).2
    have := ih (by omega)
    simp only [List.length_cons]
    omega

set_option maxRecDepth 100000 in
set_option maxHeartbeats 3200000 in
theorem each_any (s : ByteArray) (C B : Nat) (ts : List Tk) (f : Nat × Nat) (w : World) (hs : s.size ≤ 65536) (hSc : Sc (L s) 0 ts f) (hC : w.heap[C]? = some (.cells #[.slice none 0 0] 36)) (hG : Gl B w) (hBC : B ≤ C) :
    Calls Tryz.prog 38 #[.string s, .func (.func 39) #[] #[.pointer (some ⟨C, 0, none⟩)]] w fun e w' => e = .returned (FaultV f.1 f.2) ∧ (∃ v, w'.heap[C]? = some (.cells #[v] 36) ∧ w'.ownsRow (C + 1) 62 6 v ts.length (flatT ts)) ∧ Below C w w' := by
  have hCz : C < w.heap.size := (Array.getElem?_eq_some_iff.1 hC).1
  have htl := sc_len hSc (Nat.zero_le _)
  rw [L_len] at htl
  have hgt : decide ((s.size : Int) > 65536) = false := decide_eq_false (by omega)
  obtain ⟨X, hX⟩ : ∃ X, X = w.heap.size + 1 := ⟨_, rfl⟩
  have HSC := Lib.hid hSc
  have HG := Lib.hid hG
  have HR0 : Hid (RdB ((w.alloc (.cells #[.int .i64 0, .int .i64 0, .int .i64 0] 27)).alloc (.cells #[.string s, .int .i64 0] 107)) X s 0) := Lib.hid (by rw [hX]; exact (two_heap _ _ rfl).2)
  have H0 : Hid (OuS C w.heap.size w [] ((w.alloc (.cells #[.int .i64 0, .int .i64 0, .int .i64 0] 27)).alloc (.cells #[.string s, .int .i64 0] 107))) := Lib.hid (by
    refine ⟨⟨.slice none 0 0, ?_, World.ownsRow_nil _ _ _ _⟩, ?_, ((Below.refl _ _).alloc (by omega) _).alloc (by simp; omega) _⟩
    · rw [Below.heap_alloc _ _ _ (by simp; omega), Below.heap_alloc _ _ _ hCz]; exact hC
    · exact (two_heap _ _ rfl).1)
  have HRUN : ∀ W : World, Sem.run Tryz.prog (binOp BinOp.neq 92 (Value.func (.func 39) #[] #[.pointer (some ⟨C, 0, none⟩)]) Value.nilFunc) W = .ok (.bool true) W := fun W => by kernel_rfl
  have HRN := Lib.hid HRUN
  have hCX : C < X := by omega
  have hRX : w.heap.size ≠ X := by omega
  have hBX : B ≤ X := by omega
  clear hSc hG hC HRUN
  go_enter Tryz.func38, Tryz.ntmps38
  go_wp2
  rw [← hX]
  have HX := Lib.hid hX
  clear hX
  go_loopw [] (fun wr => ∃ (p : Nat) (done rest : List Tk), p ≤ s.size ∧ Hid (RdB wr X s p) ∧ Hid (OuS C w.heap.size w done wr) ∧ Hid (Sc (L s) p rest f) ∧ Hid (done ++ rest = ts)) (fun wr => s.size - atOf wr X)
  case atStart => exact ⟨0, [], ts, Nat.zero_le _, HR0, H0, HSC, Lib.hid rfl⟩
  case round =>
    obtain ⟨p, done, rest, hp, HR, HS, HSc, HT⟩ := hrel
    have HA := Lib.hid HR.out.atOf
    have hdl : done.length ≤ 65537 := by
      have := congrArg List.length HT.out
      rw [List.length_append] at this; omega
    have hwrz : w.heap.size < wr.heap.size := (Array.getElem?_eq_some_iff.1 HS.out.res).1
    go_wp2_with fail
    refine (next_any s p X B _ hs hp HR.out (HG.out.below (HS.out.low.mono hBC)) hBX).mono ?_
    rintro e w4 ht
    obtain ⟨_, _, _, _, _, _, _, _, _, hb4⟩ := ht.form
    have H4 := Lib.hid (HS.out.bes hb4 HR.out hCX hRX)
    have hw4z := hb4.size
    clear hb4
    rcases next_cases hp HSc.out ht with ⟨c, q, hc0, hf, hr, he⟩ | ⟨t, ts', hr, he, hk⟩
    · have he2 : e = .returned (.tuple #[.agg #[.int .i64 0, .string noS, .int .i64 0, .int .i64 0, .int .i64 0, .int .i64 0], .agg #[.int .i64 (c : Int), .int .i64 0, .int .i64 (q : Int)]]) := he
      subst he2
      have ec : ((c : Int) != 0) = true := by simp; omega
      have HF := Lib.hid hf
      have HDT : Hid (done = ts) := Lib.hid (by have := HT.out; rw [hr, List.append_nil] at this; exact this)
      clear he hf hr ht
      go_upto_region 6 with fail
      obtain ⟨w6, hw6⟩ : ∃ w6, w6 = (w4.alloc (.cells #[.int .i64 0, .string noS, .int .i64 0, .int .i64 0, .int .i64 0, .int .i64 0] 62)).alloc (.cells #[.int .i64 (c : Int), .int .i64 0, .int .i64 (q : Int)] 27) := ⟨_, rfl⟩
      have B6 : Below w4.heap.size w4 w6 := by rw [hw6]; exact (up_alloc _ _).alloc (by simp) _
      have H6 := Lib.hid (H4.out.up B6 (by omega))
      have q1 : w6.heap[w.heap.size]? = some (.cells #[.int .i64 0, .int .i64 0, .int .i64 0] 27) := H6.out.res
      have q2 : w6.heap[w4.heap.size + 1]? = some (.cells #[.int .i64 (c : Int), .int .i64 0, .int .i64 (q : Int)] 27) := by rw [hw6]; exact (two_heap _ _ rfl).2
      obtain ⟨a0, a1, a2, b0, b1, b2⟩ := row3 q1
      obtain ⟨c0, c1, c2, d0, d1, d2⟩ := row3 q2
      have HH := Lib.hid (three_set (x := .int .i64 (c : Int)) (y := .int .i64 0) (z := .int .i64 (q : Int)) q1)
      have HFIN := Lib.hid (OuS.fin (x := .int .i64 (c : Int)) (y := .int .i64 0) (z := .int .i64 (q : Int)) H6.out hCz)
      rw [HDT.out] at HFIN
      first | rw [← hw6] | skip
      clear q1 q2 hw6 B6
      go_wp2
      refine bodyPost_ret (results_cell_row rfl _ _ w.heap.size 27 _ (0, 0) _ rfl HH.out Tryz.underlying27 rfl Tryz.size25) rfl ?_
      exact ⟨by rw [HF.out]; rfl, HFIN.out⟩
    · have he2 : e = .returned (.tuple #[.agg #[.int .i64 (t.kind : Int), .string ⟨t.text.toArray⟩, .int .i64 t.int, .int .i64 (t.op : Int), .int .i64 (t.off : Int), .int .i64 (t.fin : Int)], .agg #[.int .i64 0, .int .i64 0, .int .i64 0]]) := he
      subst he2
      have HK := Lib.hid hk
      have HRr := Lib.hid hr
      clear he hr ht hk
      go_upto_region 7 with fail
      obtain ⟨w6, hw6⟩ : ∃ w6, w6 = (w4.alloc (.cells #[.int .i64 (t.kind : Int), .string ⟨t.text.toArray⟩, .int .i64 t.int, .int .i64 (t.op : Int), .int .i64 (t.off : Int), .int .i64 (t.fin : Int)] 62)).alloc (.cells #[.int .i64 0, .int .i64 0, .int .i64 0] 27) := ⟨_, rfl⟩
      rw [← hw6]
      have B6 : Below w4.heap.size w4 w6 := by rw [hw6]; exact (up_alloc _ _).alloc (by simp) _
      have H6 := Lib.hid (H4.out.up B6 (by omega))
      have q1 : w6.heap[w4.heap.size]? = some (.cells #[.int .i64 (t.kind : Int), .string ⟨t.text.toArray⟩, .int .i64 t.int, .int .i64 (t.op : Int), .int .i64 (t.off : Int), .int .i64 (t.fin : Int)] 62) := by rw [hw6]; exact (two_heap _ _ rfl).1
      have h6z : w6.heap.size = w4.heap.size + 2 := by rw [hw6]; simp
      have HB6 := Lib.hid B6
      have HQ1 := Lib.hid q1
      obtain ⟨a0, a1, a2, a3, a4, a5, b0, b1, b2, b3, b4, b5⟩ := row6 q1
      have hrun := HRN.out w6
      obtain ⟨v, hv6, ho6⟩ := H6.out.out
      have HV6 := Lib.hid hv6
      have HO6 := Lib.hid ho6
      have hlt6 : ∀ k, v.ownBlock = some k → k ≠ w4.heap.size := fun k hk he => by
        obtain ⟨v4, hv4, ho4⟩ := H4.out.out
        rw [B6.block C (by omega)] at hv6
        rw [hv6] at hv4
        simp at hv4
        subst hv4
        have := (World.ownsRow.lt ho4 k hk).2
        omega
      have HLT := Lib.hid hlt6
      clear hw6 B6 q1 hv6 ho6 hlt6
      go_wp2_with fail
      refine (clo_any C w6 v done t HV6.out HO6.out (by omega)).mono ?_
      rintro e w7 ⟨rfl, hpu, hot⟩
      have H7 := Lib.hid (H6.out.push HV6.out HO6.out hCz hpu hot)
      have HR7 := Lib.hid (fun q (h : RdB w6 X s q) => h.push HO6.out hCX hot)
      have q2 : w7.heap[w4.heap.size]? = some (.cells #[.int .i64 (t.kind : Int), .string ⟨t.text.toArray⟩, .int .i64 t.int, .int .i64 (t.op : Int), .int .i64 (t.off : Int), .int .i64 (t.fin : Int)] 62) := by
        rw [hot.block w4.heap.size (by omega) (fun hx => by
          rcases hx with hx | hx
          · omega
          · exact HLT.out _ hx.symm rfl)]
        exact HQ1.out
      have x0 : w7.cell? ⟨w4.heap.size, 0, none⟩ = some (.int .i64 (t.kind : Int)) := by simp only [World.cell?, q2]; rfl
      clear q2 hpu hot a0 a1 a2 a3 a4 a5 b0 b1 b2 b3 b4 b5 hrun
      by_cases hk0 : t.kind = 0
      · have ek : ((t.kind : Int) == 0) = true := by simp; omega
        have hk5 : ts' = [] ∧ f = (0, 0) := by
          rcases HK.out with h5 | h5
          · exact h5.2
          · exact absurd hk0 h5.1
        have HF := Lib.hid hk5.2
        have HDT : Hid (done ++ [t] = ts) := Lib.hid (by have := HT.out; rw [HRr.out, hk5.1] at this; exact this)
        have q1 : w7.heap[w.heap.size]? = some (.cells #[.int .i64 0, .int .i64 0, .int .i64 0] 27) := H7.out.res
        obtain ⟨a0, a1, a2, b0, b1, b2⟩ := row3 q1
        have HH := Lib.hid (three_set (x := .int .i64 0) (y := .int .i64 0) (z := .int .i64 0) q1)
        have HFIN := Lib.hid (OuS.fin (x := .int .i64 0) (y := .int .i64 0) (z := .int .i64 0) H7.out hCz)
        rw [HDT.out] at HFIN
        clear q1 hk5 hk0
        go_wp2
        refine bodyPost_ret (results_cell_row rfl _ _ w.heap.size 27 _ (0, 0) _ rfl HH.out Tryz.underlying27 rfl Tryz.size25) rfl ?_
        exact ⟨by rw [HF.out]; rfl, HFIN.out⟩
      · have ek : ((t.kind : Int) == 0) = false := by simp; omega
        obtain ⟨p', hpp, hps, hr', hsc'⟩ : ∃ p', p < p' ∧ p' ≤ s.size ∧ RdB w4 X s p' ∧ Sc (L s) p' ts' f := by
          rcases HK.out with h5 | h5
          · exact absurd h5.1 hk0
          · exact h5.2
        have HSc' := Lib.hid hsc'
        have HRD := Lib.hid (HR7.out p' (hr'.below HB6.out))
        have HT' : Hid ((done ++ [t]) ++ ts' = ts) := Lib.hid (by have := HT.out; rw [HRr.out] at this; rw [← this]; simp)
        clear hsc' hr' hk0
        go_wp2
        go_roundw
        case rel => exact ⟨p', done ++ [t], ts', hps, HRD, H7, HSc', HT'⟩
        case measure => exact at_less HA.out HRD.out hpp hps
end Go.Proofs.YtncdjkdpoinfaaaGreatDoor
