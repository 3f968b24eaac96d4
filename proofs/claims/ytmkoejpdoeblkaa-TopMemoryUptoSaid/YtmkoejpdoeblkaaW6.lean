/-
  The walk of a store's push: a row more. Conditions: the row may be there and is not; sizes within the form's own reach.
-/
import Derived.Test.YtmkoejpdoeblkaaK6
import Derived.Test.YtmkoejpdoeblkaaW5
namespace Go.Proofs.Ytmkoejpdoeblkaa
open Go.RowKit Pl

theorem Try.info63 : (Try.prog.info? 63).map (fun i => (i.zero, i.size, i.bytes)) = some (some (.agg #[.int .i64 0, .slice none 0 0, .int .i64 0]), 3, 40) := by kernel_rfl
theorem Try.info1 : (Try.prog.info? 1).map (fun i => (i.zero, i.size, i.bytes)) = some (some .nilFunc, 1, 8) := by kernel_rfl
def PushIs (G : Nat → Rl) (X : Nat) (A : List Int) (l : List Rw) (V : SV) (w : World) (e : Ending) (w' : World) : Prop :=
  e = .returned (.tuple #[]) ∧ ∃ G' fs' V', StoreAt G' X A l fs' V' w' ∧ l.length = fs'.length ∧ V'.N = V.N + 1 ∧ V'.lv = V.lv ∧ Tr Own G w G' w'
theorem one_ent (p : Int) (a : Option Addr) (n c : Nat) (b : Int) : ∀ u ∈ [Value.int .i64 p, .slice a n c, .int .i64 b], u.oneCell' = true := by
  intro u hu
  simp only [List.mem_cons, List.not_mem_nil, or_false] at hu
  rcases hu with rfl | rfl | rfl <;> rfl

set_option maxRecDepth 100000 in
set_option maxHeartbeats 3200000 in
theorem push_any {G : Nat → Rl} {X : Nat} {A : List Int} {l : List Rw} {fs : List Value} {V : SV} {r : Rw} {y : Value} (w : World) (h : StoreAt G X A l fs V w) (hl : l.length = fs.length) (hf : fitsB A r = true) (hk : okRow r) (hnew : r ∉ l) (hN : V.N ≤ 4194304) (hy : RowIn w All y r) :
    Calls Try.prog 20 #[.pointer (some ⟨X, 0, none⟩), y] w (PushIs G X A (l ++ [r]) V w) := by
  obtain ⟨i63, ei, e0, e1, e2⟩ := info_parts Try.info63
  obtain ⟨i3, qi, q0, q1, q2⟩ := info_parts Try.info3
  obtain ⟨i1, fi, fi0, fi1, fi2⟩ := info_parts Try.info1
  obtain ⟨u, rfl, hu⟩ := hy
  obtain ⟨p, is⟩ := r
  simp only at hu
  have h8 := fits_len h.okA hf
  simp only at h8
  have hln := h.len
  have hXl := h.blk.lt
  obtain ⟨a, c, rfl, hfa⟩ := hu.form
  have HS := Lib.hid h
  have HF := Lib.hid hf
  have HK := Lib.hid hk
  have HNEW := Lib.hid hnew
  have HL := Lib.hid hl
  clear hl
  obtain ⟨Z, hZ⟩ : ∃ Z, Z = w.heap.size := ⟨_, rfl⟩
  -- regions 0, 1: the boxes, the copy
  obtain ⟨w1, hw1⟩ : ∃ w1, w1 = (w.alloc (.cells #[.pointer (some ⟨X, 0, none⟩)] 24)).alloc (.cells #[.int .i64 p, .slice a is.length c] 34) := ⟨_, rfl⟩
  have hz1 : w1.heap.size = Z + 2 := by rw [hw1, hZ]; simp
  have hb1 : Below Z w w1 := by rw [hw1, hZ]; exact ((Below.refl _ _).alloc (Nat.le_refl _) _).alloc (by simp) _
  obtain ⟨qq0, qq1⟩ : w1.heap[Z]? = some (.cells #[.pointer (some ⟨X, 0, none⟩)] 24) ∧ w1.heap[Z + 1]? = some (.cells #[.int .i64 p, .slice a is.length c] 34) := by rw [hw1, hZ]; exact two_heap _ _ rfl
  obtain ⟨t0, t1, f0, f1⟩ := row2 qq1
  have HW1 := Lib.hid hw1
  have HB1 := Lib.hid hb1
  have HU := Lib.hid (show IntsIn w1 All (.slice a is.length c) is from hu.below (by rw [← hZ]; exact hb1))
  have HQ0 := Lib.hid qq0
  have HQ1 := Lib.hid qq1
  have HZ := Lib.hid hZ
  clear h hu hfa hf hk hnew hw1 hb1 qq0 qq1
  go_enter Try.func20, Try.ntmps20
  clear hZ
  go_wp2_with fail
  rw [← HZ.out, ← HW1.out]
  refine (copied_any (p, is) _ _ ⟨_, rfl, HU.out⟩ (show is.length ≤ 1048576 by omega)).mono ?_
  rintro e w3 ⟨u', rfl, ho', hb'⟩
  obtain ⟨a', n', c', rfl⟩ := ho'.form
  have s1 := (hb'.block (Z + 1) (by omega)).trans HQ1.out
  obtain ⟨_, _, g0, g1⟩ := row2 s1
  obtain ⟨w4, hw4⟩ : ∃ w4, w4 = (w3.setCell ⟨Z + 1, 0, none⟩ (.int .i64 p)).setCell ⟨Z + 1, 1, none⟩ (.slice a' n' c') := ⟨_, rfl⟩
  have s2 : w4.heap[Z + 1]? = some (.cells #[.int .i64 p, .slice a' n' c'] 34) := by rw [hw4]; exact two_set s1
  have hb4 : Below (Z + 1) w1 w4 := by
    rw [hw4]; exact (((⟨hb'.os, hb'.tape, hb'.output, hb'.size, fun k hk => hb'.block k (by omega)⟩ : Below (Z + 1) w1 w3)).setCell (by simp) _).setCell (by simp) _
  have hz4 : Z + 2 ≤ w4.heap.size := by have := hb4.size; omega
  have ho4 : OwnInts w4 (Z + 2) (.slice a' n' c') is := by rw [hw4]; exact ((ho'.mono (by rw [hz1]; omega)).set (by simp) _).set (by simp) _
  have s0 : w4.heap[Z]? = some (.cells #[.pointer (some ⟨X, 0, none⟩)] 24) := (hb4.block Z (by omega)).trans HQ0.out
  have d0 : w4.cell? ⟨Z, 0, none⟩ = some (.pointer (some ⟨X, 0, none⟩)) := by simp only [World.cell?, s0]; rfl
  obtain ⟨d1, d2, _, _⟩ := row2 s2
  have HB4 := Lib.hid (show Below Z w w4 from HB1.out.trans (hb4.mono (by omega)))
  have hblk4 : Blk w4 X V := by
    unfold Blk; rw [HB4.out.block X (by have := HZ.out; omega)]; exact HS.out.blk
  have rr := hblk4.cells.2.1
  obtain ⟨us, bs, hrows⟩ := HS.out.rows
  obtain ⟨ra, rc, hrv⟩ : ∃ a c, V.rv = .slice a l.length c := by
    rcases Joins.ownsRow_forms hrows.row with ⟨h1, h2⟩ | ⟨g, cap, h1⟩
    · exact ⟨none, 0, by rw [h1]; simp [h2]⟩
    · exact ⟨_, cap, h1⟩
  rw [hrv] at rr
  have HRV := Lib.hid hrv
  have HO4 := Lib.hid ho4
  have HS0 := Lib.hid s0
  have HS2 := Lib.hid s2
  have HBLK := Lib.hid hblk4
  clear hrows hrv hblk4 ho4 hb4 s1 ho' hb'
  go_upto_region 2 with fail
  rw [← hw4]
  clear hw4
  -- region 2: the number
  obtain ⟨w5, hw5⟩ : ∃ w5, w5 = w4.alloc (.cells #[.int .i64 (l.length : Int)] 3) := ⟨_, rfl⟩
  have hz5 : w5.heap.size = w4.heap.size + 1 := by rw [hw5]; simp
  have s3 : w5.heap[w4.heap.size]? = some (.cells #[.int .i64 (l.length : Int)] 3) := by rw [hw5]; exact heap_alloc_new _ _
  have hb5 : Below w4.heap.size w4 w5 := by rw [hw5]; exact up_alloc _ _
  obtain ⟨c3, hc3⟩ : ∃ c3, c3 = w4.heap.size := ⟨_, rfl⟩
  rw [← hc3] at s3 hb5 hz5 hz4
  have HB5 := Lib.hid hb5
  have HS3 := Lib.hid s3
  have HC3 := Lib.hid hc3
  obtain ⟨_, _, _, _⟩ := row2 ((hb5.block (Z + 1) (by omega)).trans HS2.out)
  go_upto_region 3 with fail
  rw [← hw5, ← HC3.out]
  clear hw5 hc3 hb5 s0 s2 s3 d0 d1 d2 rr t0 t1 f0 f1 g0 g1
  -- region 3: the key
  obtain ⟨d1, d2, _, _⟩ := row2 ((HB5.out.block (Z + 1) (by omega)).trans HS2.out)
  go_wp2_with fail
  refine (keyOf_any (p, is) _ _ ⟨_, rfl, OwnD.in (D := All) ⟨ownsRow_kp (D := All) (ownsRow_low HO4.out (Nat.zero_le _)) (Kp.of (by rw [← HC3.out]; exact HB5.out)) (fun _ _ => trivial), fun _ _ => trivial⟩⟩ h8).mono ?_
  rintro e w6 ⟨rfl, hb6⟩
  obtain ⟨kk, hkk⟩ : ∃ kk : Array Value, kk = keyC (p, is) := ⟨_, rfl⟩
  obtain ⟨k0, hk0⟩ : ∃ k : Int, k = at' is 0 := ⟨_, rfl⟩
  obtain ⟨k1, hk1⟩ : ∃ k : Int, k = at' is 1 := ⟨_, rfl⟩
  obtain ⟨k2, hk2⟩ : ∃ k : Int, k = at' is 2 := ⟨_, rfl⟩
  obtain ⟨k3, hk3⟩ : ∃ k : Int, k = at' is 3 := ⟨_, rfl⟩
  obtain ⟨k4, hk4⟩ : ∃ k : Int, k = at' is 4 := ⟨_, rfl⟩
  obtain ⟨k5, hk5⟩ : ∃ k : Int, k = at' is 5 := ⟨_, rfl⟩
  obtain ⟨k6, hk6⟩ : ∃ k : Int, k = at' is 6 := ⟨_, rfl⟩
  obtain ⟨k7, hk7⟩ : ∃ k : Int, k = at' is 7 := ⟨_, rfl⟩
  have hkc : keyC (p, is) = #[.int .i64 p, .int .i64 k0, .int .i64 k1, .int .i64 k2, .int .i64 k3, .int .i64 k4, .int .i64 k5, .int .i64 k6, .int .i64 k7] := by rw [hk0, hk1, hk2, hk3, hk4, hk5, hk6, hk7]; rfl
  rw [show keyV (p, is) = .agg #[.int .i64 p, .int .i64 k0, .int .i64 k1, .int .i64 k2, .int .i64 k3, .int .i64 k4, .int .i64 k5, .int .i64 k6, .int .i64 k7] by rw [keyV, hkc]]
  have HKC := Lib.hid hkc
  clear hk0 hk1 hk2 hk3 hk4 hk5 hk6 hk7 hkc d1 d2 hkk kk
  have HB6 := Lib.hid hb6
  clear hb6
  go_upto_region 4 with fail
  obtain ⟨c1, hc1⟩ : ∃ c1, c1 = w6.heap.size := ⟨_, rfl⟩
  obtain ⟨w7, hw7⟩ : ∃ w7, w7 = w6.alloc (.cells #[.int .i64 p, .int .i64 k0, .int .i64 k1, .int .i64 k2, .int .i64 k3, .int .i64 k4, .int .i64 k5, .int .i64 k6, .int .i64 k7] 58) := ⟨_, rfl⟩
  rw [← hw7, ← hc1]
  have hz6 := HB6.out.size
  have hz7 : w7.heap.size = c1 + 1 := by rw [hw7, hc1]; simp
  have s4 : w7.heap[c1]? = some (.cells (keyC (p, is)) 58) := by rw [hw7, hc1, HKC.out]; exact heap_alloc_new _ _
  have hb7 : Below w5.heap.size w5 w7 := HB6.out.trans (by rw [hw7]; exact (up_alloc _ _).mono hz6)
  have hc1z : c3 + 1 ≤ c1 := by omega
  have hX7 : X < c3 := by have := HZ.out; omega
  have b7 : ∀ k, k < c3 → w7.heap[k]? = w4.heap[k]? := fun k hk => (hb7.block k (by omega)).trans (HB5.out.block k hk)
  have m0 : w7.heap[Z]? = some (.cells #[.pointer (some ⟨X, 0, none⟩)] 24) := (b7 Z (by omega)).trans HS0.out
  have m2 : w7.heap[Z + 1]? = some (.cells #[.int .i64 p, .slice a' n' c'] 34) := (b7 (Z + 1) (by omega)).trans HS2.out
  have m3 : w7.heap[c3]? = some (.cells #[.int .i64 (l.length : Int)] 3) := (hb7.block c3 (by omega)).trans HS3.out
  have mo : OwnInts w7 (Z + 2) (.slice a' n' c') is := by
    have h1 : OwnInts w5 (Z + 2) (.slice a' n' c') is := HO4.out.below (by rw [← HC3.out]; exact HB5.out)
    exact h1.below hb7
  have hb07 : Below w.heap.size w w7 := by
    rw [← HZ.out]
    exact ((HB4.out.trans (HB5.out.mono (by omega))).trans (hb7.mono (by omega)))
  -- what is for what
  obtain ⟨P1, hP1⟩ : ∃ P1 : Nat → Prop, P1 = fun k => k = Z ∨ k = Z + 1 ∨ k = c3 ∨ k = c1 ∨ (Value.slice a' n' c').ownBlock = some k := ⟨_, rfl⟩
  obtain ⟨T7, hO7⟩ := mark_tr (ex := fun _ => False) (P := P1) (G := G) hb07 (fun k hk => by
    rw [hP1] at hk
    have := HZ.out
    rcases hk with rfl | rfl | rfl | rfl | hk
    · omega
    · omega
    · omega
    · omega
    · have := mo.lt k hk; omega) HS.out.out
  have HM7 := Lib.hid (HS.out.mid.tr T7 (fun _ _ _ h => h) hO7)
  have HC7 : Hid (CloAt w7 (markI G P1) X l.length (p, is) Z c1 (Z + 1) c3 (.slice a' n' c')) := Lib.hid ⟨m0, s4, m2, m3, markI_in (by rw [hP1]; simp), markI_in (by rw [hP1]; simp), markI_in (by rw [hP1]; simp), markI_in (by rw [hP1]; simp), ⟨ownsRow_low mo (Nat.zero_le _), fun k hk => markI_in (by rw [hP1]; simp [hk])⟩⟩
  have HT7 := Lib.hid T7
  obtain ⟨G1, hG1⟩ : ∃ G1, G1 = markI G P1 := ⟨_, rfl⟩
  rw [← hG1] at HM7 HC7 HT7
  clear hw7 hc1 s4 hb7 b7 m0 m2 m3 mo hb07 hP1 T7 hO7 hG1 P1
  -- region 4: births
  have d0 : w7.cell? ⟨Z, 0, none⟩ = some (.pointer (some ⟨X, 0, none⟩)) := by have := HC7.out.b0; simp only [World.cell?, this]; rfl
  have d6 := HM7.out.blk.cells.2.2.2.2.2.2.1
  have f6 := HM7.out.blk.froz.2.2.1
  obtain ⟨b6, hb6⟩ : ∃ b6 : Int, b6 = V.N := ⟨_, rfl⟩
  rw [← hb6] at d6
  have HB6' := Lib.hid hb6
  clear hb6
  go_upto_region 5 with fail
  obtain ⟨N1, hN1'⟩ : ∃ N1, N1 = V.N + 1 := ⟨_, rfl⟩
  obtain ⟨V1, hV1⟩ : ∃ V1 : SV, V1 = { V with N := N1 } := ⟨_, rfl⟩
  obtain ⟨w8, hw8⟩ : ∃ w8, w8 = w7.setCell ⟨X, 6, none⟩ (.int .i64 (N1 : Int)) := ⟨_, rfl⟩
  have HN1 : Hid (wrap64 (b6 + 1) = (N1 : Int)) := Lib.hid (by have := HB6'.out; unfold wrap64; omega)
  rw [HN1.out, ← hw8]
  obtain ⟨hM8, hT8⟩ := HM7.out.born N1
  rw [← hw8, ← hV1] at hM8
  rw [← hw8] at hT8
  have hO8 := hM8.out
  have hC8 := HC7.out.tr hT8 (by simp)
  have HT8 := Lib.hid ((HT7.out.wide (ex' := Own) (fun _ h => h.elim)).trans (hT8.wide (fun r hr => by subst hr; exact ⟨by simp, by simp, by simp⟩)))
  have hzz8 : w8.heap.size = c1 + 1 := by rw [hw8]; simp [World.setCell, hz7]
  have HVN := Lib.hid (show V1.N = N1 ∧ V1.rv = V.rv ∧ V1.lv = V.lv ∧ V1.av = V.av by rw [hV1]; exact ⟨rfl, rfl, rfl, rfl⟩)
  -- region 5: a row more
  obtain ⟨W, hW⟩ : ∃ W, W = w8.drew := ⟨_, rfl⟩
  have hbW : Below w8.heap.size w8 W := by rw [hW]; exact drew_below _ _
  have hzW : W.heap.size = c1 + 1 := by rw [hW]; exact hzz8
  have HM := Lib.hid (hM8.up hbW)
  have HC := Lib.hid (hC8.tr (Tr.up (ex := fun _ => False) hbW) (fun h => h))
  have HT := Lib.hid (HT8.out.trans (Tr.up hbW))
  obtain ⟨us1, bs1, hrows⟩ := HM.out.rows
  have HROWS := Lib.hid hrows
  have HRV1 : Hid (V1.rv = Value.slice ra l.length rc) := Lib.hid (by rw [HVN.out.2.1]; exact HRV.out)
  have hrow := hrows.row
  rw [HRV1.out] at hrow
  have HROW := Lib.hid hrow
  obtain ⟨bl, hbl⟩ : ∃ bl : List Nat, bl = [Z, Z + 1, X, c3] := ⟨_, rfl⟩
  have HBL := Lib.hid hbl
  have hbz : ∀ b ∈ bl, b < W.heap.size := by rw [hbl]; intro b hb; simp at hb; omega
  have HBZ := Lib.hid hbz
  have hS0 : BlkS W bl W := BlkS.refl _ _
  have HCS : Hid (∀ x, BlkS W bl x → x.cell? ⟨Z, 0, none⟩ = some (.pointer (some ⟨X, 0, none⟩)) ∧ x.cell? ⟨Z + 1, 0, none⟩ = some (.int .i64 p) ∧ x.cell? ⟨Z + 1, 1, none⟩ = some (.slice a' n' c') ∧ x.cell? ⟨c3, 0, none⟩ = some (.int .i64 (l.length : Int)) ∧ x.cell? ⟨X, 1, none⟩ = some (.slice ra l.length rc) ∧ x.cell? ⟨X, 6, none⟩ = some (.int .i64 (N1 : Int))) := Lib.hid (by
    intro x hx
    obtain ⟨r0, r1, _, _⟩ := row2 HC.out.b2
    refine ⟨hx.cell (by rw [hbl]; simp) ?_, hx.cell (by rw [hbl]; simp) r0, hx.cell (by rw [hbl]; simp) r1, hx.cell (by rw [hbl]; simp) ?_, hx.cell (by rw [hbl]; simp) ?_, hx.cell (by rw [hbl]; simp) ?_⟩
    · have := HC.out.b0; simp only [World.cell?, this]; rfl
    · have := HC.out.b3; simp only [World.cell?, this]; rfl
    · rw [← HRV1.out]; exact HM.out.blk.cells.2.1
    · rw [← HVN.out.1]; exact HM.out.blk.cells.2.2.2.2.2.2.1)
  have hnrow : ∀ b ∈ bl, some b ≠ (Value.slice ra l.length rc).ownBlock := by
    rw [hbl, ← HRV1.out]
    intro b hb e
    have e1 := hrows.tagged b e.symm
    simp at hb
    rcases hb with rfl | rfl | rfl | rfl
    · rw [HC.out.t0] at e1; cases e1
    · rw [HC.out.t2] at e1; cases e1
    · rw [HM.out.tag] at e1; cases e1
    · rw [HC.out.t3] at e1; cases e1
  have HNR := Lib.hid hnrow
  have HN1' := Lib.hid hN1'
  have HZW := Lib.hid hzW
  clear hN1' hzW hw8 hM8 hT8 hO8 hC8 hbW d0 d6 f6 hrows hrow hbl hbz hnrow hV1
  refine wp_region_TL (BlkS W bl) 15 (by kernel_rfl) ?_
  rw [← hW]
  clear hW
  refine wpTL_take _ ?_ rfl (by kernel_rfl) (fun _ _ _ h => h) (by assumption) (Or.inl ⟨by rfl, fun x hx => ?_⟩) ?_
  rotate_left
  · obtain ⟨k0, k1, k2, k3, k4, k5⟩ := HCS.out x hx
    clear hx
    go_simp
    try with_reducible rfl
  simp only [Act.put, List.setIfInBounds_toArray, List.set_cons_zero, List.set_cons_succ]
  refine wpTL_take _ ?_ rfl (by kernel_rfl) (fun _ _ _ h => h) (by assumption) (Or.inl ⟨by rfl, fun x hx => ?_⟩) ?_
  rotate_left
  · obtain ⟨k0, k1, k2, k3, k4, k5⟩ := HCS.out x hx
    clear hx
    go_simp
    try with_reducible rfl
  simp only [Act.put, List.setIfInBounds_toArray, List.set_cons_zero, List.set_cons_succ]
  refine wpTL_take _ ?_ rfl (by kernel_rfl) (fun _ _ _ h => h) (by assumption) (Or.inl ⟨by rfl, fun x hx => ?_⟩) ?_
  rotate_left
  · obtain ⟨k0, k1, k2, k3, k4, k5⟩ := HCS.out x hx
    clear hx
    go_simp
    try with_reducible rfl
  simp only [Act.put, List.setIfInBounds_toArray, List.set_cons_zero, List.set_cons_succ]
  refine wpTL_take _ ?_ rfl (by kernel_rfl) (fun _ _ _ h => h) (by assumption) (Or.inl ⟨by rfl, fun x hx => ?_⟩) ?_
  rotate_left
  · obtain ⟨k0, k1, k2, k3, k4, k5⟩ := HCS.out x hx
    clear hx
    go_simp
    try with_reducible rfl
  simp only [Act.put, List.setIfInBounds_toArray, List.set_cons_zero, List.set_cons_succ]
  refine wpTL_take _ ?_ rfl (by kernel_rfl) (fun _ _ _ h => h) (by assumption) (Or.inl ⟨by rfl, fun x hx => ?_⟩) ?_
  rotate_left
  · obtain ⟨k0, k1, k2, k3, k4, k5⟩ := HCS.out x hx
    clear hx
    go_simp
    try with_reducible rfl
  simp only [Act.put, List.setIfInBounds_toArray, List.set_cons_zero, List.set_cons_succ]
  refine wpTL_take _ ?_ rfl (by kernel_rfl) (fun _ _ _ h => h) (by assumption) (Or.inl ⟨by rfl, fun x hx => ?_⟩) ?_
  rotate_left
  · obtain ⟨k0, k1, k2, k3, k4, k5⟩ := HCS.out x hx
    clear hx
    go_simp
    try with_reducible rfl
  simp only [Act.put, List.setIfInBounds_toArray, List.set_cons_zero, List.set_cons_succ]
  refine wpTL_take _ ?_ rfl (by kernel_rfl) (fun _ _ _ h => h) (by assumption) (Or.inl ⟨by rfl, fun x hx => ?_⟩) ?_
  rotate_left
  · obtain ⟨k0, k1, k2, k3, k4, k5⟩ := HCS.out x hx
    clear hx
    go_simp
    try with_reducible rfl
  simp only [Act.put, List.setIfInBounds_toArray, List.set_cons_zero, List.set_cons_succ]
  refine wpTL_take _ ?_ rfl (by kernel_rfl) (fun _ _ _ h => h) (by assumption) (Or.inl ⟨by rfl, fun x hx => ?_⟩) ?_
  rotate_left
  · obtain ⟨k0, k1, k2, k3, k4, k5⟩ := HCS.out x hx
    clear hx
    go_simp
    try with_reducible rfl
  simp only [Act.put, List.setIfInBounds_toArray, List.set_cons_zero, List.set_cons_succ]
  refine wpTL_take _ ?_ rfl (by kernel_rfl) (fun _ _ _ h => h) (by assumption) (Or.inl ⟨by rfl, fun x hx => ?_⟩) ?_
  rotate_left
  · obtain ⟨k0, k1, k2, k3, k4, k5⟩ := HCS.out x hx
    clear hx
    go_simp
    try with_reducible rfl
  simp only [Act.put, List.setIfInBounds_toArray, List.set_cons_zero, List.set_cons_succ]
  refine wpTL_take _ ?_ rfl (by kernel_rfl) (fun _ _ _ h => h) (by assumption) (Or.inl ⟨by rfl, fun x hx => ?_⟩) ?_
  rotate_left
  · obtain ⟨k0, k1, k2, k3, k4, k5⟩ := HCS.out x hx
    clear hx
    go_simp
    try with_reducible rfl
  simp only [Act.put, List.setIfInBounds_toArray, List.set_cons_zero, List.set_cons_succ]
  refine wpTL_take _ ?_ rfl (by kernel_rfl) (fun _ _ _ h => h) (by assumption) (Or.inl ⟨by rfl, fun x hx => ?_⟩) ?_
  rotate_left
  · obtain ⟨k0, k1, k2, k3, k4, k5⟩ := HCS.out x hx
    clear hx
    go_simp
    try with_reducible rfl
  simp only [Act.put, List.setIfInBounds_toArray, List.set_cons_zero, List.set_cons_succ]
  refine wpTL_one (by kernel_rfl) (fun K' hK' => ?_)
  go_simp
  refine hK' _ _ (fun _ => hS0.alloc HBZ.out _) ?_
  clear hK' K'
  have hS1 : BlkS W bl (W.alloc (.cells #[.int .i64 p, .slice a' n' c', .int .i64 (N1 : Int)] 63)) := hS0.alloc HBZ.out _
  clear hS0
  have hnn : l.length ≤ 4194304 := by omega
  refine wpTL_one (by kernel_rfl) (fun K' hK' => ?_)
  refine step_append_at _ (by rfl) _ _ 49 (by rfl) 0 63 i63 (.agg #[.int .i64 0, .slice none 0 0, .int .i64 0]) 3 40 Try.underlying49 ei e0 e1 e2 rfl (by decide) (.slice ra l.length rc) l.length (flat3 l us1 bs1) (by rfl) (by exact HROW.out.alloc _) ⟨W.heap.size, 0, none⟩ 1 1 [.int .i64 p, .slice a' n' c', .int .i64 (N1 : Int)] (by rfl) (by rfl) (World.news_of_block (cs := #[.int .i64 p, .slice a' n' c', .int .i64 (N1 : Int)]) (t := 63) (fr := (0, 0)) (heap_alloc_new W _)) (one_ent _ _ _ _ _) (by unfold maxLen; omega) (by omega) (Nat.zero_le _) ?_
  intro v' w9 hown9 hgrow9 _ hat9
  obtain ⟨g', cc', rfl⟩ := Joins.ownsRow_form hown9 (by omega)
  have hS9 : BlkS W bl w9 := hS1.grown HBZ.out hgrow9 HNR.out
  have HG9 := Lib.hid hgrow9
  have HO9 := Lib.hid hown9
  have HA9 := Lib.hid hat9
  clear hgrow9 hown9 hat9 hS1
  refine hK' _ _ (fun _ => hS9) ?_
  clear hK' K'
  refine wpTL_one (by kernel_rfl) (fun K' hK' => ?_)
  go_simp
  refine hK' _ _ (fun _ => hS9) ?_
  clear hK' K'
  refine wpTL_one (by kernel_rfl) (fun K' hK' => ?_)
  go_simp
  refine hK' _ _ (fun _ => hS9) ?_
  clear hK' K'
  have hw9 : w9.heap[X]? = W.heap[X]? := hS9 X (by rw [HBL.out]; simp)
  have hblk9 : Blk w9 X V1 := by unfold Blk; rw [hw9]; exact HM.out.blk
  have g1 := hblk9.cells.2.1
  have g2 := hblk9.froz.1
  clear hw9 hblk9
  refine wpTL_one (by kernel_rfl) (fun K' hK' => ?_)
  go_simp
  refine hK' _ _ (fun h => absurd rfl h) ?_
  clear hK' K'
  refine wpTL_nil (by kernel_rfl) ?_
  obtain ⟨w10, hw10⟩ : ∃ w10, w10 = w9.setCell ⟨X, 1, none⟩ (.slice (some ⟨g', 0, none⟩) (l.length + 1) cc') := ⟨_, rfl⟩
  rw [← hw10]
  obtain ⟨G2, hM10, hT10⟩ := HM.out.rowIn (u := .slice a' n' c') (r := (p, is)) HROWS.out HC.out.ids HO9.out (by rw [HRV1.out]; exact HG9.out) (by rw [HRV1.out]; exact HA9.out)
  rw [← hw10] at hM10 hT10
  have HC10 := Lib.hid (HC.out.tr hT10 (by simp))
  have HT10 := Lib.hid (HT.out.trans (hT10.wide (fun r hr => by rcases hr with rfl | rfl <;> exact ⟨by simp, by simp, by simp⟩)))
  obtain ⟨V2, hV2⟩ : ∃ V2 : SV, V2 = { V1 with rv := .slice (some ⟨g', 0, none⟩) (l.length + 1) cc' } := ⟨_, rfl⟩
  rw [← hV2] at hM10
  have HVN2 := Lib.hid (show V2.N = N1 ∧ V2.uv = V1.uv ∧ V2.lv = V.lv ∧ V2.av = V.av ∧ V2.bn = V1.bn ∧ V2.bo = V1.bo ∧ V2.bw = V1.bw by rw [hV2]; exact ⟨HVN.out.1, rfl, HVN.out.2.2.1, HVN.out.2.2.2, rfl, rfl, rfl⟩)
  have HM10 := Lib.hid hM10
  clear hw10 hM10 hT10 g1 g2 hS9 hV2
  go_upto_region 6 with fail
  -- region 6: the number
  obtain ⟨W6, hW6⟩ : ∃ W6, W6 = w10.drew := ⟨_, rfl⟩
  have hbW6 : Below w10.heap.size w10 W6 := by rw [hW6]; exact drew_below _ _
  have HM := Lib.hid (HM10.out.up hbW6)
  have HC := Lib.hid (HC10.out.tr (Tr.up (ex := fun _ => False) hbW6) (fun h => h))
  have HT := Lib.hid (HT10.out.trans (Tr.up hbW6))
  obtain ⟨bn, hbn⟩ : ∃ bn, bn = V2.bn := ⟨_, rfl⟩
  obtain ⟨bo, hbo⟩ : ∃ bo, bo = V2.bo := ⟨_, rfl⟩
  obtain ⟨bw, hbw⟩ : ∃ bw, bw = V2.bw := ⟨_, rfl⟩
  have HBN := Lib.hid hbn
  have HBO := Lib.hid hbo
  have HBW := Lib.hid hbw
  clear hbn hbo hbw
  obtain ⟨htn, fn, hmn, hfn⟩ := HM.out.num
  obtain ⟨w11, hrun6, hM11, hg11⟩ := hmn.store (f' := upF fn (keyV (p, is)) (some (.int .i64 (l.length : Int)))) (Go.Maps.Keyed.of_law Try.law58) Try.underlying46 (by unfold maxLen; omega) (okKey_row HK.out) (.int .i64 (l.length : Int)) (upF_same _ _ _) (fun x _ hx => upF_other hx)
  obtain ⟨hM12, hT12⟩ := HM.out.numTo (Cn' := idx (l ++ [(p, is)])) hM11 hg11 (num_push HS.out.okA HF.out HNEW.out hfn)
  have HM11 := Lib.hid hM12
  have HC11 := Lib.hid (HC.out.tr hT12 (by simp))
  have HT11 := Lib.hid (HT.out.trans (hT12.wide (fun r hr => by subst hr; exact ⟨by simp, by simp, by simp⟩)))
  rw [← HBN.out, keyV, HKC.out] at hrun6
  have hS0 : BlkS W6 [Z, X, c1, c3] W6 := BlkS.refl _ _
  have HCS : Hid (∀ x, BlkS W6 [Z, X, c1, c3] x → x.cell? ⟨Z, 0, none⟩ = some (.pointer (some ⟨X, 0, none⟩)) ∧ x.cell? ⟨X, 3, none⟩ = some (.map (some bn)) ∧ x.cell? ⟨c3, 0, none⟩ = some (.int .i64 (l.length : Int)) ∧
      x.cell? ⟨c1, 0, none⟩ = some (.int .i64 p) ∧ x.cell? ⟨c1, 1, none⟩ = some (.int .i64 k0) ∧ x.cell? ⟨c1, 2, none⟩ = some (.int .i64 k1) ∧ x.cell? ⟨c1, 3, none⟩ = some (.int .i64 k2) ∧ x.cell? ⟨c1, 4, none⟩ = some (.int .i64 k3) ∧ x.cell? ⟨c1, 5, none⟩ = some (.int .i64 k4) ∧ x.cell? ⟨c1, 6, none⟩ = some (.int .i64 k5) ∧ x.cell? ⟨c1, 7, none⟩ = some (.int .i64 k6) ∧ x.cell? ⟨c1, 8, none⟩ = some (.int .i64 k7)) := Lib.hid (by
    intro x hx
    have h9 := HC.out.b1
    rw [HKC.out] at h9
    have h9' : x.heap[c1]? = some (.cells #[.int .i64 p, .int .i64 k0, .int .i64 k1, .int .i64 k2, .int .i64 k3, .int .i64 k4, .int .i64 k5, .int .i64 k6, .int .i64 k7] 58) := (hx c1 (by simp)).trans h9
    refine ⟨hx.cell (by simp) ?_, hx.cell (by simp) ?_, hx.cell (by simp) ?_, nine h9'⟩
    · have := HC.out.b0; simp only [World.cell?, this]; rfl
    · rw [HBN.out]; exact HM.out.blk.cells.2.2.2.1
    · have := HC.out.b3; simp only [World.cell?, this]; rfl)
  clear hbW6 htn hmn hfn hM11 hg11 hM12 hT12
  refine wp_region_TL (BlkS W6 [Z, X, c1, c3]) 6 (by kernel_rfl) ?_
  rw [← hW6]
  clear hW6
  refine wpTL_take _ ?_ rfl (by kernel_rfl) (fun _ _ _ h => h) (by assumption) (Or.inl ⟨by rfl, fun x hx => ?_⟩) ?_
  rotate_left
  · obtain ⟨k0_, k1_, k2_, k3_, k4_, k5_, k6_, k7_, k8_, k9_, k10_, k11_⟩ := HCS.out x hx
    clear hx
    go_simp
    try with_reducible rfl
  simp only [Act.put, List.setIfInBounds_toArray, List.set_cons_zero, List.set_cons_succ]
  refine wpTL_take _ ?_ rfl (by kernel_rfl) (fun _ _ _ h => h) (by assumption) (Or.inl ⟨by rfl, fun x hx => ?_⟩) ?_
  rotate_left
  · obtain ⟨k0_, k1_, k2_, k3_, k4_, k5_, k6_, k7_, k8_, k9_, k10_, k11_⟩ := HCS.out x hx
    clear hx
    go_simp
    try with_reducible rfl
  simp only [Act.put, List.setIfInBounds_toArray, List.set_cons_zero, List.set_cons_succ]
  refine wpTL_take _ ?_ rfl (by kernel_rfl) (fun _ _ _ h => h) (by assumption) (Or.inl ⟨by rfl, fun x hx => ?_⟩) ?_
  rotate_left
  · obtain ⟨k0_, k1_, k2_, k3_, k4_, k5_, k6_, k7_, k8_, k9_, k10_, k11_⟩ := HCS.out x hx
    clear hx
    go_simp
    try with_reducible rfl
  simp only [Act.put, List.setIfInBounds_toArray, List.set_cons_zero, List.set_cons_succ]
  refine wpTL_take _ ?_ rfl (by kernel_rfl) (fun _ _ _ h => h) (by assumption) (Or.inl ⟨by rfl, fun x hx => ?_⟩) ?_
  rotate_left
  · obtain ⟨k0_, k1_, k2_, k3_, k4_, k5_, k6_, k7_, k8_, k9_, k10_, k11_⟩ := HCS.out x hx
    clear hx
    go_simp
    try with_reducible rfl
  simp only [Act.put, List.setIfInBounds_toArray, List.set_cons_zero, List.set_cons_succ]
  refine wpTL_take _ ?_ rfl (by kernel_rfl) (fun _ _ _ h => h) (by assumption) (Or.inl ⟨by rfl, fun x hx => ?_⟩) ?_
  rotate_left
  · obtain ⟨k0_, k1_, k2_, k3_, k4_, k5_, k6_, k7_, k8_, k9_, k10_, k11_⟩ := HCS.out x hx
    clear hx
    go_simp
    try with_reducible rfl
  simp only [Act.put, List.setIfInBounds_toArray, List.set_cons_zero, List.set_cons_succ]
  refine wpTL_take _ ?_ rfl (by kernel_rfl) (fun _ _ _ h => h) (by assumption) (Or.inl ⟨by rfl, fun x hx => ?_⟩) ?_
  rotate_left
  · obtain ⟨k0_, k1_, k2_, k3_, k4_, k5_, k6_, k7_, k8_, k9_, k10_, k11_⟩ := HCS.out x hx
    clear hx
    go_simp
    try with_reducible rfl
  simp only [Act.put, List.setIfInBounds_toArray, List.set_cons_zero, List.set_cons_succ]
  refine wpTL_one (by kernel_rfl) (fun K' hK' => ?_)
  refine step_mapUpdate (by rfl) _ _ _ 46 (by rfl) _ _ _ (by rfl) (by rfl) (by rfl) hrun6 ?_
  refine hK' _ _ (fun h => absurd rfl h) ?_
  clear hK' K'
  refine wpTL_nil (by kernel_rfl) ?_
  clear hS0 hrun6 HCS
  go_upto_region 7 with fail
  -- region 7: the predicate's list
  obtain ⟨W7, hW7⟩ : ∃ W7, W7 = w11.drew := ⟨_, rfl⟩
  have hbW7 : Below w11.heap.size w11 W7 := by rw [hW7]; exact drew_below _ _
  have HM := Lib.hid (HM11.out.up hbW7)
  have HC := Lib.hid (HC11.out.tr (Tr.up (ex := fun _ => False) hbW7) (fun h => h))
  have HT := Lib.hid (HT11.out.trans (Tr.up hbW7))
  obtain ⟨fo, hfo⟩ := HM.out.of
  rw [← HBO.out] at hfo
  have hvo : OwnD W7 (fun k => G2 k = .ofv p) ((fo (.int .i64 p)).getD nilS) (pick (ofQ p) l) := hfo.vals p HK.out.1
  obtain ⟨lo, hlo⟩ : ∃ lo, lo = pick (ofQ p) l := ⟨_, rfl⟩
  have hlol : lo.length ≤ 4194304 := by rw [hlo]; exact Nat.le_trans (pick_len _ _) (by omega)
  rw [← hlo] at hvo
  have HLO := Lib.hid hlo
  obtain ⟨va, vc, hva, _⟩ := hvo.form
  rw [hva] at hvo
  have HVO := Lib.hid hvo
  have HVA := Lib.hid hva
  have HFO := Lib.hid hfo
  have hmo : MapAt 3 W7 bo V.N fo := hfo.map
  have hto : G2 bo = .of := hfo.tagged
  have HMO := Lib.hid hmo
  have HTO := Lib.hid hto
  obtain ⟨bl, hbl⟩ : ∃ bl : List Nat, bl = [Z, Z + 1, X, c3, bo] := ⟨_, rfl⟩
  have HBL := Lib.hid hbl
  have hlX := HM.out.blk.lt
  have hl0 : Z < W7.heap.size := (Array.getElem?_eq_some_iff.1 HC.out.b0).1
  have hl2 : Z + 1 < W7.heap.size := (Array.getElem?_eq_some_iff.1 HC.out.b2).1
  have hl3 : c3 < W7.heap.size := (Array.getElem?_eq_some_iff.1 HC.out.b3).1
  have hlo' := hmo.lt
  have HBZ : Hid (∀ b ∈ bl, b < W7.heap.size) := Lib.hid (by rw [hbl]; intro b hb; simp at hb; omega)
  have hS0 : BlkS W7 bl W7 := BlkS.refl _ _
  have HCS : Hid (∀ x, BlkS W7 bl x → x.cell? ⟨Z, 0, none⟩ = some (.pointer (some ⟨X, 0, none⟩)) ∧ x.cell? ⟨Z + 1, 0, none⟩ = some (.int .i64 p) ∧ x.cell? ⟨c3, 0, none⟩ = some (.int .i64 (l.length : Int)) ∧ x.cell? ⟨X, 4, none⟩ = some (.map (some bo)) ∧
      (Instr.lookup 47 (.map (some bo)) (.int .i64 p) false).run Try.prog x = .ok (.slice va lo.length vc) x) := Lib.hid (by
    intro x hx
    refine ⟨hx.cell (by rw [hbl]; simp) ?_, hx.cell (by rw [hbl]; simp) (row2 HC.out.b2).1, hx.cell (by rw [hbl]; simp) ?_, hx.cell (by rw [hbl]; simp) ?_, ?_⟩
    · have := HC.out.b0; simp only [World.cell?, this]; rfl
    · have := HC.out.b3; simp only [World.cell?, this]; rfl
    · rw [HBO.out]; exact HM.out.blk.cells.2.2.2.2.1
    · have h1 := (HMO.out.same (hx bo (by rw [hbl]; simp))).look Try.law3 Try.underlying47 (Try.zero22 x) (ok3 HK.out.1) false
      rw [h1, ← HVA.out]; rfl)
  have HNR : Hid (∀ b ∈ bl, some b ≠ (Value.slice va lo.length vc).ownBlock) := Lib.hid (by
    rw [hbl]
    intro b hb e
    have e1 : G2 b = .ofv p := HVO.out.2 b e.symm
    simp at hb
    rcases hb with rfl | rfl | rfl | rfl | rfl
    · rw [HC.out.t0] at e1; cases e1
    · rw [HC.out.t2] at e1; cases e1
    · rw [HM.out.tag] at e1; cases e1
    · rw [HC.out.t3] at e1; cases e1
    · rw [HTO.out] at e1; cases e1)
  clear hbW7 hfo hvo hlo hva hmo hto hbl hlX hl0 hl2 hl3 hlo'
  refine wp_region_TL (BlkS W7 bl) 16 (by kernel_rfl) ?_
  rw [← hW7]
  clear hW7
  refine wpTL_take _ ?_ rfl (by kernel_rfl) (fun _ _ _ h => h) (by assumption) (Or.inl ⟨by rfl, fun x hx => ?_⟩) ?_
  rotate_left
  · obtain ⟨k0_, k1_, k2_, k3_, k4_⟩ := HCS.out x hx
    clear hx
    go_simp
    try with_reducible rfl
  simp only [Act.put, List.setIfInBounds_toArray, List.set_cons_zero, List.set_cons_succ]
  refine wpTL_take _ ?_ rfl (by kernel_rfl) (fun _ _ _ h => h) (by assumption) (Or.inl ⟨by rfl, fun x hx => ?_⟩) ?_
  rotate_left
  · obtain ⟨k0_, k1_, k2_, k3_, k4_⟩ := HCS.out x hx
    clear hx
    go_simp
    try with_reducible rfl
  simp only [Act.put, List.setIfInBounds_toArray, List.set_cons_zero, List.set_cons_succ]
  refine wpTL_take _ ?_ rfl (by kernel_rfl) (fun _ _ _ h => h) (by assumption) (Or.inl ⟨by rfl, fun x hx => ?_⟩) ?_
  rotate_left
  · obtain ⟨k0_, k1_, k2_, k3_, k4_⟩ := HCS.out x hx
    clear hx
    go_simp
    try with_reducible rfl
  simp only [Act.put, List.setIfInBounds_toArray, List.set_cons_zero, List.set_cons_succ]
  refine wpTL_take _ ?_ rfl (by kernel_rfl) (fun _ _ _ h => h) (by assumption) (Or.inl ⟨by rfl, fun x hx => ?_⟩) ?_
  rotate_left
  · obtain ⟨k0_, k1_, k2_, k3_, k4_⟩ := HCS.out x hx
    clear hx
    go_simp
    try with_reducible rfl
  simp only [Act.put, List.setIfInBounds_toArray, List.set_cons_zero, List.set_cons_succ]
  refine wpTL_take _ ?_ rfl (by kernel_rfl) (fun _ _ _ h => h) (by assumption) (Or.inl ⟨by rfl, fun x hx => ?_⟩) ?_
  rotate_left
  · obtain ⟨k0_, k1_, k2_, k3_, k4_⟩ := HCS.out x hx
    clear hx
    go_simp
    try with_reducible rfl
  simp only [Act.put, List.setIfInBounds_toArray, List.set_cons_zero, List.set_cons_succ]
  refine wpTL_take _ ?_ rfl (by kernel_rfl) (fun _ _ _ h => h) (by assumption) (Or.inl ⟨by rfl, fun x hx => ?_⟩) ?_
  rotate_left
  · obtain ⟨k0_, k1_, k2_, k3_, k4_⟩ := HCS.out x hx
    clear hx
    go_simp
    try with_reducible rfl
  simp only [Act.put, List.setIfInBounds_toArray, List.set_cons_zero, List.set_cons_succ]
  refine wpTL_take _ ?_ rfl (by kernel_rfl) (fun _ _ _ h => h) (by assumption) (Or.inl ⟨by rfl, fun x hx => ?_⟩) ?_
  rotate_left
  · obtain ⟨k0_, k1_, k2_, k3_, k4_⟩ := HCS.out x hx
    clear hx
    go_simp
    try with_reducible rfl
  simp only [Act.put, List.setIfInBounds_toArray, List.set_cons_zero, List.set_cons_succ]
  refine wpTL_take _ ?_ rfl (by kernel_rfl) (fun _ _ _ h => h) (by assumption) (Or.inl ⟨by rfl, fun x hx => ?_⟩) ?_
  rotate_left
  · obtain ⟨k0_, k1_, k2_, k3_, k4_⟩ := HCS.out x hx
    clear hx
    go_simp
    try with_reducible rfl
  simp only [Act.put, List.setIfInBounds_toArray, List.set_cons_zero, List.set_cons_succ]
  refine wpTL_take _ ?_ rfl (by kernel_rfl) (fun _ _ _ h => h) (by assumption) (Or.inl ⟨by rfl, fun x hx => ?_⟩) ?_
  rotate_left
  · obtain ⟨k0_, k1_, k2_, k3_, k4_⟩ := HCS.out x hx
    clear hx
    go_simp
    try with_reducible rfl
  simp only [Act.put, List.setIfInBounds_toArray, List.set_cons_zero, List.set_cons_succ]
  refine wpTL_take _ ?_ rfl (by kernel_rfl) (fun _ _ _ h => h) (by assumption) (Or.inl ⟨by rfl, fun x hx => ?_⟩) ?_
  rotate_left
  · obtain ⟨k0_, k1_, k2_, k3_, k4_⟩ := HCS.out x hx
    clear hx
    go_simp
    try with_reducible rfl
  simp only [Act.put, List.setIfInBounds_toArray, List.set_cons_zero, List.set_cons_succ]
  refine wpTL_take _ ?_ rfl (by kernel_rfl) (fun _ _ _ h => h) (by assumption) (Or.inl ⟨by rfl, fun x hx => ?_⟩) ?_
  rotate_left
  · obtain ⟨k0_, k1_, k2_, k3_, k4_⟩ := HCS.out x hx
    clear hx
    go_simp
    try with_reducible rfl
  simp only [Act.put, List.setIfInBounds_toArray, List.set_cons_zero, List.set_cons_succ]
  refine wpTL_take _ ?_ rfl (by kernel_rfl) (fun _ _ _ h => h) (by assumption) (Or.inl ⟨by rfl, fun x hx => ?_⟩) ?_
  rotate_left
  · obtain ⟨k0_, k1_, k2_, k3_, k4_⟩ := HCS.out x hx
    clear hx
    go_simp
    try with_reducible rfl
  simp only [Act.put, List.setIfInBounds_toArray, List.set_cons_zero, List.set_cons_succ]
  refine wpTL_take _ ?_ rfl (by kernel_rfl) (fun _ _ _ h => h) (by assumption) (Or.inl ⟨by rfl, fun x hx => ?_⟩) ?_
  rotate_left
  · obtain ⟨k0_, k1_, k2_, k3_, k4_⟩ := HCS.out x hx
    clear hx
    go_simp
    try with_reducible rfl
  simp only [Act.put, List.setIfInBounds_toArray, List.set_cons_zero, List.set_cons_succ]
  refine wpTL_take _ ?_ rfl (by kernel_rfl) (fun _ _ _ h => h) (by assumption) (Or.inl ⟨by rfl, fun x hx => ?_⟩) ?_
  rotate_left
  · obtain ⟨k0_, k1_, k2_, k3_, k4_⟩ := HCS.out x hx
    clear hx
    go_simp
    try with_reducible rfl
  simp only [Act.put, List.setIfInBounds_toArray, List.set_cons_zero, List.set_cons_succ]
  refine wpTL_one (by kernel_rfl) (fun K' hK' => ?_)
  go_simp
  refine hK' _ _ (fun _ => hS0.alloc HBZ.out _) ?_
  clear hK' K'
  have hS1 : BlkS W7 bl (W7.alloc (.cells #[.int .i64 (l.length : Int)] 3)) := hS0.alloc HBZ.out _
  clear hS0
  refine wpTL_one (by kernel_rfl) (fun K' hK' => ?_)
  refine step_append_at _ (by rfl) _ _ 22 (by rfl) 0 3 i3 (.int .i64 0) 1 8 Try.underlying22 qi q0 q1 q2 rfl (by decide) (.slice va lo.length vc) lo.length (lits lo) (by rfl) (by exact HVO.out.1.alloc _) ⟨W7.heap.size, 0, none⟩ 1 1 [.int .i64 (l.length : Int)] (by rfl) (by rfl) (World.news_of_block (cs := #[.int .i64 (l.length : Int)]) (t := 3) (fr := (0, 0)) (heap_alloc_new W7 _)) (one_i64 _) (by unfold maxLen; omega) (by omega) (Nat.zero_le _) ?_
  intro v' w12 hown9 hgrow9 _ hat9
  obtain ⟨g7, cc7, rfl⟩ := Joins.ownsRow_form hown9 (by omega)
  have hS9 : BlkS W7 bl w12 := hS1.grown HBZ.out hgrow9 HNR.out
  have HG9 := Lib.hid hgrow9
  have HO9 := Lib.hid hown9
  have HA9 := Lib.hid hat9
  clear hgrow9 hown9 hat9 hS1
  refine hK' _ _ (fun _ => hS9) ?_
  clear hK' K'
  obtain ⟨w13, hrun7, hM13, hg13⟩ := (HMO.out.same (hS9 bo (by rw [HBL.out]; simp))).store (f' := upF fo (.int .i64 p) (some (.slice (some ⟨g7, 0, none⟩) (lo.length + 1) cc7))) Try.law3 Try.underlying47 (by unfold maxLen; omega) (ok3 HK.out.1) (.slice (some ⟨g7, 0, none⟩) (lo.length + 1) cc7) (upF_same _ _ _) (fun x _ hx => upF_other hx)
  obtain ⟨G3, hF13, hT13, hO13⟩ := FamF.push (F := ofF) (i0 := p) (C' := fun q => pick (ofQ q) (l ++ [(p, is)])) HFO.out HK.out.1 HM.out.out (by rw [← HLO.out]; exact HO9.out) (show (W7.alloc _).grownBy w12 ((fo (.int .i64 p)).getD nilS).ownBlock by rw [HVA.out]; exact HG9.out) (show _ = ((fo (.int .i64 p)).getD nilS).ownBlock ∨ _ by rw [HVA.out]; exact HA9.out)
    (pick_snoc_in (by simp [ofQ])) (fun q hq => pick_snoc_out (by simp [ofQ]; exact fun h => hq h.symm)) hM13 hg13 (upF_same _ _ _) (fun x _ hx => upF_other hx)
  have hT13' : Tr (fun r => (∃ p, r = .ofv p) ∨ r = .of) G2 W7 G3 w13 := hT13.wide (fun r hr => hr.imp (fun h => ⟨p, h⟩) id)
  have HM13 := Lib.hid (HM.out.ofTo (by rw [← HBO.out]; exact hF13) hT13' hO13)
  have HC13 := Lib.hid (HC.out.tr hT13' (by simp))
  have HT13 := Lib.hid (HT.out.trans (hT13'.wide (fun r hr => by rcases hr with ⟨_, rfl⟩ | rfl <;> exact ⟨by simp, by simp, by simp⟩)))
  clear hM13 hg13 hF13 hT13 hO13 hT13'
  refine wpTL_one (by kernel_rfl) (fun K' hK' => ?_)
  refine step_mapUpdate (by rfl) _ _ _ 47 (by rfl) _ _ _ (by rfl) (by rfl) (by rfl) hrun7 ?_
  refine hK' _ _ (fun h => absurd rfl h) ?_
  clear hK' K'
  refine wpTL_nil (by kernel_rfl) ?_
  clear hS9 hrun7 HCS HBZ HNR
  go_upto_region 8 with fail
  -- the places
  have hnl : n' = is.length := by
    obtain ⟨a9, c9, h9, _⟩ := HC13.out.ids.form
    simp only [Value.slice.injEq] at h9
    exact h9.2.1
  have HNL := Lib.hid hnl
  have hn8 : n' ≤ 8 := by omega
  clear hnl
  have z1 := (row2 HC13.out.b2).2.1
  have HM13' := Lib.hid (HM13.out.whSame (Cw' := whC l (p, is) 0) (whC_start l (p, is)))
  go_wp2
  go_loopw [65] (fun k wr => ∃ (i : Nat) (Gi : Nat → Rl), k = .int .i64 (i : Int) ∧ i ≤ n' ∧ Hid (Mid Gi X A l (l ++ [(p, is)]) fs V2 (idx (l ++ [(p, is)])) (fun q => pick (ofQ q) (l ++ [(p, is)])) (whC l (p, is) i) (V.N + 1) (V.N + 1) (8 * V.N + i) wr) ∧
    Hid (CloAt wr Gi X l.length (p, is) Z c1 (Z + 1) c3 (.slice a' n' c')) ∧ Hid (Tr Own G w Gi wr)) (fun k _ => n' - (intOf k).toNat)
  case atStart => exact ⟨0, G3, rfl, Nat.zero_le _, HM13', HC13, HT13⟩
  case round =>
    obtain ⟨i, Gi, rfl, hin, HMr, HCr, HTr⟩ := hrel
    clear HM13 HM13' HC13 HT13 HM HC HT z1
    by_cases h1 : i < n'
    · have hii : i < is.length := by have := HNL.out; omega
      obtain ⟨g, rfl⟩ : ∃ g, a' = some ⟨g, 0, none⟩ := by
        obtain ⟨a9, c9, h9, h8', _⟩ := HCr.out.ids.form
        obtain ⟨g, hg⟩ := h8' (fun e => by simp only at e; rw [e] at hii; simp at hii)
        simp at h9
        exact ⟨g, by rw [h9.1, hg]⟩
      obtain ⟨d, hd⟩ : ∃ d, d = at' is i := ⟨_, rfl⟩
      have e0' : wr.cell? ⟨g, i, none⟩ = some (.int .i64 d) := by
        have h9 := HCr.out.ids.in
        rw [HNL.out] at h9
        have := h9.at hii
        rw [Nat.zero_add] at this
        rw [hd]; exact this
      have e1' := (row2 HCr.out.b2).1
      have hid : is[i]? = some d := by rw [hd]; exact at_some hii
      have hdi : I64 d := by rw [hd]; exact HK.out.2.1 i
      have HID := Lib.hid hid
      have HDI := Lib.hid hdi
      clear hd hid hdi
      go_upto_region 12 with fail
      obtain ⟨c8, hc8⟩ : ∃ c8, c8 = wr.heap.size := ⟨_, rfl⟩
      obtain ⟨wq, hwq⟩ : ∃ wq, wq = wr.alloc (.cells #[.int .i64 p, .int .i64 (i : Int), .int .i64 d] 72) := ⟨_, rfl⟩
      rw [← hwq, ← hc8]
      have s8 : wq.heap[c8]? = some (.cells #[.int .i64 p, .int .i64 (i : Int), .int .i64 d] 72) := by rw [hwq, hc8]; exact heap_alloc_new _ _
      have hbq : Below wr.heap.size wr wq := by rw [hwq]; exact up_alloc _ _
      have hO8' : Gi c8 = .out := HMr.out.out c8 (by omega)
      obtain ⟨W12, hW12⟩ : ∃ W12, W12 = wq.drew := ⟨_, rfl⟩
      have hb12 : Below wr.heap.size wr W12 := by rw [hW12]; exact hbq.trans (drew_below _ _)
      have s8' : W12.heap[c8]? = some (.cells #[.int .i64 p, .int .i64 (i : Int), .int .i64 d] 72) := by rw [hW12]; exact s8
      have HM := Lib.hid (HMr.out.up hb12)
      have HC := Lib.hid (HCr.out.tr (Tr.up (ex := fun _ => False) hb12) (fun h => h))
      have HT := Lib.hid (HTr.out.trans (Tr.up hb12))
      obtain ⟨fw, hfw⟩ := HM.out.whr
      rw [← HBW.out] at hfw
      have hgood : whF.good (p, i, d) := ⟨HK.out.1, by simp; omega, HDI.out⟩
      have HGOOD := Lib.hid hgood
      have hvo : OwnD W12 (fun k => Gi k = .whv p i d) ((fw (.agg #[.int .i64 p, .int .i64 (i : Int), .int .i64 d])).getD nilS) (whC l (p, is) i (p, i, d)) := hfw.vals (p, i, d) hgood
      obtain ⟨lw, hlw⟩ : ∃ lw, lw = whC l (p, is) i (p, i, d) := ⟨_, rfl⟩
      have hlwl : lw.length ≤ 4194304 := by rw [hlw, whC_here_pre l (p, is) i d]; exact Nat.le_trans (pick_len _ _) (by omega)
      rw [← hlw] at hvo
      have HLW := Lib.hid hlw
      obtain ⟨va2, vc2, hva, _⟩ := hvo.form
      rw [hva] at hvo
      have HVW := Lib.hid hvo
      have HVB := Lib.hid hva
      have HFW := Lib.hid hfw
      have hmo : MapAt 72 W12 bw (8 * V.N + i) fw := hfw.map
      have hto : Gi bw = .whr := hfw.tagged
      have HMO2 := Lib.hid hmo
      have HTO2 := Lib.hid hto
      obtain ⟨bl2, hbl⟩ : ∃ bl : List Nat, bl = [Z, X, c3, c8] := ⟨_, rfl⟩
      have HBL2 := Lib.hid hbl
      have hlX := HM.out.blk.lt
      have hl0 : Z < W12.heap.size := (Array.getElem?_eq_some_iff.1 HC.out.b0).1
      have hl3 : c3 < W12.heap.size := (Array.getElem?_eq_some_iff.1 HC.out.b3).1
      have hl8 : c8 < W12.heap.size := (Array.getElem?_eq_some_iff.1 s8').1
      have HBZ : Hid (∀ b ∈ bl2, b < W12.heap.size) := Lib.hid (by rw [hbl]; intro b hb; simp at hb; omega)
      have hS0 : BlkS W12 bl2 W12 := BlkS.refl _ _
      have HCS : Hid (∀ x, BlkS W12 bl2 x → x.cell? ⟨Z, 0, none⟩ = some (.pointer (some ⟨X, 0, none⟩)) ∧ x.cell? ⟨c3, 0, none⟩ = some (.int .i64 (l.length : Int)) ∧ x.cell? ⟨X, 5, none⟩ = some (.map (some bw)) ∧
          x.cell? ⟨c8, 0, none⟩ = some (.int .i64 p) ∧ x.cell? ⟨c8, 1, none⟩ = some (.int .i64 (i : Int)) ∧ x.cell? ⟨c8, 2, none⟩ = some (.int .i64 d)) := Lib.hid (by
        intro x hx
        refine ⟨hx.cell (by rw [hbl]; simp) ?_, hx.cell (by rw [hbl]; simp) ?_, hx.cell (by rw [hbl]; simp) ?_, hx.cell (by rw [hbl]; simp) ?_, hx.cell (by rw [hbl]; simp) ?_, hx.cell (by rw [hbl]; simp) ?_⟩
        · have := HC.out.b0; simp only [World.cell?, this]; rfl
        · have := HC.out.b3; simp only [World.cell?, this]; rfl
        · rw [HBW.out]; exact HM.out.blk.cells.2.2.2.2.2.1
        · simp only [World.cell?, s8']; rfl
        · simp only [World.cell?, s8']; rfl
        · simp only [World.cell?, s8']; rfl)
      have HNR : Hid (∀ b ∈ bl2, some b ≠ (Value.slice va2 lw.length vc2).ownBlock) := Lib.hid (by
        rw [hbl]
        intro b hb e
        have e1 : Gi b = .whv p i d := HVW.out.2 b e.symm
        simp at hb
        rcases hb with rfl | rfl | rfl | rfl
        · rw [HC.out.t0] at e1; cases e1
        · rw [HM.out.tag] at e1; cases e1
        · rw [HC.out.t3] at e1; cases e1
        · rw [hO8'] at e1; cases e1)
      have HNB : Hid (∀ b ∈ bl2, some b ≠ some bw) := Lib.hid (by
        rw [hbl]
        intro b hb e
        have e9 : b = bw := Option.some.inj e
        have e1 : Gi b = .whr := by rw [e9]; exact HTO2.out
        simp at hb
        rcases hb with rfl | rfl | rfl | rfl
        · rw [HC.out.t0] at e1; cases e1
        · rw [HM.out.tag] at e1; cases e1
        · rw [HC.out.t3] at e1; cases e1
        · rw [hO8'] at e1; cases e1)
      obtain ⟨st, wE, hrunE, hgE, hzE, hback⟩ := (HMO2.out.same (w' := W12.alloc (.cells #[.int .i64 (l.length : Int)] 3)) (Below.heap_alloc _ _ _ HMO2.out.lt)).entry Try.law72 Try.underlying48 Try.zero22 (by unfold maxLen; omega) (whF.ok _ hgood)
      have hvE : wE.ownsRow 0 3 1 (.slice va2 lw.length vc2) lw.length (lits lw) := (HVW.out.1.alloc _).kept hgE (by
        cases h9 : (Value.slice va2 lw.length vc2).ownBlock with
        | none => exact .inl rfl
        | some k =>
          refine .inr (fun e => ?_)
          have e9 : k = bw := Option.some.inj e
          have : Gi k = .whv p i d := HVW.out.2 _ h9
          rw [e9, show Gi bw = Rl.whr from HTO2.out] at this; cases this)
      have HVE := Lib.hid hvE
      have HGE := Lib.hid hgE
      have HZE := Lib.hid hzE
      have HBACK := Lib.hid hback
      have hrunE' : (Instr.mapEntry 48 (.map (some bw)) (.agg #[.int .i64 p, .int .i64 (i : Int), .int .i64 d])).run Try.prog (W12.alloc (.cells #[.int .i64 (l.length : Int)] 3)) = .ok (.tuple #[.slice va2 lw.length vc2, .int .i64 (st : Int)]) wE := by
        have h9 := hrunE
        rw [show (fw (whF.key (p, i, d))).getD (.slice none 0 0) = .slice va2 lw.length vc2 from HVB.out] at h9
        exact h9
      have hcE : wE.heap.size = W12.heap.size + 1 := by rw [hzE]; simp
      have HCE := Lib.hid hcE
      clear hwq s8 hbq hO8' hb12 s8' hfw hvo hlw hva hmo hto hbl hlX hl0 hl3 hl8 hgood hrunE hgE hzE hback hvE hcE hc8
      refine wp_region_TL (BlkS W12 bl2) 11 (by kernel_rfl) ?_
      rw [← hW12]
      clear hW12
      refine wpTL_take _ ?_ rfl (by kernel_rfl) (fun _ _ _ h => h) (by assumption) (Or.inl ⟨by rfl, fun x hx => ?_⟩) ?_
      rotate_left
      · obtain ⟨k0_, k1_, k2_, k3_, k4_, k5_⟩ := HCS.out x hx
        clear hx
        go_simp
        try with_reducible rfl
      simp only [Act.put, List.setIfInBounds_toArray, List.set_cons_zero, List.set_cons_succ]
      refine wpTL_take _ ?_ rfl (by kernel_rfl) (fun _ _ _ h => h) (by assumption) (Or.inl ⟨by rfl, fun x hx => ?_⟩) ?_
      rotate_left
      · obtain ⟨k0_, k1_, k2_, k3_, k4_, k5_⟩ := HCS.out x hx
        clear hx
        go_simp
        try with_reducible rfl
      simp only [Act.put, List.setIfInBounds_toArray, List.set_cons_zero, List.set_cons_succ]
      refine wpTL_take _ ?_ rfl (by kernel_rfl) (fun _ _ _ h => h) (by assumption) (Or.inl ⟨by rfl, fun x hx => ?_⟩) ?_
      rotate_left
      · obtain ⟨k0_, k1_, k2_, k3_, k4_, k5_⟩ := HCS.out x hx
        clear hx
        go_simp
        try with_reducible rfl
      simp only [Act.put, List.setIfInBounds_toArray, List.set_cons_zero, List.set_cons_succ]
      refine wpTL_take _ ?_ rfl (by kernel_rfl) (fun _ _ _ h => h) (by assumption) (Or.inl ⟨by rfl, fun x hx => ?_⟩) ?_
      rotate_left
      · obtain ⟨k0_, k1_, k2_, k3_, k4_, k5_⟩ := HCS.out x hx
        clear hx
        go_simp
        try with_reducible rfl
      simp only [Act.put, List.setIfInBounds_toArray, List.set_cons_zero, List.set_cons_succ]
      refine wpTL_take _ ?_ rfl (by kernel_rfl) (fun _ _ _ h => h) (by assumption) (Or.inl ⟨by rfl, fun x hx => ?_⟩) ?_
      rotate_left
      · obtain ⟨k0_, k1_, k2_, k3_, k4_, k5_⟩ := HCS.out x hx
        clear hx
        go_simp
        try with_reducible rfl
      simp only [Act.put, List.setIfInBounds_toArray, List.set_cons_zero, List.set_cons_succ]
      refine wpTL_take _ ?_ rfl (by kernel_rfl) (fun _ _ _ h => h) (by assumption) (Or.inl ⟨by rfl, fun x hx => ?_⟩) ?_
      rotate_left
      · obtain ⟨k0_, k1_, k2_, k3_, k4_, k5_⟩ := HCS.out x hx
        clear hx
        go_simp
        try with_reducible rfl
      simp only [Act.put, List.setIfInBounds_toArray, List.set_cons_zero, List.set_cons_succ]
      refine wpTL_one (by kernel_rfl) (fun K' hK' => ?_)
      go_simp
      refine hK' _ _ (fun _ => hS0.alloc HBZ.out _) ?_
      clear hK' K'
      have hS1 : BlkS W12 bl2 (W12.alloc (.cells #[.int .i64 (l.length : Int)] 3)) := hS0.alloc HBZ.out _
      clear hS0
      refine wpTL_one (by kernel_rfl) (fun K' hK' => ?_)
      refine step_mapEntry (by rfl) _ _ 48 (by rfl) _ _ _ (by rfl) (by rfl) hrunE' ?_
      have hS2 : BlkS W12 bl2 wE := hS1.grown HBZ.out HGE.out HNB.out
      clear hrunE' hS1
      refine hK' _ _ (fun _ => hS2) ?_
      clear hK' K'
      refine wpTL_take _ ?_ rfl (by kernel_rfl) (fun _ _ _ h => h) (by assumption) (Or.inl ⟨by rfl, fun x hx => ?_⟩) ?_
      rotate_left
      · obtain ⟨k0_, k1_, k2_, k3_, k4_, k5_⟩ := HCS.out x hx
        clear hx
        go_simp
        try with_reducible rfl
      simp only [Act.put, List.setIfInBounds_toArray, List.set_cons_zero, List.set_cons_succ]
      refine wpTL_pair _ ?_ rfl (by kernel_rfl) (fun _ _ _ h => h) (by assumption) (Or.inl ⟨by rfl, fun x hx => ?_⟩) ?_ ?_ (by kernel_rfl) (fun K' hK' => ?_)
      rotate_left
      · obtain ⟨k0_, k1_, k2_, k3_, k4_, k5_⟩ := HCS.out x hx
        clear hx
        go_simp
        try with_reducible rfl
      rotate_left
      · simp only [Act.put, List.setIfInBounds_toArray, List.set_cons_zero, List.set_cons_succ]
        try exact rfl
      refine step_append_at _ (by rfl) _ _ 22 (by rfl) 0 3 i3 (.int .i64 0) 1 8 Try.underlying22 qi q0 q1 q2 rfl (by decide) (.slice va2 lw.length vc2) lw.length (lits lw) (by rfl) (by exact HVE.out) ⟨W12.heap.size, 0, none⟩ 1 1 [.int .i64 (l.length : Int)] (by rfl) (by rfl) (World.news_of_block (cs := #[.int .i64 (l.length : Int)]) (t := 3) (fr := (0, 0)) ((HGE.out.block _ (by simp) (fun e => by have := HMO2.out.lt; have := Option.some.inj e; omega)).trans (heap_alloc_new W12 _))) (one_i64 _) (by unfold maxLen; omega) (by omega) (Nat.zero_le _) ?_
      intro v' w15 hown9 hgrow9 _ hat9
      obtain ⟨g8, cc8, rfl⟩ := Joins.ownsRow_form hown9 (by omega)
      have hS9 : BlkS W12 bl2 w15 := hS2.grown HBZ.out hgrow9 HNR.out
      have HG9 := Lib.hid hgrow9
      have HO9 := Lib.hid hown9
      have HA9 := Lib.hid hat9
      clear hgrow9 hown9 hat9 hS2
      refine hK' _ _ (fun _ => hS9) ?_
      clear hK' K'
      obtain ⟨w16, hrun9, hM16, hg16⟩ := HBACK.out w15 (.slice (some ⟨g8, 0, none⟩) (lw.length + 1) cc8) (upF fw (whF.key (p, i, d)) (some (.slice (some ⟨g8, 0, none⟩) (lw.length + 1) cc8))) (HG9.out.block bw (by have := HMO2.out.lt; have := HCE.out; omega) (fun e => by
        have h9 : Gi bw = .whv p i d := HVW.out.2 bw e.symm
        rw [show Gi bw = Rl.whr from HTO2.out] at h9; cases h9)) (upF_same _ _ _) (fun x _ hx => upF_other hx)
      obtain ⟨G4, hF16, hT16, hO16⟩ := FamF.pushE (F := whF) (i0 := (p, i, d)) (C' := whC l (p, is) (i + 1)) HFW.out HGOOD.out HM.out.out HGE.out HZE.out (by rw [← HLW.out]; exact HO9.out) (show wE.grownBy w15 ((fw (whF.key (p, i, d))).getD nilS).ownBlock by rw [show (fw (whF.key (p, i, d))).getD nilS = _ from HVB.out]; exact HG9.out)
        (show _ = ((fw (whF.key (p, i, d))).getD nilS).ownBlock ∨ _ by rw [show (fw (whF.key (p, i, d))).getD nilS = _ from HVB.out]; exact HA9.out) (whC_here l (p, is) HID.out) (fun x hx => whC_there l (p, is) HID.out hx) hM16 hg16 (upF_same _ _ _) (fun x _ hx => upF_other hx)
      have hT16' : Tr (fun r => (∃ p i d, r = .whv p i d) ∨ r = .whr) Gi W12 G4 w16 := hT16.wide (fun r hr => hr.imp (fun h => ⟨p, i, d, h⟩) id)
      have HM16 := Lib.hid (HM.out.whTo (by rw [← HBW.out]; exact hF16) hT16' hO16)
      have HC16 := Lib.hid (HC.out.tr hT16' (by simp))
      have HT16 := Lib.hid (HT.out.trans (hT16'.wide (fun r hr => by rcases hr with ⟨_, _, _, rfl⟩ | rfl <;> exact ⟨by simp, by simp, by simp⟩)))
      clear hM16 hg16 hF16 hT16 hO16 hT16'
      refine wpTL_one (by kernel_rfl) (fun K' hK' => ?_)
      refine step_entryStore (by rfl) _ _ _ 48 (by rfl) _ _ _ (by rfl) (by rfl) (by rfl) hrun9 ?_
      refine hK' _ _ (fun h => absurd rfl h) ?_
      clear hK' K'
      refine wpTL_nil (by kernel_rfl) ?_
      clear hS9 hrun9 HCS HBZ HNR HNB HM HC HT HMr HCr HTr
      go_wp2
      go_roundw
      case rel => exact ⟨i + 1, G4, by go_num, by omega, HM16, HC16, HT16⟩
      case measure => simp only [intOf]; omega
    · have e : i = n' := by omega
      subst e
      go_upto_region 14 with fail
      obtain ⟨W14, hW14⟩ : ∃ W14, W14 = wr.drew := ⟨_, rfl⟩
      have hb14 : Below wr.heap.size wr W14 := by rw [hW14]; exact drew_below _ _
      have HM := Lib.hid (HMr.out.up hb14)
      have HC := Lib.hid (HCr.out.tr (Tr.up (ex := fun _ => False) hb14) (fun h => h))
      have HT := Lib.hid (HTr.out.trans (Tr.up hb14))
      obtain ⟨ua, uc, huv⟩ : ∃ a c, V2.uv = .slice a fs.length c := by
        rcases Joins.ownsRow_forms HM.out.undo.row with ⟨h1, h2⟩ | ⟨g, cap, h1⟩
        · exact ⟨none, 0, by rw [h1]; simp [h2]⟩
        · exact ⟨_, cap, h1⟩
      have HUV := Lib.hid huv
      have hrow := HM.out.undo.row
      rw [huv] at hrow
      have HROWU := Lib.hid hrow
      obtain ⟨bl2, hbl⟩ : ∃ bl : List Nat, bl = [Z, X] := ⟨_, rfl⟩
      have HBL2 := Lib.hid hbl
      have hlX := HM.out.blk.lt
      have hl0 : Z < W14.heap.size := (Array.getElem?_eq_some_iff.1 HC.out.b0).1
      have HBZ : Hid (∀ b ∈ bl2, b < W14.heap.size) := Lib.hid (by rw [hbl]; intro b hb; simp at hb; omega)
      have hS0 : BlkS W14 bl2 W14 := BlkS.refl _ _
      have HCS : Hid (∀ x, BlkS W14 bl2 x → x.cell? ⟨Z, 0, none⟩ = some (.pointer (some ⟨X, 0, none⟩)) ∧ x.cell? ⟨X, 2, none⟩ = some (.slice ua fs.length uc)) := Lib.hid (by
        intro x hx
        refine ⟨hx.cell (by rw [hbl]; simp) ?_, hx.cell (by rw [hbl]; simp) ?_⟩
        · have := HC.out.b0; simp only [World.cell?, this]; rfl
        · rw [← huv]; exact HM.out.blk.cells.2.2.1)
      have HNR : Hid (∀ b ∈ bl2, some b ≠ (Value.slice ua fs.length uc).ownBlock) := Lib.hid (by
        rw [hbl, ← huv]
        intro b hb e
        have e1 := HM.out.undo.tagged b e.symm
        simp at hb
        rcases hb with rfl | rfl
        · rw [HC.out.t0] at e1; cases e1
        · rw [HM.out.tag] at e1; cases e1)
      have hfl : fs.length ≤ 4194304 := by rw [← HL.out]; omega
      clear hb14 huv hrow hbl hlX hl0
      refine wp_region_TL (BlkS W14 bl2) 10 (by kernel_rfl) ?_
      rw [← hW14]
      clear hW14
      refine wpTL_take _ ?_ rfl (by kernel_rfl) (fun _ _ _ h => h) (by assumption) (Or.inl ⟨by rfl, fun x hx => ?_⟩) ?_
      rotate_left
      · obtain ⟨k0_, k1_⟩ := HCS.out x hx
        clear hx
        go_simp
        try with_reducible rfl
      simp only [Act.put, List.setIfInBounds_toArray, List.set_cons_zero, List.set_cons_succ]
      refine wpTL_take _ ?_ rfl (by kernel_rfl) (fun _ _ _ h => h) (by assumption) (Or.inl ⟨by rfl, fun x hx => ?_⟩) ?_
      rotate_left
      · obtain ⟨k0_, k1_⟩ := HCS.out x hx
        clear hx
        go_simp
        try with_reducible rfl
      simp only [Act.put, List.setIfInBounds_toArray, List.set_cons_zero, List.set_cons_succ]
      refine wpTL_take _ ?_ rfl (by kernel_rfl) (fun _ _ _ h => h) (by assumption) (Or.inl ⟨by rfl, fun x hx => ?_⟩) ?_
      rotate_left
      · obtain ⟨k0_, k1_⟩ := HCS.out x hx
        clear hx
        go_simp
        try with_reducible rfl
      simp only [Act.put, List.setIfInBounds_toArray, List.set_cons_zero, List.set_cons_succ]
      refine wpTL_take _ ?_ rfl (by kernel_rfl) (fun _ _ _ h => h) (by assumption) (Or.inl ⟨by rfl, fun x hx => ?_⟩) ?_
      rotate_left
      · obtain ⟨k0_, k1_⟩ := HCS.out x hx
        clear hx
        go_simp
        try with_reducible rfl
      simp only [Act.put, List.setIfInBounds_toArray, List.set_cons_zero, List.set_cons_succ]
      refine wpTL_take _ ?_ rfl (by kernel_rfl) (fun _ _ _ h => h) (by assumption) (Or.inl ⟨by rfl, fun x hx => ?_⟩) ?_
      rotate_left
      · obtain ⟨k0_, k1_⟩ := HCS.out x hx
        clear hx
        go_simp
        try with_reducible rfl
      simp only [Act.put, List.setIfInBounds_toArray, List.set_cons_zero, List.set_cons_succ]
      refine wpTL_take _ ?_ rfl (by kernel_rfl) (fun _ _ _ h => h) (by assumption) (Or.inl ⟨by rfl, fun x hx => ?_⟩) ?_
      rotate_left
      · obtain ⟨k0_, k1_⟩ := HCS.out x hx
        clear hx
        go_simp
        try with_reducible rfl
      simp only [Act.put, List.setIfInBounds_toArray, List.set_cons_zero, List.set_cons_succ]
      refine wpTL_one (by kernel_rfl) (fun K' hK' => ?_)
      go_simp
      refine hK' _ _ (fun _ => hS0.alloc HBZ.out _) ?_
      clear hK' K'
      have hS1 : BlkS W14 bl2 (W14.alloc (.cells #[.func (.func 30) #[] #[.pointer (some ⟨Z, 0, none⟩), .pointer (some ⟨c1, 0, none⟩), .pointer (some ⟨Z + 1, 0, none⟩), .pointer (some ⟨c3, 0, none⟩)]] 1)) := hS0.alloc HBZ.out _
      clear hS0
      refine wpTL_one (by kernel_rfl) (fun K' hK' => ?_)
      refine step_append_at _ (by rfl) _ _ 50 (by rfl) 0 1 i1 .nilFunc 1 8 Try.underlying50 fi fi0 fi1 fi2 rfl (by decide) (.slice ua fs.length uc) fs.length fs (by rfl) (by exact HROWU.out.alloc _) ⟨W14.heap.size, 0, none⟩ 1 1 [.func (.func 30) #[] #[.pointer (some ⟨Z, 0, none⟩), .pointer (some ⟨c1, 0, none⟩), .pointer (some ⟨Z + 1, 0, none⟩), .pointer (some ⟨c3, 0, none⟩)]] (by rfl) (by rfl) (by exact cell_one_new _ _ _) (by intro x hx; simp at hx; subst hx; rfl) (by unfold maxLen; omega) (by omega) (Nat.zero_le _) ?_
      intro v' w15 hown9 hgrow9 _ hat9
      obtain ⟨g8, cc8, rfl⟩ := Joins.ownsRow_form hown9 (by omega)
      have hS9 : BlkS W14 bl2 w15 := hS1.grown HBZ.out hgrow9 HNR.out
      have HG9 := Lib.hid hgrow9
      have HO9 := Lib.hid hown9
      have HA9 := Lib.hid hat9
      clear hgrow9 hown9 hat9 hS1
      refine hK' _ _ (fun _ => hS9) ?_
      clear hK' K'
      refine wpTL_one (by kernel_rfl) (fun K' hK' => ?_)
      go_simp
      refine hK' _ _ (fun _ => hS9) ?_
      clear hK' K'
      refine wpTL_one (by kernel_rfl) (fun K' hK' => ?_)
      go_simp
      refine hK' _ _ (fun _ => hS9) ?_
      clear hK' K'
      have hw9 : w15.heap[X]? = W14.heap[X]? := hS9 X (by rw [HBL2.out]; simp)
      have hblk9 : Blk w15 X V2 := by unfold Blk; rw [hw9]; exact HM.out.blk
      have g1 := hblk9.cells.2.2.1
      have g2 := hblk9.froz.2.1
      clear hw9 hblk9
      refine wpTL_one (by kernel_rfl) (fun K' hK' => ?_)
      go_simp
      refine hK' _ _ (fun h => absurd rfl h) ?_
      clear hK' K'
      refine wpTL_nil (by kernel_rfl) ?_
      obtain ⟨w16, hw16⟩ : ∃ w16, w16 = w15.setCell ⟨X, 2, none⟩ (.slice (some ⟨g8, 0, none⟩) (fs.length + 1) cc8) := ⟨_, rfl⟩
      rw [← hw16]
      obtain ⟨G5, hM17, hT17⟩ := HM.out.undoIn HL.out HC.out HO9.out (by rw [HUV.out]; exact HG9.out) (by rw [HUV.out]; exact HA9.out)
      rw [← hw16] at hM17 hT17
      have HT17 := Lib.hid (HT.out.trans (hT17.wide (fun r hr => by rcases hr with rfl | rfl <;> exact ⟨by simp, by simp, by simp⟩)))
      have HST := Lib.hid (Mid.store hM17 (fun x => by rw [HNL.out]; exact (whC_end l (p, is) x).symm) (by simp only; rw [HVN2.out.1]; have := HN1'.out; omega) (by simp only; rw [HVN2.out.1]; have := HN1'.out; omega) (by simp only; rw [HVN2.out.1]; have := HN1'.out; omega)
        (by simp only; rw [HVN2.out.1, List.length_append]; have := HN1'.out; simp; omega) (fun r hr => by
          rcases List.mem_append.1 hr with hr | hr
          · exact HS.out.fits r hr
          · simp at hr; subst hr; exact ⟨HF.out, HK.out⟩) (List.nodup_append.2 ⟨HS.out.nodup, by simp, fun x hx y hy e => by simp at hy; subst hy; subst e; exact HNEW.out hx⟩) HS.out.okA)
      have HLL : Hid ((l ++ [(p, is)]).length = (fs ++ [clo Z c1 (Z + 1) c3]).length) := Lib.hid (by simp [HL.out])
      clear hw16 hM17 hT17 g1 g2 hS9
      go_wp2
      refine bodyPost_ret (results_none rfl _ _ _) rfl ?_
      exact ⟨rfl, G5, _, _, HST.out, HLL.out, by simp only; rw [HVN2.out.1]; exact HN1'.out, HVN2.out.2.2.1, HT17.out⟩
end Go.Proofs.Ytmkoejpdoeblkaa
