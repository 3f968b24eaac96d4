/-
  Texts of this seat, one behind the other: W14. Conditions: those that each of them states.
-/
import Derived.Test.YtncdjkdpoinfaaaGreatDoorG7
import Derived.Laws.BytesArg
import Derived.BigRegion
import Derived.Maps.AppendAt
/-
  The walk of lex's reader.text. Conditions: the text is at most 65536 bytes long; the reader lies in a block of its own, at a quote.
-/
namespace Go.Proofs.YtncdjkdpoinfaaaGreatDoor
open Go.RowKit Go.Shelf Pl

def byteV (c : UInt8) : Value := .int .u8 (c.toNat : Int)
theorem bytes_one (l : List UInt8) : ∀ u ∈ l.map byteV, u.oneCell' = true := by
  intro u hu
  obtain ⟨d, _, rfl⟩ := List.mem_map.1 hu
  rfl
theorem Tryz.info5 : (Tryz.prog.info? 5).map (fun i => (i.zero, i.size, i.bytes)) = some (some (.int .u8 0), 1, 1) := by kernel_rfl
theorem conv_bytes {w : World} {base : Nat} {v : Value} {acc : List UInt8} (h : w.ownsRow base 5 1 v acc.length (acc.map byteV)) :
    (convert 131 9 v).run Tryz.prog w = .ok (.string ⟨acc.toArray⟩) w := by
  rcases Joins.ownsRow_forms h with ⟨rfl, hn⟩ | ⟨g, cap, rfl⟩
  · have : acc = [] := List.length_eq_zero_iff.1 hn
    subst this
    rw [run_convert_bytes_nil w 131 5 Tryz.underlying131 Tryz.underlying5 0 0 9 Tryz.underlying9]
    rfl
  · refine run_convert_bytes_back w 131 9 5 ⟨g, 0, none⟩ cap acc Tryz.underlying131 Tryz.underlying5 Tryz.underlying9 ?_
    intro j hj
    exact World.ownsRow.cells h rfl j _ (by rw [List.getElem?_map, List.getElem?_eq_getElem hj]; rfl)

/-- What lies in memory while a text is read: the reader, the bytes so far; of the rest nothing has turned. -/
structure TxS (s : ByteArray) (X : Nat) (w1 : World) (v : Value) (q : Nat) (acc : List UInt8) (w : World) : Prop where
  rd : RdB w X s q
  bes : Bes X w1 w
  own : w.ownsRow w1.heap.size 5 1 v acc.length (acc.map byteV)
section
variable {s : ByteArray} {X q : Nat} {w1 w w' : World} {v : Value} {acc : List UInt8}
theorem TxS.drewN (h : TxS s X w1 v q acc w) (n : Nat) : TxS s X w1 v q acc (w.drewN n) := ⟨h.rd, h.bes.drewN n, h.own⟩
theorem TxS.set (h : TxS s X w1 v q acc w) (hX : X < w1.heap.size) {p : Nat} {i : Int} (hi : i = (p : Int)) : TxS s X w1 v p acc (w.setCell ⟨X, 1, none⟩ (.int .i64 i)) :=
  ⟨RdB.set' h.rd hi, h.bes.set (.inl rfl) _, ownsRow_setCell_below h.own hX _⟩
theorem TxS.push (h : TxS s X w1 v q acc w) (hX : X < w1.heap.size) (o : Obj) {c : UInt8} {v' : Value} (h1 : w'.ownsRow w1.heap.size 5 1 v' (acc.length + 1) (acc.map byteV ++ [byteV c])) (h2 : (w.alloc o).grownBy w' v.ownBlock) : TxS s X w1 v' q (acc ++ [c]) w' := by
  have hv := World.ownsRow.lt h.own
  have hb : ∀ k, k < w.heap.size → some k ≠ v.ownBlock → w'.heap[k]? = w.heap[k]? := fun k hk hne => (h2.block k (by simp; omega) hne).trans (Below.heap_alloc _ _ _ hk)
  refine ⟨?_, ⟨h2.os.trans h.bes.os, h2.tape.trans h.bes.tape, h2.output.trans h.bes.output, ?_, ?_⟩, ?_⟩
  · unfold RdB
    rw [hb X h.rd.lt (fun e => by have := (hv X e.symm).1; omega)]
    exact h.rd
  · have := h.bes.size; have := h2.size; simp at this; omega
  · intro k hk hx
    rw [hb k (by have := h.bes.size; omega) (fun e => by have := (hv k e.symm).1; omega)]
    exact h.bes.block k hk hx
  · rw [List.length_append, List.map_append]; exact h1
end
theorem drew_heap (w : World) : w.drew.heap = w.heap := rfl
theorem TokIs.drew {s : ByteArray} {X o : Nat} {w w' : World} {N : Nx} {e : Ending} (h : TokIs s X o w N e w') : TokIs s X o w N e w'.drew := by
  cases N with
  | fin => exact ⟨h.1, h.2.drew⟩
  | fault c a => exact ⟨h.1, h.2.drew⟩
  | tok kind op text int rest =>
    obtain ⟨⟨t, h1, h2, h3⟩, h4⟩ := h
    exact ⟨⟨t, h1, h2, h3⟩, h4.drew⟩
theorem next_txt {s : ByteArray} {o : Nat} (ho : o < s.size) (h : s[o].toNat = 34) : next ((L s).drop o) = nextText ((L s).drop o) ((L s).drop (o + 1)) := by
  rw [L_drop ho]
  simp only [next]
  rw [if_neg (by simp [isD, h]), if_neg (by omega), if_neg (by simp [isW, isD, isU, isL, h]), if_pos h]
theorem size_le_bound {s : ByteArray} (h : s.size ≤ 65536) : (s.size : Int) ≤ 65536 := by omega

set_option maxRecDepth 100000 in
set_option maxHeartbeats 3200000 in
theorem text_any (s : ByteArray) (o X : Nat) (w : World) (hs : s.size ≤ 65536) (ho : o < s.size) (h34 : s[o].toNat = 34) (hR : RdB w X s o) :
    Calls Tryz.prog 65 #[.pointer (some ⟨X, 0, none⟩)] w fun e w' => TokIs s X o w (next ((L s).drop o)) e w' := by
  have hX := hR.lt
  rw [next_txt ho h34]
  obtain ⟨NX, hNX⟩ : ∃ NX, NX = nextText ((L s).drop o) ((L s).drop (o + 1)) := ⟨_, rfl⟩
  rw [← hNX]
  obtain ⟨T, hT⟩ : ∃ T, T = txt [] ((L s).drop (o + 1)) := ⟨_, rfl⟩
  unfold nextText at hNX
  rw [← hT] at hNX
  have HNX := Lib.hid hNX
  have HT := Lib.hid hT
  have HR := Lib.hid hR
  obtain ⟨r0, r1⟩ := hR.rd
  have fr := hR.froz
  obtain ⟨w1, hw1⟩ : ∃ w1, w1 = ((w.alloc (.cells #[.int .i64 0, .string noS, .int .i64 0, .int .i64 0, .int .i64 0, .int .i64 0] 62)).alloc (.cells #[.int .i64 0, .int .i64 0, .int .i64 0] 27)) := ⟨_, rfl⟩
  obtain ⟨p0, p1, p2⟩ := two_new X w
  rw [← hw1] at p0 p1 p2
  have P0 := Lib.hid p0
  have P1 := Lib.hid p1
  have P2 := Lib.hid p2
  have hsz : w1.heap.size = w.heap.size + 2 := by rw [hw1]; simp
  have hX1 : X < w1.heap.size := by omega
  have H0 : Hid (TxS s X w1 (.slice none 0 0) o [] w1) := Lib.hid ⟨by rw [hw1]; exact RdB.alloc (RdB.alloc HR.out _) _, Bes.refl _ _, World.ownsRow_nil _ _ _ _⟩
  have HW1 : Hid (w1 = ((w.alloc (.cells #[.int .i64 0, .string { data := #[] }, .int .i64 0, .int .i64 0, .int .i64 0, .int .i64 0] 62)).alloc (.cells #[.int .i64 0, .int .i64 0, .int .i64 0] 27))) := Lib.hid hw1
  clear hT hR p0 p1 p2 hw1 h34 hNX
  have ho0 : (0 : Int) ≤ (o : Int) := by omega
  have hwo : IntKind.i64.wrap ((o : Int) + 1) = (o : Int) + 1 := by rw [IntKind.wrap_i64]; omega
  obtain ⟨i5, bi, b0, b1, b2⟩ := info_parts Tryz.info5
  go_enter Tryz.func65, Tryz.ntmps65
  go_upto_region 3 with fail
  rw [← HW1.out]
  obtain ⟨t0, t1⟩ := H0.out.rd.rd
  have tf := H0.out.rd.froz
  clear r0 r1 fr
  go_wp2
  go_loopw [5] (fun v wr => ∃ (q : Nat) (acc : List UInt8), o + 1 ≤ q ∧ q ≤ s.size ∧ acc.length ≤ 255 ∧ Hid (TxS s X w1 v q acc wr) ∧ Hid (txt acc ((L s).drop q) = T)) (fun _ wr => s.size - atOf wr X)
  case atStart => exact ⟨o + 1, [], Nat.le_refl _, ho, by simp, Lib.hid (H0.out.set hX1 (by omega)), Lib.hid HT.out.symm⟩
  case round =>
    obtain ⟨q, acc, hoq, hq, hacc, HS, HQ⟩ := hrel
    obtain ⟨s0, s1⟩ := HS.out.rd.rd
    have sf := HS.out.rd.froz
    have HA := Lib.hid HS.out.rd.atOf
    clear t0 t1 tf
    have hq0 : (0 : Int) ≤ (q : Int) := by omega
    have hwsz := HS.out.bes.size
    by_cases h1 : q < s.size
    · have hqI : (q : Int) < (s.size : Int) := by omega
      have hqd : decide ((q : Int) ≥ (s.size : Int)) = false := decide_eq_false (by omega)
      have HD := Lib.hid (L_drop h1)
      have hwq : IntKind.i64.wrap ((q : Int) + 1) = (q : Int) + 1 := by rw [IntKind.wrap_i64]; omega
      by_cases hlow : s[q].toNat < 32
      · have elow : decide ((s[q].toNat : Int) < 32) = true := decide_eq_true (by omega)
        have HN : Hid (NX = .fault 11 ((L s).drop o)) := Lib.hid (by
          have h5 := HQ.out
          rw [HD.out, txt_low hlow] at h5
          rw [HNX.out, ← h5])
        clear HD HQ HNX
        go_wp2_with fail
        go_quiet (fail)
        go_wp2_with fail
        generalize hwN : wr.drewN nq = wN
        have HSN : Hid (TxS s X w1 u5 q acc wN) := Lib.hid (by rw [← hwN]; exact HS.out.drewN _)
        clear hwN
        refine (fault_any X 11 o _).mono ?_
        rintro e w2 ⟨he, hb⟩
        have he2 : e = .returned (.tuple #[.agg #[.int .i64 0, .string noS, .int .i64 0, .int .i64 0, .int .i64 0, .int .i64 0], .agg #[.int .i64 11, .int .i64 0, .int .i64 (o : Int)]]) := he
        subst he2
        clear he
        have q1 : w2.heap[w.heap.size]? = some (.cells #[.int .i64 0, .string noS, .int .i64 0, .int .i64 0, .int .i64 0, .int .i64 0] 62) := by
          rw [hb.block w.heap.size (by have := HSN.out.bes.size; omega)]
          exact (HSN.out.bes.block _ (by omega) (by omega)).trans P1.out
        have q2 : w2.heap[w.heap.size + 1]? = some (.cells #[.int .i64 0, .int .i64 0, .int .i64 0] 27) := by
          rw [hb.block (w.heap.size + 1) (by have := HSN.out.bes.size; omega)]
          exact (HSN.out.bes.block _ (by omega) (by omega)).trans P2.out
        obtain ⟨a0, a1, a2, a3, a4, a5, b0, b1, b2, b3, b4, b5⟩ := row6 q1
        obtain ⟨c0, c1, c2, d0, d1, d2⟩ := row3 q2
        obtain ⟨g1, g2⟩ := nine_set (x0 := .int .i64 0) (x1 := .string noS) (x2 := .int .i64 0) (x3 := .int .i64 0) (x4 := .int .i64 0) (x5 := .int .i64 0) (y0 := .int .i64 11) (y1 := .int .i64 0) (y2 := .int .i64 (o : Int)) q1 q2
        have G1 := Lib.hid g1
        have G2 := Lib.hid g2
        have HB : Hid (Bes X w (nine w2 w.heap.size (w.heap.size + 1) (.int .i64 0) (.string noS) (.int .i64 0) (.int .i64 0) (.int .i64 0) (.int .i64 0) (.int .i64 11) (.int .i64 0) (.int .i64 (o : Int)))) := Lib.hid (nine_bes ((P0.out.trans HSN.out.bes).trans (Bes.of hb)) (by omega) (by omega))
        clear g1 g2 q1 q2 hb
        go_wp2
        refine bodyPost_ret (results_two_rows rfl _ _ w.heap.size (w.heap.size + 1) 62 27 _ _ (0, 0) (0, 0) _ _ rfl G1.out Tryz.underlying62 rfl Tryz.size32 rfl G2.out Tryz.underlying27 rfl Tryz.size25) rfl ?_
        exact fault_end HN.out (by rw [List.length_drop, L_len]; omega) HB.out
      · have elow : decide ((s[q].toNat : Int) < 32) = false := decide_eq_false (by omega)
        obtain ⟨c, hc⟩ : ∃ c, c = s[q] := ⟨_, rfl⟩
        obtain ⟨ua, uc, rfl⟩ : ∃ ua uc, u5 = .slice ua acc.length uc := by
          rcases Joins.ownsRow_forms HS.out.own with ⟨h5, h6⟩ | ⟨g, cap, h5⟩
          · exact ⟨none, 0, by rw [h5, h6]⟩
          · exact ⟨_, cap, h5⟩
        go_wp2_with fail
        go_quiet (fail)
        generalize hwM : wr.drewN nq = wM
        have HSM : Hid (TxS s X w1 (.slice ua acc.length uc) q acc wM) := Lib.hid (by rw [← hwM]; exact HS.out.drewN _)
        obtain ⟨m0, m1⟩ := HSM.out.rd.rd
        clear hwM s0 s1 sf
        go_wp2_with fail
        go_quiet (fail)
        generalize hwN : wM.drewN nq = wN
        have HSN : Hid (TxS s X w1 (.slice ua acc.length uc) q acc wN) := Lib.hid (by rw [← hwN]; exact HSM.out.drewN _)
        obtain ⟨n0, n1⟩ := HSN.out.rd.rd
        have nf := HSN.out.rd.froz
        clear hwN m0 m1
        rw [← hc] at HD elow ⊢
        have HC := Lib.hid hc
        clear hc
        by_cases c34 : c.toNat = 34
        · have e34 : ((c.toNat : Int) == 34) = true := by simp; omega
          have HN : Hid (NX = .tok 4 0 acc 0 ((L s).drop (q + 1))) := Lib.hid (by
            have h5 := HQ.out
            rw [HD.out, txt_close c34] at h5
            rw [HNX.out, ← h5])
          clear HD HQ HNX c34
          go_upto_region 9 with fail
          obtain ⟨w5, hw5⟩ : ∃ w5, w5 = wN.setCell ⟨X, 1, none⟩ (.int .i64 ((q : Int) + 1)) := ⟨_, rfl⟩
          rw [← hw5]
          have HS5 : Hid (TxS s X w1 (.slice ua acc.length uc) (q + 1) acc w5) := Lib.hid (by rw [hw5]; exact HSN.out.set hX1 (by omega))
          have q1 : w5.heap[w.heap.size]? = some (.cells #[.int .i64 0, .string noS, .int .i64 0, .int .i64 0, .int .i64 0, .int .i64 0] 62) := (HS5.out.bes.block _ (by omega) (by omega)).trans P1.out
          have q2 : w5.heap[w.heap.size + 1]? = some (.cells #[.int .i64 0, .int .i64 0, .int .i64 0] 27) := (HS5.out.bes.block _ (by omega) (by omega)).trans P2.out
          have z1 : w5.cell? ⟨X, 1, none⟩ = some (.int .i64 ((q : Int) + 1)) := HS5.out.rd.rd.2
          obtain ⟨a0, a1, a2, a3, a4, a5, v0, v1, v2, v3, v4, v5⟩ := row6 q1
          obtain ⟨c0, c1, c2, d0, d1, d2⟩ := row3 q2
          obtain ⟨zs, hzs⟩ : ∃ zs : ByteArray, zs = ⟨acc.toArray⟩ := ⟨_, rfl⟩
          have kc1 : (convert 131 9 (.slice ua acc.length uc)).run Tryz.prog w5.drew = .ok (.string zs) w5.drew := by rw [hzs]; exact conv_bytes (show World.ownsRow w5.drew w1.heap.size 5 1 _ _ _ from HS5.out.own)
          have kc2 : (convert 131 9 (.slice ua acc.length uc)).run Tryz.prog w5.drew.drew = .ok (.string zs) w5.drew.drew := by rw [hzs]; exact conv_bytes (show World.ownsRow w5.drew.drew w1.heap.size 5 1 _ _ _ from HS5.out.own)
          have kc3 : (convert 131 9 (.slice ua acc.length uc)).run Tryz.prog w5.drew.drew.drew = .ok (.string zs) w5.drew.drew.drew := by rw [hzs]; exact conv_bytes (show World.ownsRow w5.drew.drew.drew w1.heap.size 5 1 _ _ _ from HS5.out.own)
          have kc4 : (convert 131 9 (.slice ua acc.length uc)).run Tryz.prog w5.drew.drew.drew.drew = .ok (.string zs) w5.drew.drew.drew.drew := by rw [hzs]; exact conv_bytes (show World.ownsRow w5.drew.drew.drew.drew w1.heap.size 5 1 _ _ _ from HS5.out.own)
          have kc5 : (convert 131 9 (.slice ua acc.length uc)).run Tryz.prog w5.drew.drew.drew.drew.drew = .ok (.string zs) w5.drew.drew.drew.drew.drew := by rw [hzs]; exact conv_bytes (show World.ownsRow w5.drew.drew.drew.drew.drew w1.heap.size 5 1 _ _ _ from HS5.out.own)
          have kc6 : (convert 131 9 (.slice ua acc.length uc)).run Tryz.prog w5.drew.drew.drew.drew.drew.drew = .ok (.string zs) w5.drew.drew.drew.drew.drew.drew := by rw [hzs]; exact conv_bytes (show World.ownsRow w5.drew.drew.drew.drew.drew.drew w1.heap.size 5 1 _ _ _ from HS5.out.own)
          have kc7 : (convert 131 9 (.slice ua acc.length uc)).run Tryz.prog w5.drew.drew.drew.drew.drew.drew.drew = .ok (.string zs) w5.drew.drew.drew.drew.drew.drew.drew := by rw [hzs]; exact conv_bytes (show World.ownsRow w5.drew.drew.drew.drew.drew.drew.drew w1.heap.size 5 1 _ _ _ from HS5.out.own)
          have kc8 : (convert 131 9 (.slice ua acc.length uc)).run Tryz.prog w5.drew.drew.drew.drew.drew.drew.drew.drew = .ok (.string zs) w5.drew.drew.drew.drew.drew.drew.drew.drew := by rw [hzs]; exact conv_bytes (show World.ownsRow w5.drew.drew.drew.drew.drew.drew.drew.drew w1.heap.size 5 1 _ _ _ from HS5.out.own)
          have kc9 : (convert 131 9 (.slice ua acc.length uc)).run Tryz.prog w5.drew.drew.drew.drew.drew.drew.drew.drew.drew = .ok (.string zs) w5.drew.drew.drew.drew.drew.drew.drew.drew.drew := by rw [hzs]; exact conv_bytes (show World.ownsRow w5.drew.drew.drew.drew.drew.drew.drew.drew.drew w1.heap.size 5 1 _ _ _ from HS5.out.own)
          have kc10 : (convert 131 9 (.slice ua acc.length uc)).run Tryz.prog w5.drew.drew.drew.drew.drew.drew.drew.drew.drew.drew = .ok (.string zs) w5.drew.drew.drew.drew.drew.drew.drew.drew.drew.drew := by rw [hzs]; exact conv_bytes (show World.ownsRow w5.drew.drew.drew.drew.drew.drew.drew.drew.drew.drew w1.heap.size 5 1 _ _ _ from HS5.out.own)
          have HZ := Lib.hid hzs
          have Q1 := Lib.hid q1
          have Q2 := Lib.hid q2
          clear hzs q1 q2 hw5 n0 n1 nf elow e34
          go_region
          obtain ⟨g1, g2⟩ := nine_set (x0 := .int .i64 4) (x1 := .string zs) (x2 := .int .i64 0) (x3 := .int .i64 0) (x4 := .int .i64 (o : Int)) (x5 := .int .i64 ((q : Int) + 1)) (y0 := .int .i64 0) (y1 := .int .i64 0) (y2 := .int .i64 0) Q1.out Q2.out
          have G1 : Hid ((nine w5 w.heap.size (w.heap.size + 1) (.int .i64 4) (.string zs) (.int .i64 0) (.int .i64 0) (.int .i64 (o : Int)) (.int .i64 ((q : Int) + 1)) (.int .i64 0) (.int .i64 0) (.int .i64 0)).drew.heap[w.heap.size]? = some (.cells #[.int .i64 4, .string zs, .int .i64 0, .int .i64 0, .int .i64 (o : Int), .int .i64 ((q : Int) + 1)] 62)) := Lib.hid (by rw [drew_heap]; exact g1)
          have G2 : Hid ((nine w5 w.heap.size (w.heap.size + 1) (.int .i64 4) (.string zs) (.int .i64 0) (.int .i64 0) (.int .i64 (o : Int)) (.int .i64 ((q : Int) + 1)) (.int .i64 0) (.int .i64 0) (.int .i64 0)).drew.heap[w.heap.size + 1]? = some (.cells #[.int .i64 0, .int .i64 0, .int .i64 0] 27)) := Lib.hid (by rw [drew_heap]; exact g2)
          have hfin := tok_end (X := X) (o := o) (kind := 4) (op := 0) (t := zs) (E := q + 1) (w := w) HN.out (by rw [HZ.out]; rfl) (by rw [List.length_drop, L_len]; omega) (nine_rd (B := w.heap.size) (C := w.heap.size + 1) (x0 := .int .i64 4) (x1 := .string zs) (x2 := .int .i64 0) (x3 := .int .i64 0) (x4 := .int .i64 (o : Int)) (x5 := .int .i64 ((q : Int) + 1)) (y0 := .int .i64 0) (y1 := .int .i64 0) (y2 := .int .i64 0) HS5.out.rd (by omega) (by omega)) (nine_bes (P0.out.trans HS5.out.bes) (by omega) (by omega))
          have HFIN : Hid (TokIs s X o w NX (.returned (.tuple #[TokV 4 zs 0 0 o (q + 1), FaultV 0 0])) (nine w5 w.heap.size (w.heap.size + 1) (.int .i64 4) (.string zs) (.int .i64 0) (.int .i64 0) (.int .i64 (o : Int)) (.int .i64 ((q : Int) + 1)) (.int .i64 0) (.int .i64 0) (.int .i64 0)).drew) := Lib.hid hfin.drew
          clear g1 g2 hfin
          go_wp2
          refine bodyPost_ret (results_two_rows rfl _ _ w.heap.size (w.heap.size + 1) 62 27 _ _ (0, 0) (0, 0) _ _ rfl G1.out Tryz.underlying62 rfl Tryz.size32 rfl G2.out Tryz.underlying27 rfl Tryz.size25) rfl ?_
          exact HFIN.out
        have e34 : ((c.toNat : Int) == 34) = false := by simp; omega
        by_cases c92 : c.toNat = 92
        · have e92 : ((c.toNat : Int) == 92) = true := by simp; omega
          go_wp2_with fail
          refine (lexEscape_any s q X _ hs h1 HSN.out.rd.rd).mono ?_
          rintro e w2 ⟨he, n2, rfl⟩
          generalize hwE : wN.drewN n2 = wE
          have HSE : Hid (TxS s X w1 (.slice ua acc.length uc) q acc wE) := Lib.hid (by rw [← hwE]; exact HSN.out.drewN _)
          obtain ⟨x0, x1⟩ := HSE.out.rd.rd
          have xf := HSE.out.rd.froz
          clear hwE n0 n1 nf
          cases hesc : esc ((L s).drop q) with
          | none =>
            rw [hesc] at he
            have he2 : e = .returned (.tuple #[.int .u8 0, .int .i64 0]) := he
            subst he2
            have HN : Hid (NX = .fault 12 ((L s).drop q)) := Lib.hid (by
              have h5 := HQ.out
              rw [HD.out, txt_bad c92 (by rw [← HD.out]; exact hesc), ← HD.out] at h5
              rw [HNX.out, ← h5])
            clear HD HQ HNX he hesc c92
            go_wp2_with fail
            refine (fault_any X 12 q _).mono ?_
            rintro e w2 ⟨he, hb⟩
            have he2 : e = .returned (.tuple #[.agg #[.int .i64 0, .string noS, .int .i64 0, .int .i64 0, .int .i64 0, .int .i64 0], .agg #[.int .i64 12, .int .i64 0, .int .i64 (q : Int)]]) := he
            subst he2
            clear he
            have q1 : w2.heap[w.heap.size]? = some (.cells #[.int .i64 0, .string noS, .int .i64 0, .int .i64 0, .int .i64 0, .int .i64 0] 62) := by
              rw [hb.block w.heap.size (by have := HSE.out.bes.size; omega)]
              exact (HSE.out.bes.block _ (by omega) (by omega)).trans P1.out
            have q2 : w2.heap[w.heap.size + 1]? = some (.cells #[.int .i64 0, .int .i64 0, .int .i64 0] 27) := by
              rw [hb.block (w.heap.size + 1) (by have := HSE.out.bes.size; omega)]
              exact (HSE.out.bes.block _ (by omega) (by omega)).trans P2.out
            obtain ⟨a0, a1, a2, a3, a4, a5, b0, b1, b2, b3, b4, b5⟩ := row6 q1
            obtain ⟨c0, c1, c2, d0, d1, d2⟩ := row3 q2
            obtain ⟨g1, g2⟩ := nine_set (x0 := .int .i64 0) (x1 := .string noS) (x2 := .int .i64 0) (x3 := .int .i64 0) (x4 := .int .i64 0) (x5 := .int .i64 0) (y0 := .int .i64 12) (y1 := .int .i64 0) (y2 := .int .i64 (q : Int)) q1 q2
            have G1 := Lib.hid g1
            have G2 := Lib.hid g2
            have HB : Hid (Bes X w (nine w2 w.heap.size (w.heap.size + 1) (.int .i64 0) (.string noS) (.int .i64 0) (.int .i64 0) (.int .i64 0) (.int .i64 0) (.int .i64 12) (.int .i64 0) (.int .i64 (q : Int)))) := Lib.hid (nine_bes ((P0.out.trans HSE.out.bes).trans (Bes.of hb)) (by omega) (by omega))
            clear g1 g2 q1 q2 hb
            go_wp2
            refine bodyPost_ret (results_two_rows rfl _ _ w.heap.size (w.heap.size + 1) 62 27 _ _ (0, 0) (0, 0) _ _ rfl G1.out Tryz.underlying62 rfl Tryz.size32 rfl G2.out Tryz.underlying27 rfl Tryz.size25) rfl ?_
            exact fault_end HN.out (by rw [List.length_drop, L_len]; omega) HB.out
          | some cn =>
            obtain ⟨d, k⟩ := cn
            rw [hesc] at he
            have he2 : e = .returned (.tuple #[.int .u8 (d.toNat : Int), .int .i64 (k : Int)]) := he
            subst he2
            obtain ⟨hk1, hk2⟩ := esc_len hesc
            rw [List.length_drop, L_len] at hk2
            have ek0 : ((k : Int) == 0) = false := by simp; omega
            have hwk : IntKind.i64.wrap ((q : Int) + (k : Int)) = (q : Int) + (k : Int) := by rw [IntKind.wrap_i64]; omega
            have HM : Hid ((if acc.length = 255 then Tx.long else txt (acc ++ [d]) ((L s).drop (q + k))) = T) := Lib.hid (by
              have h5 := HQ.out
              rw [HD.out, txt_esc c92 (by rw [← HD.out]; exact hesc), ← HD.out, List.drop_drop] at h5
              exact h5)
            clear HD HQ he hesc c92
            by_cases h255 : acc.length = 255
            · have HN : Hid (NX = .fault 15 ((L s).drop o)) := Lib.hid (by
                have h5 := HM.out
                rw [if_pos h255] at h5
                rw [HNX.out, ← h5])
              have e255 : ((acc.length : Int) == 255) = true := by simp; omega
              clear HM HNX h255
              go_wp2_with fail
              refine (fault_any X 15 o _).mono ?_
              rintro e w2 ⟨he, hb⟩
              have he2 : e = .returned (.tuple #[.agg #[.int .i64 0, .string noS, .int .i64 0, .int .i64 0, .int .i64 0, .int .i64 0], .agg #[.int .i64 15, .int .i64 0, .int .i64 (o : Int)]]) := he
              subst he2
              clear he
              have q1 : w2.heap[w.heap.size]? = some (.cells #[.int .i64 0, .string noS, .int .i64 0, .int .i64 0, .int .i64 0, .int .i64 0] 62) := by
                rw [hb.block w.heap.size (by have := HSE.out.bes.size; omega)]
                exact (HSE.out.bes.block _ (by omega) (by omega)).trans P1.out
              have q2 : w2.heap[w.heap.size + 1]? = some (.cells #[.int .i64 0, .int .i64 0, .int .i64 0] 27) := by
                rw [hb.block (w.heap.size + 1) (by have := HSE.out.bes.size; omega)]
                exact (HSE.out.bes.block _ (by omega) (by omega)).trans P2.out
              obtain ⟨a0, a1, a2, a3, a4, a5, b0, b1, b2, b3, b4, b5⟩ := row6 q1
              obtain ⟨c0, c1, c2, d0, d1, d2⟩ := row3 q2
              obtain ⟨g1, g2⟩ := nine_set (x0 := .int .i64 0) (x1 := .string noS) (x2 := .int .i64 0) (x3 := .int .i64 0) (x4 := .int .i64 0) (x5 := .int .i64 0) (y0 := .int .i64 15) (y1 := .int .i64 0) (y2 := .int .i64 (o : Int)) q1 q2
              have G1 := Lib.hid g1
              have G2 := Lib.hid g2
              have HB : Hid (Bes X w (nine w2 w.heap.size (w.heap.size + 1) (.int .i64 0) (.string noS) (.int .i64 0) (.int .i64 0) (.int .i64 0) (.int .i64 0) (.int .i64 15) (.int .i64 0) (.int .i64 (o : Int)))) := Lib.hid (nine_bes ((P0.out.trans HSE.out.bes).trans (Bes.of hb)) (by omega) (by omega))
              clear g1 g2 q1 q2 hb
              go_wp2
              refine bodyPost_ret (results_two_rows rfl _ _ w.heap.size (w.heap.size + 1) 62 27 _ _ (0, 0) (0, 0) _ _ rfl G1.out Tryz.underlying62 rfl Tryz.size32 rfl G2.out Tryz.underlying27 rfl Tryz.size25) rfl ?_
              exact fault_end HN.out (by rw [List.length_drop, L_len]; omega) HB.out
            · have HNT : Hid (txt (acc ++ [d]) ((L s).drop (q + k)) = T) := Lib.hid (by
                have h5 := HM.out
                rw [if_neg h255] at h5
                exact h5)
              have e255 : ((acc.length : Int) == 255) = false := by simp; omega
              have HWS := Lib.hid HSE.out.own
              have hwz := HSE.out.bes.size
              have hh1 := World.ownsRow.alloc HWS.out (.cells #[byteV d] 5)
              have hh2 := cell_one_new wE (byteV d) 5
              have hh3 : w1.heap.size ≤ (wE.alloc (.cells #[.int .u8 (d.toNat : Int)] 5)).heap.size := (by simp; omega)
              have hh4 : (acc.length + 1) * 1 ≤ 140737488355328 := by omega
              have hh5 : acc.length + 1 ≤ maxLen := by unfold maxLen; omega
              clear HM HNX
              go_wp2_with (at_builtin; refine wpList_append_own _ rfl _ _ 131 rfl w1.heap.size 5 i5 (.int .u8 0) 1 1 Tryz.underlying131 bi b0 b1 b2 rfl (by decide) (.slice ua acc.length uc) acc.length (acc.map byteV) rfl hh1 ⟨wE.heap.size, 0, none⟩ 1 1 [byteV d] rfl rfl hh2 (bytes_one [d]) hh5 hh4 hh3 ?_; intro v' w5 hown' hgrow hnl; obtain ⟨g', c', rfl⟩ := Joins.ownsRow_form hown' (by omega); have HS5 := Lib.hid (HSE.out.push hX1 (.cells #[byteV d] 5) (c := d) hown' hgrow); have z0 := HS5.out.rd.rd.1; have z1 := HS5.out.rd.rd.2; have zf := HS5.out.rd.froz)
              go_roundw
              case rel => exact ⟨q + k, acc ++ [d], by omega, by omega, by simp; omega, Lib.hid (HS5.out.set hX1 (by omega)), HNT⟩
              case measure => exact at_less HA.out (HS5.out.set hX1 (p := q + k) (by omega)).rd (by omega) (by omega)
        have e92 : ((c.toNat : Int) == 92) = false := by simp; omega
        have hc32 : ¬ c.toNat < 32 := by rw [HC.out]; exact hlow
        have HM : Hid ((if acc.length = 255 then Tx.long else txt (acc ++ [c]) ((L s).drop (q + 1))) = T) := Lib.hid (by
          have h5 := HQ.out
          rw [HD.out, txt_byte hc32 c34 c92] at h5
          exact h5)
        clear HD HQ c34 c92 hc32
        by_cases h255 : acc.length = 255
        · have HN : Hid (NX = .fault 15 ((L s).drop o)) := Lib.hid (by
            have h5 := HM.out
            rw [if_pos h255] at h5
            rw [HNX.out, ← h5])
          have e255 : ((acc.length : Int) == 255) = true := by simp; omega
          clear HM HNX h255
          go_wp2_with fail
          refine (fault_any X 15 o _).mono ?_
          rintro e w2 ⟨he, hb⟩
          have he2 : e = .returned (.tuple #[.agg #[.int .i64 0, .string noS, .int .i64 0, .int .i64 0, .int .i64 0, .int .i64 0], .agg #[.int .i64 15, .int .i64 0, .int .i64 (o : Int)]]) := he
          subst he2
          clear he
          have q1 : w2.heap[w.heap.size]? = some (.cells #[.int .i64 0, .string noS, .int .i64 0, .int .i64 0, .int .i64 0, .int .i64 0] 62) := by
            rw [hb.block w.heap.size (by have := HSN.out.bes.size; omega)]
            exact (HSN.out.bes.block _ (by omega) (by omega)).trans P1.out
          have q2 : w2.heap[w.heap.size + 1]? = some (.cells #[.int .i64 0, .int .i64 0, .int .i64 0] 27) := by
            rw [hb.block (w.heap.size + 1) (by have := HSN.out.bes.size; omega)]
            exact (HSN.out.bes.block _ (by omega) (by omega)).trans P2.out
          obtain ⟨a0, a1, a2, a3, a4, a5, b0, b1, b2, b3, b4, b5⟩ := row6 q1
          obtain ⟨c0, c1, c2, d0, d1, d2⟩ := row3 q2
          obtain ⟨g1, g2⟩ := nine_set (x0 := .int .i64 0) (x1 := .string noS) (x2 := .int .i64 0) (x3 := .int .i64 0) (x4 := .int .i64 0) (x5 := .int .i64 0) (y0 := .int .i64 15) (y1 := .int .i64 0) (y2 := .int .i64 (o : Int)) q1 q2
          have G1 := Lib.hid g1
          have G2 := Lib.hid g2
          have HB : Hid (Bes X w (nine w2 w.heap.size (w.heap.size + 1) (.int .i64 0) (.string noS) (.int .i64 0) (.int .i64 0) (.int .i64 0) (.int .i64 0) (.int .i64 15) (.int .i64 0) (.int .i64 (o : Int)))) := Lib.hid (nine_bes ((P0.out.trans HSN.out.bes).trans (Bes.of hb)) (by omega) (by omega))
          clear g1 g2 q1 q2 hb
          go_wp2
          refine bodyPost_ret (results_two_rows rfl _ _ w.heap.size (w.heap.size + 1) 62 27 _ _ (0, 0) (0, 0) _ _ rfl G1.out Tryz.underlying62 rfl Tryz.size32 rfl G2.out Tryz.underlying27 rfl Tryz.size25) rfl ?_
          exact fault_end HN.out (by rw [List.length_drop, L_len]; omega) HB.out
        · have HNT : Hid (txt (acc ++ [c]) ((L s).drop (q + 1)) = T) := Lib.hid (by
            have h5 := HM.out
            rw [if_neg h255] at h5
            exact h5)
          have e255 : ((acc.length : Int) == 255) = false := by simp; omega
          have HWS := Lib.hid HSN.out.own
          have hwz := HSN.out.bes.size
          have hh1 := World.ownsRow.alloc HWS.out (.cells #[byteV c] 5)
          have hh2 := cell_one_new wN (byteV c) 5
          have hh3 : w1.heap.size ≤ (wN.alloc (.cells #[.int .u8 (c.toNat : Int)] 5)).heap.size := (by simp; omega)
          have hh4 : (acc.length + 1) * 1 ≤ 140737488355328 := by omega
          have hh5 : acc.length + 1 ≤ maxLen := by unfold maxLen; omega
          clear HM HNX
          go_wp2_with (at_builtin; refine wpList_append_own _ rfl _ _ 131 rfl w1.heap.size 5 i5 (.int .u8 0) 1 1 Tryz.underlying131 bi b0 b1 b2 rfl (by decide) (.slice ua acc.length uc) acc.length (acc.map byteV) rfl hh1 ⟨wN.heap.size, 0, none⟩ 1 1 [byteV c] rfl rfl hh2 (bytes_one [c]) hh5 hh4 hh3 ?_; intro v' w5 hown' hgrow hnl; obtain ⟨g', c', rfl⟩ := Joins.ownsRow_form hown' (by omega); have HS5 := Lib.hid (HSN.out.push hX1 (.cells #[byteV c] 5) (c := c) hown' hgrow); have z0 := HS5.out.rd.rd.1; have z1 := HS5.out.rd.rd.2; have zf := HS5.out.rd.froz)
          go_roundw
          case rel => exact ⟨q + 1, acc ++ [c], by omega, by omega, by simp; omega, Lib.hid (HS5.out.set hX1 (by omega)), HNT⟩
          case measure => exact at_less HA.out (HS5.out.set hX1 (p := q + 1) (by omega)).rd (by omega) (by omega)
    · have hqd : decide ((q : Int) ≥ (s.size : Int)) = true := decide_eq_true (by omega)
      have HN : Hid (NX = .fault 11 ((L s).drop o)) := Lib.hid (by
        have h5 := HQ.out
        rw [List.drop_eq_nil_of_le (by rw [L_len]; omega), txt_nil] at h5
        rw [HNX.out, ← h5])
      clear HQ HNX
      go_wp2_with fail
      go_quiet (fail)
      go_wp2_with fail
      generalize hwN : wr.drewN nq = wN
      have HSN : Hid (TxS s X w1 u5 q acc wN) := Lib.hid (by rw [← hwN]; exact HS.out.drewN _)
      clear hwN
      refine (fault_any X 11 o _).mono ?_
      rintro e w2 ⟨he, hb⟩
      have he2 : e = .returned (.tuple #[.agg #[.int .i64 0, .string noS, .int .i64 0, .int .i64 0, .int .i64 0, .int .i64 0], .agg #[.int .i64 11, .int .i64 0, .int .i64 (o : Int)]]) := he
      subst he2
      clear he
      have q1 : w2.heap[w.heap.size]? = some (.cells #[.int .i64 0, .string noS, .int .i64 0, .int .i64 0, .int .i64 0, .int .i64 0] 62) := by
        rw [hb.block w.heap.size (by have := HSN.out.bes.size; omega)]
        exact (HSN.out.bes.block _ (by omega) (by omega)).trans P1.out
      have q2 : w2.heap[w.heap.size + 1]? = some (.cells #[.int .i64 0, .int .i64 0, .int .i64 0] 27) := by
        rw [hb.block (w.heap.size + 1) (by have := HSN.out.bes.size; omega)]
        exact (HSN.out.bes.block _ (by omega) (by omega)).trans P2.out
      obtain ⟨a0, a1, a2, a3, a4, a5, b0, b1, b2, b3, b4, b5⟩ := row6 q1
      obtain ⟨c0, c1, c2, d0, d1, d2⟩ := row3 q2
      obtain ⟨g1, g2⟩ := nine_set (x0 := .int .i64 0) (x1 := .string noS) (x2 := .int .i64 0) (x3 := .int .i64 0) (x4 := .int .i64 0) (x5 := .int .i64 0) (y0 := .int .i64 11) (y1 := .int .i64 0) (y2 := .int .i64 (o : Int)) q1 q2
      have G1 := Lib.hid g1
      have G2 := Lib.hid g2
      have HB : Hid (Bes X w (nine w2 w.heap.size (w.heap.size + 1) (.int .i64 0) (.string noS) (.int .i64 0) (.int .i64 0) (.int .i64 0) (.int .i64 0) (.int .i64 11) (.int .i64 0) (.int .i64 (o : Int)))) := Lib.hid (nine_bes ((P0.out.trans HSN.out.bes).trans (Bes.of hb)) (by omega) (by omega))
      clear g1 g2 q1 q2 hb
      go_wp2
      refine bodyPost_ret (results_two_rows rfl _ _ w.heap.size (w.heap.size + 1) 62 27 _ _ (0, 0) (0, 0) _ _ rfl G1.out Tryz.underlying62 rfl Tryz.size32 rfl G2.out Tryz.underlying27 rfl Tryz.size25) rfl ?_
      exact fault_end HN.out (by rw [List.length_drop, L_len]; omega) HB.out
end Go.Proofs.YtncdjkdpoinfaaaGreatDoor
