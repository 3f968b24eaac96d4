/-
  The walk of sym.unquoted at the inside of a canonical text. Conditions: at most 255 bytes.
-/
import Derived.Test.YtijmogehmcjopaaDoorW15
import Derived.Test.YtijmogehmcjopaaDoorW16
namespace Go.Proofs.YtijmogehmcjopaaDoor
open Go.RowKit Go.Shelf Ct

theorem inner_at {t : List UInt8} {k : Nat} (h : k < t.length) : (inner t).drop (inner (t.take k)).length = esc t[k] ++ inner (t.drop (k + 1)) := by
  have e : t = t.take k ++ t[k] :: t.drop (k + 1) := by rw [← List.drop_eq_getElem_cons h, List.take_append_drop]
  have e2 : inner t = inner (t.take k) ++ (esc t[k] ++ inner (t.drop (k + 1))) := by
    show t.flatMap esc = _
    conv => lhs; rw [e]
    rw [List.flatMap_append, List.flatMap_cons]
    rfl
  rw [e2, List.drop_left]
theorem inner_take {t : List UInt8} {k : Nat} (h : k < t.length) : inner (t.take (k + 1)) = inner (t.take k) ++ esc t[k] := by
  show (t.take (k + 1)).flatMap esc = _
  rw [List.take_succ_eq_append_getElem h, List.flatMap_append, List.flatMap_cons, List.flatMap_nil, List.append_nil]
  rfl
theorem idx_at {s : ByteArray} {p : Nat} {x : UInt8} (h : (L s)[p]? = some x) (w : World) : (Instr.index 9 (.string s) (.int .i64 (p : Int))).run Tryd.prog w = .ok (.int .u8 (x.toNat : Int)) w := by
  have hp : p < s.size := by rw [← L_len]; exact (List.getElem?_eq_some_iff.1 h).1
  have hx : s[p] = x := by
    rw [← L_get hp]
    exact (List.getElem?_eq_some_iff.1 h).2
  have h2 : s[p]? = some x := by rw [getElem?_pos s p hp, hx]
  simp [Instr.index, asIntOf, run_underlying Tryd.underlying9, h2]

set_option maxRecDepth 100000 in
set_option maxHeartbeats 6400000 in
theorem unquoted_any (s : ByteArray) (t : List UInt8) (hs : L s = inner t) (ht : t.length ≤ 255) (w : World) : Calls Tryd.prog 43 #[.string s] w fun e w' => e = .returned (.tuple #[.string ⟨t.toArray⟩, .bool true]) ∧ Below w.heap.size w w' := by
  obtain ⟨i0, hi, hi'⟩ := Option.map_eq_some_iff.1 info5
  simp only [Prod.mk.injEq] at hi'
  obtain ⟨hz0, hz1, hz2⟩ := hi'
  obtain ⟨B, hB⟩ : ∃ B, B = w.heap.size := ⟨_, rfl⟩
  obtain ⟨n, hn⟩ : ∃ n, n = s.size := ⟨_, rfl⟩
  have hn2 : n = (inner t).length := by rw [hn, ← L_len, hs]
  have hn3 : n ≤ 1020 := by have := inner_len t; omega
  rw [← hB]
  have HN := Lib.hid hn
  have HN2 := Lib.hid hn2
  have HS := Lib.hid hs
  have HBB := Lib.hid hB
  have HT := Lib.hid ht
  clear hn hn2 hs hB ht
  go_enter Tryd.func43, Tryd.ntmps43
  go_upto_region 3 with fail
  go_loopw [5, 4] (fun i d wr => ∃ (k p : Nat) (o : Value), i = .int .i64 (p : Int) ∧ o = d ∧ p ≤ n ∧ k ≤ t.length ∧ Hid (p = (inner (t.take k)).length) ∧ Hid (wr.ownsRow B 5 1 o k (Lib.byteCells (t.take k))) ∧ Hid (Below B w wr)) (fun i _ _ => n - (intOf i).toNat)
  case atStart => exact ⟨0, 0, .slice none 0 0, rfl, rfl, by omega, by omega, Lib.hid rfl, Lib.hid (World.ownsRow_nil _ _ _ _), Lib.hid (Below.refl _ _)⟩
  case round =>
    obtain ⟨k, p, o, rfl, rfl, hp, hk, HP, HO, HBw⟩ := hrel
    have hlns : s.size = n := HN.out.symm
    by_cases hkt : k < t.length
    · obtain ⟨c, hc⟩ : ∃ c, c = t[k] := ⟨_, rfl⟩
      obtain ⟨X, hX⟩ : ∃ X, X = t.take k := ⟨_, rfl⟩
      have hnextT : Hid (t.take (k + 1) = X ++ [c]) := Lib.hid (by rw [List.take_succ_eq_append_getElem hkt, ← hX, ← hc])
      have hnextL : Hid ((inner (t.take (k + 1))).length = p + (esc c).length) := Lib.hid (by rw [inner_take hkt, List.length_append, ← HP.out, ← hc])
      have hdrop : Hid ((L s).drop p = esc c ++ inner (t.drop (k + 1))) := Lib.hid (by rw [HS.out, HP.out, inner_at hkt, ← hc])
      have hXl : Hid (X.length = k) := Lib.hid (by rw [hX, List.length_take]; omega)
      rw [← hX] at HO
      have hlen : Hid (p + (esc c).length ≤ n) := Lib.hid (by
        have h := congrArg List.length hdrop.out
        have hel : 1 ≤ (esc c).length := by unfold esc; repeat' split
                                            all_goals simp
        rw [List.length_drop, L_len, hlns, List.length_append] at h
        omega)
      have hk255 : k ≤ 255 := by have := HT.out; omega
      have hat : ∀ j x, (esc c)[j]? = some x → (L s)[p + j]? = some x := fun j x hx => by
        have hj : j < (esc c).length := (List.getElem?_eq_some_iff.1 hx).1
        rw [← List.getElem?_drop, hdrop.out, List.getElem?_append_left hj]; exact hx
      have hkt' : Hid (k < t.length) := Lib.hid hkt
      clear hX hc hkt hk
      obtain ⟨p1, hp1⟩ : ∃ p1, p1 = p + 1 := ⟨_, rfl⟩
      obtain ⟨p2, hp2⟩ : ∃ p2, p2 = p + 2 := ⟨_, rfl⟩
      obtain ⟨p3, hp3⟩ : ∃ p3, p3 = p + 3 := ⟨_, rfl⟩
      obtain ⟨p4, hp4⟩ : ∃ p4, p4 = p + 4 := ⟨_, rfl⟩
      have hw1 : IntKind.i64.wrap ((p : Int) + 1) = (p1 : Int) := by rw [IntKind.wrap_i64]; omega
      have hw2 : IntKind.i64.wrap ((p1 : Int) + 1) = (p2 : Int) := by rw [IntKind.wrap_i64]; omega
      have hw3 : IntKind.i64.wrap ((p1 : Int) + 2) = (p3 : Int) := by rw [IntKind.wrap_i64]; omega
      have hw4 : IntKind.i64.wrap ((p3 : Int) + 1) = (p4 : Int) := by rw [IntKind.wrap_i64]; omega
      have hw5 : IntKind.i64.wrap ((p1 : Int) + 3) = (p4 : Int) := by rw [IntKind.wrap_i64]; omega
      by_cases ha : c.toNat = 34 ∨ c.toNat = 92
      · rcases ha with ha1 | ha1
        · have e3 : ((c.toNat : Int) == 34) = true := by simp; omega
          have hesc := esc_a (.inl ha1)
          have HPN : Hid (p2 = (inner (t.take (k + 1))).length) := Lib.hid (by rw [hnextL.out, hesc]; simp; omega)
          have HL : Hid (p2 ≤ n) := Lib.hid (by have := hlen.out; rw [hesc] at this; simp at this; omega)
          have HPS : Hid (p < p2) := Lib.hid (by omega)
          have HBW := HBw
          have hi0 := idx_at (s := s) (hat 0 92 (by rw [hesc]; rfl))
          have hi1 := idx_at (s := s) (hat 1 c (by rw [hesc]; rfl))
          rw [Nat.add_zero] at hi0
          rw [← hp1] at hi1
          have hne : ((p1 : Int) == (n : Int)) = false := by have := HL.out; simp; omega
          have hlt : (p : Int) < (n : Int) := by have := HL.out; omega
          clear ha1
          clear hesc hat hp1 hp2 hp3 hp4 hp
          go_wp2_with (at_builtin; refine wpList_append_own _ rfl _ _ 56 rfl B 5 i0 (.int .u8 0) 1 1 Tryd.underlying56 hi hz0 hz1 hz2 rfl (by decide) o k (Lib.byteCells X) rfl (HO.out.alloc _) ⟨wr.heap.size, 0, none⟩ 1 1 [.int .u8 (c.toNat : Int)] rfl rfl (cell_one_new _ _ _) (by intro u hu; simp at hu; subst hu; rfl) (by unfold maxLen; omega) (by omega) (by have := HBW.out.size; have := HBB.out; simp; omega) ?_)
          intro o2 w3 hown2 hgrow2 _
          have HO2 : Hid (w3.ownsRow B 5 1 o2 (k + 1) (Lib.byteCells (t.take (k + 1)))) := Lib.hid (by rw [hnextT.out, Lib.byteCells_append]; exact hown2)
          have HB2 : Hid (Below B w w3) := Lib.hid ((HBW.out.alloc (by have := HBW.out.size; have := HBB.out; omega) _).grown hgrow2 (by have := HBW.out.size; have := HBB.out; simp; omega) (fun k hk => (HO.out.lt k hk).1))
          clear hown2 hgrow2
          go_wp2
          go_round
          case rel => exact ⟨k + 1, p2, o2, by go_num, rfl, by have := HL.out; omega, hkt'.out, Lib.hid HPN.out, HO2, HB2⟩
          case measure => have := HL.out; have := HPS.out; simp only [intOf]; omega
        · have e3 : ((c.toNat : Int) == 34) = false := by simp; omega
          have e4 : ((c.toNat : Int) == 92) = true := by simp; omega
          have hesc := esc_a (.inr ha1)
          have HPN : Hid (p2 = (inner (t.take (k + 1))).length) := Lib.hid (by rw [hnextL.out, hesc]; simp; omega)
          have HL : Hid (p2 ≤ n) := Lib.hid (by have := hlen.out; rw [hesc] at this; simp at this; omega)
          have HPS : Hid (p < p2) := Lib.hid (by omega)
          have HBW := HBw
          have hi0 := idx_at (s := s) (hat 0 92 (by rw [hesc]; rfl))
          have hi1 := idx_at (s := s) (hat 1 c (by rw [hesc]; rfl))
          rw [Nat.add_zero] at hi0
          rw [← hp1] at hi1
          have hne : ((p1 : Int) == (n : Int)) = false := by have := HL.out; simp; omega
          have hlt : (p : Int) < (n : Int) := by have := HL.out; omega
          clear ha1
          clear hesc hat hp1 hp2 hp3 hp4 hp
          go_wp2_with (at_builtin; refine wpList_append_own _ rfl _ _ 56 rfl B 5 i0 (.int .u8 0) 1 1 Tryd.underlying56 hi hz0 hz1 hz2 rfl (by decide) o k (Lib.byteCells X) rfl (HO.out.alloc _) ⟨wr.heap.size, 0, none⟩ 1 1 [.int .u8 (c.toNat : Int)] rfl rfl (cell_one_new _ _ _) (by intro u hu; simp at hu; subst hu; rfl) (by unfold maxLen; omega) (by omega) (by have := HBW.out.size; have := HBB.out; simp; omega) ?_)
          intro o2 w3 hown2 hgrow2 _
          have HO2 : Hid (w3.ownsRow B 5 1 o2 (k + 1) (Lib.byteCells (t.take (k + 1)))) := Lib.hid (by rw [hnextT.out, Lib.byteCells_append]; exact hown2)
          have HB2 : Hid (Below B w w3) := Lib.hid ((HBW.out.alloc (by have := HBW.out.size; have := HBB.out; omega) _).grown hgrow2 (by have := HBW.out.size; have := HBB.out; simp; omega) (fun k hk => (HO.out.lt k hk).1))
          clear hown2 hgrow2
          go_wp2
          go_round
          case rel => exact ⟨k + 1, p2, o2, by go_num, rfl, by have := HL.out; omega, hkt'.out, Lib.hid HPN.out, HO2, HB2⟩
          case measure => have := HL.out; have := HPS.out; simp only [intOf]; omega
      by_cases hb : c.toNat = 10
      · have HCE : Hid (c = 10) := Lib.hid (UInt8.toNat_inj.1 hb)
        have hesc := esc_b ha hb
        have HPN : Hid (p2 = (inner (t.take (k + 1))).length) := Lib.hid (by rw [hnextL.out, hesc]; simp; omega)
        have HL : Hid (p2 ≤ n) := Lib.hid (by have := hlen.out; rw [hesc] at this; simp at this; omega)
        have HPS : Hid (p < p2) := Lib.hid (by omega)
        have HBW := HBw
        have hi0 := idx_at (s := s) (hat 0 92 (by rw [hesc]; rfl))
        have hi1 := idx_at (s := s) (hat 1 110 (by rw [hesc]; rfl))
        rw [Nat.add_zero] at hi0
        rw [← hp1] at hi1
        have hne : ((p1 : Int) == (n : Int)) = false := by have := HL.out; simp; omega
        have hlt : (p : Int) < (n : Int) := by have := HL.out; omega
        clear ha hb
        clear hesc hat hp1 hp2 hp3 hp4 hp
        go_wp2_with (at_builtin; refine wpList_append_own _ rfl _ _ 56 rfl B 5 i0 (.int .u8 0) 1 1 Tryd.underlying56 hi hz0 hz1 hz2 rfl (by decide) o k (Lib.byteCells X) rfl (HO.out.alloc _) ⟨wr.heap.size, 0, none⟩ 1 1 [.int .u8 10] rfl rfl (cell_one_new _ _ _) (by intro u hu; simp at hu; subst hu; rfl) (by unfold maxLen; omega) (by omega) (by have := HBW.out.size; have := HBB.out; simp; omega) ?_)
        intro o2 w3 hown2 hgrow2 _
        have HO2 : Hid (w3.ownsRow B 5 1 o2 (k + 1) (Lib.byteCells (t.take (k + 1)))) := Lib.hid (by rw [hnextT.out, Lib.byteCells_append, HCE.out]; exact hown2)
        have HB2 : Hid (Below B w w3) := Lib.hid ((HBW.out.alloc (by have := HBW.out.size; have := HBB.out; omega) _).grown hgrow2 (by have := HBW.out.size; have := HBB.out; simp; omega) (fun k hk => (HO.out.lt k hk).1))
        clear hown2 hgrow2
        go_wp2
        go_round
        case rel => exact ⟨k + 1, p2, o2, by go_num, rfl, by have := HL.out; omega, hkt'.out, Lib.hid HPN.out, HO2, HB2⟩
        case measure => have := HL.out; have := HPS.out; simp only [intOf]; omega
      by_cases hc : c.toNat = 9
      · have HCE : Hid (c = 9) := Lib.hid (UInt8.toNat_inj.1 hc)
        have hesc := esc_c ha hc
        have HPN : Hid (p2 = (inner (t.take (k + 1))).length) := Lib.hid (by rw [hnextL.out, hesc]; simp; omega)
        have HL : Hid (p2 ≤ n) := Lib.hid (by have := hlen.out; rw [hesc] at this; simp at this; omega)
        have HPS : Hid (p < p2) := Lib.hid (by omega)
        have HBW := HBw
        have hi0 := idx_at (s := s) (hat 0 92 (by rw [hesc]; rfl))
        have hi1 := idx_at (s := s) (hat 1 116 (by rw [hesc]; rfl))
        rw [Nat.add_zero] at hi0
        rw [← hp1] at hi1
        have hne : ((p1 : Int) == (n : Int)) = false := by have := HL.out; simp; omega
        have hlt : (p : Int) < (n : Int) := by have := HL.out; omega
        clear ha hb hc
        clear hesc hat hp1 hp2 hp3 hp4 hp
        go_wp2_with (at_builtin; refine wpList_append_own _ rfl _ _ 56 rfl B 5 i0 (.int .u8 0) 1 1 Tryd.underlying56 hi hz0 hz1 hz2 rfl (by decide) o k (Lib.byteCells X) rfl (HO.out.alloc _) ⟨wr.heap.size, 0, none⟩ 1 1 [.int .u8 9] rfl rfl (cell_one_new _ _ _) (by intro u hu; simp at hu; subst hu; rfl) (by unfold maxLen; omega) (by omega) (by have := HBW.out.size; have := HBB.out; simp; omega) ?_)
        intro o2 w3 hown2 hgrow2 _
        have HO2 : Hid (w3.ownsRow B 5 1 o2 (k + 1) (Lib.byteCells (t.take (k + 1)))) := Lib.hid (by rw [hnextT.out, Lib.byteCells_append, HCE.out]; exact hown2)
        have HB2 : Hid (Below B w w3) := Lib.hid ((HBW.out.alloc (by have := HBW.out.size; have := HBB.out; omega) _).grown hgrow2 (by have := HBW.out.size; have := HBB.out; simp; omega) (fun k hk => (HO.out.lt k hk).1))
        clear hown2 hgrow2
        go_wp2
        go_round
        case rel => exact ⟨k + 1, p2, o2, by go_num, rfl, by have := HL.out; omega, hkt'.out, Lib.hid HPN.out, HO2, HB2⟩
        case measure => have := HL.out; have := HPS.out; simp only [intOf]; omega
      by_cases hd : c.toNat = 13
      · have HCE : Hid (c = 13) := Lib.hid (UInt8.toNat_inj.1 hd)
        have hesc := esc_d ha hd
        have HPN : Hid (p2 = (inner (t.take (k + 1))).length) := Lib.hid (by rw [hnextL.out, hesc]; simp; omega)
        have HL : Hid (p2 ≤ n) := Lib.hid (by have := hlen.out; rw [hesc] at this; simp at this; omega)
        have HPS : Hid (p < p2) := Lib.hid (by omega)
        have HBW := HBw
        have hi0 := idx_at (s := s) (hat 0 92 (by rw [hesc]; rfl))
        have hi1 := idx_at (s := s) (hat 1 114 (by rw [hesc]; rfl))
        rw [Nat.add_zero] at hi0
        rw [← hp1] at hi1
        have hne : ((p1 : Int) == (n : Int)) = false := by have := HL.out; simp; omega
        have hlt : (p : Int) < (n : Int) := by have := HL.out; omega
        clear ha hb hc hd
        clear hesc hat hp1 hp2 hp3 hp4 hp
        go_wp2_with (at_builtin; refine wpList_append_own _ rfl _ _ 56 rfl B 5 i0 (.int .u8 0) 1 1 Tryd.underlying56 hi hz0 hz1 hz2 rfl (by decide) o k (Lib.byteCells X) rfl (HO.out.alloc _) ⟨wr.heap.size, 0, none⟩ 1 1 [.int .u8 13] rfl rfl (cell_one_new _ _ _) (by intro u hu; simp at hu; subst hu; rfl) (by unfold maxLen; omega) (by omega) (by have := HBW.out.size; have := HBB.out; simp; omega) ?_)
        intro o2 w3 hown2 hgrow2 _
        have HO2 : Hid (w3.ownsRow B 5 1 o2 (k + 1) (Lib.byteCells (t.take (k + 1)))) := Lib.hid (by rw [hnextT.out, Lib.byteCells_append, HCE.out]; exact hown2)
        have HB2 : Hid (Below B w w3) := Lib.hid ((HBW.out.alloc (by have := HBW.out.size; have := HBB.out; omega) _).grown hgrow2 (by have := HBW.out.size; have := HBB.out; simp; omega) (fun k hk => (HO.out.lt k hk).1))
        clear hown2 hgrow2
        go_wp2
        go_round
        case rel => exact ⟨k + 1, p2, o2, by go_num, rfl, by have := HL.out; omega, hkt'.out, Lib.hid HPN.out, HO2, HB2⟩
        case measure => have := HL.out; have := HPS.out; simp only [intOf]; omega
      by_cases hf : 32 ≤ c.toNat ∧ c.toNat ≤ 126
      · have e4 : ((c.toNat : Int) != 92) = true := by simp; omega
        have hesc := esc_e ha hf.1 hf.2
        have HPN : Hid (p1 = (inner (t.take (k + 1))).length) := Lib.hid (by rw [hnextL.out, hesc]; simp; omega)
        have HL : Hid (p1 ≤ n) := Lib.hid (by have := hlen.out; rw [hesc] at this; simp at this; omega)
        have HPS : Hid (p < p1) := Lib.hid (by omega)
        have HBW := HBw
        have hi0 := idx_at (s := s) (hat 0 c (by rw [hesc]; rfl))
        rw [Nat.add_zero] at hi0
        have hlt : (p : Int) < (n : Int) := by have := HL.out; omega
        clear hesc hat ha hb hc hd hf hp1 hp2 hp3 hp4 hp
        go_wp2_with (at_builtin; refine wpList_append_own _ rfl _ _ 56 rfl B 5 i0 (.int .u8 0) 1 1 Tryd.underlying56 hi hz0 hz1 hz2 rfl (by decide) o k (Lib.byteCells X) rfl (HO.out.alloc _) ⟨wr.heap.size, 0, none⟩ 1 1 [.int .u8 (c.toNat : Int)] rfl rfl (cell_one_new _ _ _) (by intro u hu; simp at hu; subst hu; rfl) (by unfold maxLen; omega) (by omega) (by have := HBW.out.size; have := HBB.out; simp; omega) ?_)
        intro o2 w3 hown2 hgrow2 _
        have HO2 : Hid (w3.ownsRow B 5 1 o2 (k + 1) (Lib.byteCells (t.take (k + 1)))) := Lib.hid (by rw [hnextT.out, Lib.byteCells_append]; exact hown2)
        have HB2 : Hid (Below B w w3) := Lib.hid ((HBW.out.alloc (by have := HBW.out.size; have := HBB.out; omega) _).grown hgrow2 (by have := HBW.out.size; have := HBB.out; simp; omega) (fun k hk => (HO.out.lt k hk).1))
        clear hown2 hgrow2
        go_wp2
        go_round
        case rel => exact ⟨k + 1, p1, o2, by go_num, rfl, by have := HL.out; omega, hkt'.out, Lib.hid HPN.out, HO2, HB2⟩
        case measure => have := HL.out; have := HPS.out; simp only [intOf]; omega
      · have hfg : True := trivial
        have hesc := esc_f ha hb hc hd hf
        have HPN : Hid (p4 = (inner (t.take (k + 1))).length) := Lib.hid (by rw [hnextL.out, hesc]; simp; omega)
        have HL : Hid (p4 ≤ n) := Lib.hid (by have := hlen.out; rw [hesc] at this; simp at this; omega)
        have HPS : Hid (p < p4) := Lib.hid (by omega)
        have HBW := HBw
        have hi0 := idx_at (s := s) (hat 0 92 (by rw [hesc]; rfl))
        have hi1 := idx_at (s := s) (hat 1 120 (by rw [hesc]; rfl))
        rw [Nat.add_zero] at hi0
        rw [← hp1] at hi1
        have hne : ((p1 : Int) == (n : Int)) = false := by have := HL.out; simp; omega
        have hlt : (p : Int) < (n : Int) := by have := HL.out; omega
        have hge : ¬ (n : Int) ≤ (p3 : Int) := by have := HL.out; omega
        have hcu : c.toNat < 256 := c.toNat_lt
        have hEx : L (s.extract p2 p4) = [hexD (c.toNat / 16), hexD (c.toNat % 16)] := by
          rw [L_extract, show p4 - p2 = 2 by omega, show p2 = p + 2 by omega, ← List.drop_drop, hdrop.out, hesc]
          rfl
        have hpar := fun w => parse58 (s.extract p2 p4) (c.toNat / 16) (c.toNat % 16) (by omega) (by omega) hEx w
        rw [show 16 * (c.toNat / 16) + c.toNat % 16 = c.toNat by omega] at hpar
        have hcw : IntKind.u8.wrap (c.toNat : Int) = (c.toNat : Int) := by rw [IntKind.wrap_u8]; omega
        have hs1 : (0 : Int) ≤ (p2 : Int) := by omega
        have hs2 : (p2 : Int) ≤ (p4 : Int) := by omega
        have hs3 : (p4 : Int) ≤ (n : Int) := by have := HL.out; omega
        clear hesc hat ha hb hc hd hf hEx hp1 hp2 hp3 hp4 hp hcu
        go_upto_region 25 with (go_at_call 58; refine (hpar _).mono ?_; rintro e w5 ⟨rfl, hb5⟩)
        have HB5 : Hid (Below B w w5) := Lib.hid (HBw.out.trans (hb5.mono (by have := HBw.out.size; have := HBB.out; omega)))
        have HO5 : Hid (w5.ownsRow B 5 1 o k (Lib.byteCells X)) := Lib.hid (HO.out.kept (Below.grow hb5) (by cases o.ownBlock <;> simp))
        clear hb5 HBW
        have HBW := HB5
        go_wp2_with (at_builtin; refine wpList_append_own _ rfl _ _ 56 rfl B 5 i0 (.int .u8 0) 1 1 Tryd.underlying56 hi hz0 hz1 hz2 rfl (by decide) o k (Lib.byteCells X) rfl (HO5.out.alloc _) ⟨w5.heap.size, 0, none⟩ 1 1 [.int .u8 (c.toNat : Int)] rfl rfl (cell_one_new _ _ _) (by intro u hu; simp at hu; subst hu; rfl) (by unfold maxLen; omega) (by omega) (by have := HBW.out.size; have := HBB.out; simp; omega) ?_)
        intro o2 w3 hown2 hgrow2 _
        have HO2 : Hid (w3.ownsRow B 5 1 o2 (k + 1) (Lib.byteCells (t.take (k + 1)))) := Lib.hid (by rw [hnextT.out, Lib.byteCells_append]; exact hown2)
        have HB2 : Hid (Below B w w3) := Lib.hid ((HBW.out.alloc (by have := HBW.out.size; have := HBB.out; omega) _).grown hgrow2 (by have := HBW.out.size; have := HBB.out; simp; omega) (fun k hk => (HO5.out.lt k hk).1))
        clear hown2 hgrow2
        go_wp2
        go_round
        case rel => exact ⟨k + 1, p4, o2, by go_num, rfl, by have := HL.out; omega, hkt'.out, Lib.hid HPN.out, HO2, HB2⟩
        case measure => have := HL.out; have := HPS.out; simp only [intOf]; omega
    · have hke : k = t.length := by omega
      have hpe : ¬ (p : Int) < (n : Int) := by have := HP.out; have := HN2.out; rw [hke, List.take_length] at *; omega
      have HO2 : Hid (wr.ownsRow B 5 1 o k (Lib.byteCells t)) := Lib.hid (by have := HO.out; rw [hke, List.take_length] at this; rw [hke]; exact this)
      have hcv := row_string HO2.out
      clear hke HO hp hk hkt
      go_wp2
      all_goals go_ret2
      all_goals exact ⟨rfl, HBw.out⟩
end Go.Proofs.YtijmogehmcjopaaDoor
