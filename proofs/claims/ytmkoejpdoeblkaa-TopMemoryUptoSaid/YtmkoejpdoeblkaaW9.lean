/-
  The walk of a store's Add: rows come, all or none. Conditions: the lists within the form's own reach.
-/
import Derived.Test.YtmkoejpdoeblkaaW7
import Derived.Test.YtmkoejpdoeblkaaW8
namespace Go.Proofs.Ytmkoejpdoeblkaa
open Go.RowKit Pl

/-- What is there behind Add. -/
def added (A : List Int) (l rs : List Rw) : List Rw := if mayB A rs = true then add l rs else l
def AddIs (G : Nat → Rl) (X : Nat) (A : List Int) (l rs : List Rw) (V : SV) (w : World) (e : Ending) (w' : World) : Prop :=
  e = .returned (.tuple #[.int .i64 (((added A l rs).length : Int) - (l.length : Int)), .int .i64 (if mayB A rs = true then 0 else 2)]) ∧
    ∃ G' fs' V', StoreAt G' X A (added A l rs) fs' V' w' ∧ (added A l rs).length = fs'.length ∧ V'.N ≤ V.N + rs.length ∧ V'.lv = V.lv ∧ Tr Own G w G' w'
theorem StoreAt.up {G : Nat → Rl} {X : Nat} {A : List Int} {l : List Rw} {fs : List Value} {V : SV} {w w' : World} (h : StoreAt G X A l fs V w) (hb : Below w.heap.size w w') : StoreAt G X A l fs V w' :=
  h.tr (Tr.up (ex := fun _ => False) hb) (fun _ _ _ h => h) (h.out.up hb.size)
theorem Tr.rows_out {G G' : Nat → Rl} {w w' : World} {v : Value} {l : List Rw} (t : Tr Own G w G' w') (h : RowsIn w (fun k => G k = .out) v l) : RowsIn w' (fun k => G' k = .out) v l := by
  have h1 : RowsIn w' (fun k => k < w.heap.size ∧ G k = .out) v l := (h.sub (fun k hk hx => ⟨hk, hx⟩)).kp (t.kp.sub (fun k hk hx => fun hy => hy.1 hx.2))
  exact h1.sub (fun k _ hx => (t.agree k hx.1).trans hx.2)
theorem out_ret {a b : Int} {x y : Int} (h : a = b) (h2 : x = y) : Ending.returned (.tuple #[.int .i64 a, .int .i64 x]) = .returned (.tuple #[.int .i64 b, .int .i64 y]) := by rw [h, h2]

set_option maxRecDepth 100000 in
set_option maxHeartbeats 3200000 in
theorem add_any {G : Nat → Rl} {X : Nat} {A : List Int} {l rs : List Rw} {fs : List Value} {V : SV} {v : Value} (w : World) (h : StoreAt G X A l fs V w) (hl : l.length = fs.length) (hv : RowsIn w (fun k => G k = .out) v rs) (hok : okRows rs) (hrl : rs.length ≤ 1048576) (hN : V.N + rs.length ≤ 4194304) :
    Calls Try.prog 9 #[.pointer (some ⟨X, 0, none⟩), v] w (AddIs G X A l rs V w) := by
  have hXl := h.blk.lt
  have hA : A.length ≤ 128 := by
    have := h.okA
    unfold okA at this
    rw [Bool.and_eq_true] at this
    simpa using this.1
  obtain ⟨a, ca, rfl, hfa⟩ := hv.form
  have HS := Lib.hid h
  have HL := Lib.hid hl
  have HX := Lib.hid hv
  have HFA := Lib.hid hfa
  have HOK := Lib.hid hok
  clear h hl hv hfa hok
  go_enter Try.func9, Try.ntmps9
  go_wp2
  go_loopw [17] (fun k wr => ∃ i : Nat, k = .int .i64 (i : Int) ∧ i ≤ rs.length ∧ Below w.heap.size w wr ∧ Hid (MayTo A rs i)) (fun k _ => rs.length - (intOf k).toNat)
  case atStart => exact ⟨0, rfl, Nat.zero_le _, Below.refl _ _, MayTo.start _ _⟩
  case round =>
    obtain ⟨i, rfl, hil, hnx, hE⟩ := hrel
    have NX := Lib.hid hnx
    clear hnx
    by_cases h1 : i < rs.length
    · obtain ⟨g, off, rfl⟩ := HFA.out (fun e => by rw [e] at h1; simp at h1)
      obtain ⟨s, hsi⟩ : ∃ s, rs[i]? = some s := ⟨rs[i], List.getElem?_eq_getElem h1⟩
      obtain ⟨us, d0, d1, hus⟩ := (HX.out.below NX.out).at hsi
      have hoks := HOK.out s (List.mem_of_getElem? hsi)
      obtain ⟨sp, sl⟩ := s
      simp only at d0 d1 hus
      have HSI := Lib.hid hsi
      have HUS := Lib.hid hus
      obtain ⟨ua, uc, rfl, _⟩ := hus.form
      obtain ⟨wq, hwq⟩ : ∃ wq, wq = wr.alloc (.cells #[.int .i64 sp, .slice ua sl.length uc] 34) := ⟨_, rfl⟩
      have hbq : Below wr.heap.size wr wq := by rw [hwq]; exact up_alloc _ _
      have HBQ := Lib.hid (NX.out.trans (hbq.mono NX.out.size))
      have HUQ := Lib.hid (HUS.out.below hbq)
      have HWQ := Lib.hid hwq
      clear hsi hus hbq hwq
      go_wp2_with fail
      rw [← HWQ.out]
      refine (fits_any A (sp, sl) X V.av _ wq (Nat.lt_of_lt_of_le hXl HBQ.out.size) ((HBQ.out.cell (p := ⟨X, 0, none⟩) hXl).trans HS.out.blk.cells.1) ((HS.out.ars.in.all).below HBQ.out) hA ⟨_, rfl, HUQ.out.all⟩ hoks.2.2).mono ?_
      rintro e w3 ⟨rfl, hb3⟩
      have NX3 := Lib.hid (HBQ.out.trans (hb3.mono HBQ.out.size))
      clear hb3
      cases hfb : fitsB A (sp, sl) with
      | true =>
        have HE := Lib.hid (hE.out.round HSI.out hfb)
        clear hE hfb
        go_wp2
        go_roundw
        case rel => exact ⟨i + 1, by go_num, by omega, NX3.out, HE⟩
        case measure => simp only [intOf]; omega
      | false =>
        have hm := may_not HSI.out hfb
        have HR : Hid (added A l rs = l) := Lib.hid (by unfold added; rw [hm]; simp)
        have HR2 : Hid ((if mayB A rs = true then (0 : Int) else 2) = 2) := Lib.hid (by rw [hm]; simp)
        clear hfb hm
        go_wp2
        go_ret2
        refine ⟨out_ret (by rw [HR.out]; omega) HR2.out.symm, G, fs, V, ?_, ?_, Nat.le_add_right _ _, rfl, Tr.up NX3.out⟩
        · rw [HR.out]; exact HS.out.up NX3.out
        · rw [HR.out]; exact HL.out
    · have e : i = rs.length := by omega
      have hmay : mayB A rs = true := by have := hE.out; rw [e] at this; exact this.full
      have HR : Hid (added A l rs = add l rs) := Lib.hid (by unfold added; rw [hmay]; simp)
      have HR2 : Hid ((if mayB A rs = true then (0 : Int) else 2) = 0) := Lib.hid (by rw [hmay]; simp)
      have HFIT : Hid (∀ r ∈ rs, fitsB A r = true) := Lib.hid (fun r hr => List.all_eq_true.1 hmay r hr)
      clear e hmay hE
      go_wp2
      go_loopw [28, 8] (fun k n x => ∃ (j : Nat) (Gj : Nat → Rl) (fj : List Value) (Vj : SV), k = .int .i64 (j : Int) ∧ n = .int .i64 (((add l (rs.take j)).length : Int) - (l.length : Int)) ∧ j ≤ rs.length ∧ Hid (StoreAt Gj X A (add l (rs.take j)) fj Vj x) ∧
        Hid ((add l (rs.take j)).length = fj.length ∧ Vj.N ≤ V.N + j ∧ Vj.lv = V.lv) ∧ Hid (Tr Own G w Gj x)) (fun k _ _ => rs.length - (intOf k).toNat)
      case atStart => exact ⟨0, G, fs, V, rfl, by simp [add], Nat.zero_le _, Lib.hid (HS.out.up NX.out), Lib.hid ⟨HL.out, Nat.le_refl _, rfl⟩, Lib.hid (Tr.up NX.out)⟩
      case round =>
        obtain ⟨j, Gj, fj, Vj, rfl, rfl, hjl, HSj, HPj, HTj⟩ := hrel
        clear NX
        by_cases h2 : j < rs.length
        · obtain ⟨g, off, rfl⟩ := HFA.out (fun e => by rw [e] at h2; simp at h2)
          obtain ⟨s, hsi⟩ : ∃ s, rs[j]? = some s := ⟨rs[j], List.getElem?_eq_getElem h2⟩
          have hXj := HTj.out.rows_out HX.out
          obtain ⟨us, d0, d1, hus⟩ := hXj.at hsi
          have hfit := HFIT.out s (List.mem_of_getElem? hsi)
          have hoks := HOK.out s (List.mem_of_getElem? hsi)
          have h8 := fits_len HS.out.okA hfit
          obtain ⟨L, hL⟩ : ∃ L, L = add l (rs.take j) := ⟨_, rfl⟩
          have hnext : add l (rs.take (j + 1)) = if s ∈ L then L else L ++ [s] := by
            rw [List.take_add_one, hsi, hL]
            exact add_snoc _ _ _
          have hll : l.length ≤ L.length := by rw [hL]; exact (add_len l (rs.take j)).1
          rw [← hL] at HSj HPj ⊢
          have HNX := Lib.hid hnext
          have HFITs := Lib.hid hfit
          have HOKs := Lib.hid hoks
          obtain ⟨sp, sl⟩ := s
          simp only at d0 d1 hus h8
          have HUS := Lib.hid hus
          obtain ⟨ua, uc, rfl, _⟩ := hus.form
          have hLl : L.length ≤ 4194304 := Nat.le_trans HSj.out.len (by have := HPj.out.2.1; omega)
          have hnj : Vj.N ≤ 4194304 := by have := HPj.out.2.1; omega
          obtain ⟨N0, hN0⟩ : ∃ N0 : Int, N0 = (L.length : Int) - (l.length : Int) := ⟨_, rfl⟩
          rw [← hN0]
          have HN0 := Lib.hid hN0
          clear hsi hXj hus hnext hfit hoks hL hN0
          go_upto_region 13 with fail
          obtain ⟨c10, hc10⟩ : ∃ c10, c10 = wr.heap.size := ⟨_, rfl⟩
          obtain ⟨wq, hwq⟩ : ∃ wq, wq = wr.alloc (.cells #[.int .i64 sp, .slice ua sl.length uc] 34) := ⟨_, rfl⟩
          rw [← hwq, ← hc10]
          have hbq : Below wr.heap.size wr wq := by rw [hwq]; exact up_alloc _ _
          have s10 : wq.heap[c10]? = some (.cells #[.int .i64 sp, .slice ua sl.length uc] 34) := by rw [hwq, hc10]; exact heap_alloc_new _ _
          obtain ⟨W, hW⟩ : ∃ W, W = wq.drew := ⟨_, rfl⟩
          have hbW : Below wr.heap.size wr W := by rw [hW]; exact hbq.trans (drew_below _ _)
          have s10' : W.heap[c10]? = some (.cells #[.int .i64 sp, .slice ua sl.length uc] 34) := by rw [hW]; exact s10
          have HSW := Lib.hid (HSj.out.up hbW)
          have HTW := Lib.hid (HTj.out.trans (Tr.up hbW))
          have HUW := Lib.hid (HUS.out.below hbW).all
          obtain ⟨bn, hbn⟩ : ∃ bn, bn = Vj.bn := ⟨_, rfl⟩
          obtain ⟨htn, fn, hmn, hfn⟩ := HSW.out.num
          rw [← hbn] at hmn
          have hlook := fun (x : World) (e : x.heap[bn]? = W.heap[bn]?) => (hmn.same e).look (Go.Maps.Keyed.of_law Try.law58) Try.underlying46 (Try.zero3 x) (okKey_row HOKs.out) true
          have hfk := hfn (sp, sl) HFITs.out HOKs.out
          obtain ⟨k0, hk0⟩ : ∃ k : Int, k = at' sl 0 := ⟨_, rfl⟩
          obtain ⟨k1, hk1⟩ : ∃ k : Int, k = at' sl 1 := ⟨_, rfl⟩
          obtain ⟨k2, hk2⟩ : ∃ k : Int, k = at' sl 2 := ⟨_, rfl⟩
          obtain ⟨k3, hk3⟩ : ∃ k : Int, k = at' sl 3 := ⟨_, rfl⟩
          obtain ⟨k4, hk4⟩ : ∃ k : Int, k = at' sl 4 := ⟨_, rfl⟩
          obtain ⟨k5, hk5⟩ : ∃ k : Int, k = at' sl 5 := ⟨_, rfl⟩
          obtain ⟨k6, hk6⟩ : ∃ k : Int, k = at' sl 6 := ⟨_, rfl⟩
          obtain ⟨k7, hk7⟩ : ∃ k : Int, k = at' sl 7 := ⟨_, rfl⟩
          have hkv : keyV (sp, sl) = .agg #[.int .i64 sp, .int .i64 k0, .int .i64 k1, .int .i64 k2, .int .i64 k3, .int .i64 k4, .int .i64 k5, .int .i64 k6, .int .i64 k7] := by rw [hk0, hk1, hk2, hk3, hk4, hk5, hk6, hk7]; rfl
          obtain ⟨xn, hxn⟩ : ∃ xn : Int, ((idx L (sp, sl)).map (fun i : Nat => Value.int .i64 (i : Int))).getD (.int .i64 0) = .int .i64 xn := by
            cases idx L (sp, sl) with
            | none => exact ⟨0, rfl⟩
            | some i => exact ⟨_, rfl⟩
          obtain ⟨bi, hbi⟩ : ∃ bi : Bool, bi = decide ((sp, sl) ∈ L) := ⟨_, rfl⟩
          have hbi2 : ((idx L (sp, sl)).map (fun i : Nat => Value.int .i64 (i : Int))).isSome = bi := by
            rw [hbi]
            cases h9 : idx L (sp, sl) with
            | none => simp [idx_none.1 h9]
            | some i =>
              have : (sp, sl) ∈ L := Decidable.byContradiction fun h => by rw [idx_none.2 h] at h9; cases h9
              simp [this]
          have HBI := Lib.hid hbi
          have hS0 : BlkS W [X, bn, c10] W := BlkS.refl _ _
          have HBZ : Hid (∀ b ∈ [X, bn, c10], b < W.heap.size) := Lib.hid (by
            have h1 := HSW.out.blk.lt
            have h2' := hmn.lt
            have h3 := (Array.getElem?_eq_some_iff.1 s10').1
            intro b hb; simp at hb; omega)
          have HCS : Hid (∀ x, BlkS W [X, bn, c10] x → x.cell? ⟨X, 3, none⟩ = some (.map (some bn)) ∧ x.cell? ⟨c10, 0, none⟩ = some (.int .i64 sp) ∧ x.cell? ⟨c10, 1, none⟩ = some (.slice ua sl.length uc) ∧
              (Instr.lookup 46 (.map (some bn)) (.agg #[.int .i64 sp, .int .i64 k0, .int .i64 k1, .int .i64 k2, .int .i64 k3, .int .i64 k4, .int .i64 k5, .int .i64 k6, .int .i64 k7]) true).run Try.prog x = .ok (.tuple #[.int .i64 xn, .bool bi]) x) := Lib.hid (by
            intro x hx
            refine ⟨hx.cell (by simp) ?_, hx.cell (by simp) (row2 s10').1, hx.cell (by simp) (row2 s10').2.1, ?_⟩
            · rw [hbn]; exact HSW.out.blk.cells.2.2.2.1
            · have h9 := hlook x (hx bn (by simp))
              rw [hkv] at h9
              rw [h9, ← hkv, hfk, hxn, hbi2]; rfl)
          have HKV := Lib.hid hkv
          have HS10 := Lib.hid s10'
          clear hwq hbq s10 hbW s10' hbn htn hmn hfn hlook hfk hk0 hk1 hk2 hk3 hk4 hk5 hk6 hk7 hkv hxn hbi hbi2 hc10
          refine wp_region_TL (BlkS W [X, bn, c10]) 11 (by kernel_rfl) ?_
          rw [← hW]
          clear hW
          refine wpTL_take _ ?_ rfl (by kernel_rfl) (fun _ _ _ h => h) (by assumption) (Or.inl ⟨by rfl, fun x hx => ?_⟩) ?_
          rotate_left
          · obtain ⟨k0_, k1_, k2_, k3_⟩ := HCS.out x hx
            clear hx
            go_simp
            try with_reducible rfl
          simp only [Act.put, List.setIfInBounds_toArray, List.set_cons_zero, List.set_cons_succ]
          refine wpTL_take _ ?_ rfl (by kernel_rfl) (fun _ _ _ h => h) (by assumption) (Or.inl ⟨by rfl, fun x hx => ?_⟩) ?_
          rotate_left
          · obtain ⟨k0_, k1_, k2_, k3_⟩ := HCS.out x hx
            clear hx
            go_simp
            try with_reducible rfl
          simp only [Act.put, List.setIfInBounds_toArray, List.set_cons_zero, List.set_cons_succ]
          refine wpTL_take _ ?_ rfl (by kernel_rfl) (fun _ _ _ h => h) (by assumption) (Or.inl ⟨by rfl, fun x hx => ?_⟩) ?_
          rotate_left
          · obtain ⟨k0_, k1_, k2_, k3_⟩ := HCS.out x hx
            clear hx
            go_simp
            try with_reducible rfl
          simp only [Act.put, List.setIfInBounds_toArray, List.set_cons_zero, List.set_cons_succ]
          refine wpTL_take _ ?_ rfl (by kernel_rfl) (fun _ _ _ h => h) (by assumption) (Or.inl ⟨by rfl, fun x hx => ?_⟩) ?_
          rotate_left
          · obtain ⟨k0_, k1_, k2_, k3_⟩ := HCS.out x hx
            clear hx
            go_simp
            try with_reducible rfl
          simp only [Act.put, List.setIfInBounds_toArray, List.set_cons_zero, List.set_cons_succ]
          refine wpTL_take _ ?_ rfl (by kernel_rfl) (fun _ _ _ h => h) (by assumption) (Or.inl ⟨by rfl, fun x hx => ?_⟩) ?_
          rotate_left
          · obtain ⟨k0_, k1_, k2_, k3_⟩ := HCS.out x hx
            clear hx
            go_simp
            try with_reducible rfl
          simp only [Act.put, List.setIfInBounds_toArray, List.set_cons_zero, List.set_cons_succ]
          refine wpTL_one (by kernel_rfl) (fun K' hK' => ?_)
          go_simp
          go_at_call 19
          refine (keyOf_any (sp, sl) _ _ ⟨_, rfl, HUW.out⟩ h8).mono ?_
          rintro e w5 ⟨rfl, hb5⟩
          rw [HKV.out]
          have hS5 : BlkS W [X, bn, c10] w5 := hS0.below HBZ.out hb5
          have HB5 := Lib.hid hb5
          clear hb5 hS0
          refine hK' _ _ (fun _ => hS5) ?_
          clear hK' K'
          refine wpTL_take _ ?_ rfl (by kernel_rfl) (fun _ _ _ h => h) (by assumption) (Or.inl ⟨by rfl, fun x hx => ?_⟩) ?_
          rotate_left
          · obtain ⟨k0_, k1_, k2_, k3_⟩ := HCS.out x hx
            clear hx
            go_simp
            try with_reducible rfl
          simp only [Act.put, List.setIfInBounds_toArray, List.set_cons_zero, List.set_cons_succ]
          refine wpTL_take _ ?_ rfl (by kernel_rfl) (fun _ _ _ h => h) (by assumption) (Or.inl ⟨by rfl, fun x hx => ?_⟩) ?_
          rotate_left
          · obtain ⟨k0_, k1_, k2_, k3_⟩ := HCS.out x hx
            clear hx
            go_simp
            try with_reducible rfl
          simp only [Act.put, List.setIfInBounds_toArray, List.set_cons_zero, List.set_cons_succ]
          refine wpTL_take _ ?_ rfl (by kernel_rfl) (fun _ _ _ h => h) (by assumption) (Or.inl ⟨by rfl, fun x hx => ?_⟩) ?_
          rotate_left
          · obtain ⟨k0_, k1_, k2_, k3_⟩ := HCS.out x hx
            clear hx
            go_simp
            try with_reducible rfl
          simp only [Act.put, List.setIfInBounds_toArray, List.set_cons_zero, List.set_cons_succ]
          refine wpTL_take _ ?_ rfl (by kernel_rfl) (fun _ _ _ h => h) (by assumption) (Or.inl ⟨by rfl, fun x hx => ?_⟩) ?_
          rotate_left
          · obtain ⟨k0_, k1_, k2_, k3_⟩ := HCS.out x hx
            clear hx
            go_simp
            try with_reducible rfl
          simp only [Act.put, List.setIfInBounds_toArray, List.set_cons_zero, List.set_cons_succ]
          refine wpTL_one (by kernel_rfl) (fun K' hK' => ?_)
          go_simp
          refine hK' _ _ (fun _ => hS5) ?_
          clear hK' K'
          refine wpTL_one (by kernel_rfl) (fun K' hK' => ?_)
          go_simp
          refine hK' _ _ (fun h => absurd rfl h) ?_
          clear hK' K'
          refine wpTL_nil (by kernel_rfl) ?_
          have HS5 := Lib.hid (HSW.out.up HB5.out)
          have HT5 := Lib.hid (HTW.out.trans (Tr.up HB5.out))
          obtain ⟨y0, y1, _, _⟩ := row2 ((HB5.out.block c10 (Array.getElem?_eq_some_iff.1 HS10.out).1).trans HS10.out)
          have HU5 := Lib.hid (HUW.out.below HB5.out).all
          clear HCS HBZ hS5 HSW HTW HUW HSj HTj HB5
          cases bi with
          | true =>
            have HEQ : Hid (add l (rs.take (j + 1)) = L) := Lib.hid (by rw [HNX.out, if_pos (of_decide_eq_true HBI.out.symm)])
            clear HBI
            go_wp2
            go_roundw
            case rel => exact ⟨j + 1, Gj, fj, Vj, by go_num, by rw [HEQ.out, HN0.out], by omega, by rw [HEQ.out]; exact HS5, by rw [HEQ.out]; exact Lib.hid ⟨HPj.out.1, by have := HPj.out.2.1; omega, HPj.out.2.2⟩, HT5⟩
            case measure => simp only [intOf]; omega
          | false =>
            have hni : (sp, sl) ∉ L := of_decide_eq_false HBI.out.symm
            have HEQ : Hid (add l (rs.take (j + 1)) = L ++ [(sp, sl)]) := Lib.hid (by rw [HNX.out, if_neg hni])
            have HNI := Lib.hid hni
            have HBN0 : Hid (wrap64 (N0 + 1) = N0 + 1) := Lib.hid (by have := HN0.out; unfold wrap64; omega)
            clear hni HBI
            go_wp2_with fail
            refine (push_any _ HS5.out HPj.out.1 HFITs.out HOKs.out HNI.out hnj ⟨_, rfl, HU5.out⟩).mono ?_
            rintro e w6 ⟨rfl, G6, f6, V6, hs6, hl6, hn6, hv6, ht6⟩
            have HS6 := Lib.hid hs6
            have HT6 := Lib.hid (HT5.out.trans ht6)
            have HP6 : Hid ((L ++ [(sp, sl)]).length = f6.length ∧ V6.N ≤ V.N + (j + 1) ∧ V6.lv = V.lv) := Lib.hid ⟨hl6, by rw [hn6]; have := HPj.out.2.1; omega, hv6.trans HPj.out.2.2⟩
            clear hs6 hl6 hn6 hv6 ht6
            go_wp2
            go_roundw
            case rel => exact ⟨j + 1, G6, f6, V6, by go_num, by rw [HEQ.out, List.length_append]; (try rw [HBN0.out]); rw [HN0.out]; congr 1; simp; omega, by omega, by rw [HEQ.out]; exact HS6, by rw [HEQ.out]; exact HP6, HT6⟩
            case measure => simp only [intOf]; omega
        · have e : j = rs.length := by omega
          subst e
          rw [List.take_length] at HSj HPj
          go_wp2
          go_ret2
          refine ⟨out_ret (by rw [HR.out, List.take_length]) HR2.out.symm, Gj, fj, Vj, ?_, ?_, HPj.out.2.1, HPj.out.2.2, HTj.out⟩
          · rw [HR.out]; exact HSj.out
          · rw [HR.out]; exact HPj.out.1
end Go.Proofs.Ytmkoejpdoeblkaa
