/-
  The walk of the law. Conditions: the constants as memory holds them; the table of powers.
-/
import Derived.Test.YtijmogehmcjopaaDoorW27
namespace Go.Proofs.YtijmogehmcjopaaDoor
open Go.RowKit Go.Maps Ct

/-- The list that is handed in. -/
def CnsAt (w : World) (a : Option Addr) (cs : List Cn) : Prop := cs ≠ [] → ∃ g off, a = some ⟨g, off, none⟩ ∧ g < w.heap.size ∧ ∀ (i : Nat) (hi : i < cs.length), w.cell? ⟨g, off + i * 3, none⟩ = some (.int .i64 cs[i].kind) ∧ w.cell? ⟨g, off + i * 3 + 1, none⟩ = some (.int .i64 cs[i].int) ∧ w.cell? ⟨g, off + i * 3 + 2, none⟩ = some (.string ⟨cs[i].text.toArray⟩)
theorem findI_none {ids : List Cn} {c : Cn} (h : place ids c = none) : findI ids c = -1 := by rw [findI, h]
theorem findI_some {ids : List Cn} {c : Cn} {i : Nat} (h : place ids c = some i) : findI ids c = (i : Int) := by rw [findI, h]

def minC : Cn := ⟨1, -9223372036854775808, []⟩
theorem min_text : textC minC = [45, 57, 50, 50, 51, 51, 55, 50, 48, 51, 54, 56, 53, 52, 55, 55, 53, 56, 48, 56] := by
  rw [textC_1 (by decide) rfl, minC]
  simp [Lib.itoa, Lib.decDigits]
theorem min_any (w : World) (ht : Tab w) : Calls Tryd.prog 5 #[.agg #[.int .i64 1, .int .i64 (-9223372036854775808), .string ⟨#[]⟩]] w fun e w' => e = .returned (.string ⟨#[45, 57, 50, 50, 51, 51, 55, 50, 48, 51, 54, 56, 53, 52, 55, 55, 53, 56, 48, 56]⟩) ∧ Below w.heap.size w w' := by
  have h := text_any minC (by simp [InR, minC]) w ht
  rw [min_text] at h
  exact h

set_option maxRecDepth 100000 in
set_option maxHeartbeats 64000000 in
theorem law_any (cs : List Cn) (a : Option Addr) (cap : Nat) (w : World) (hmax : cs.length ≤ maxLen) (hcs : CnsAt w a cs) (hin : ∀ c ∈ cs, InC c) (ht : Tab w) :
    Calls Tryd.prog 3 #[.slice a cs.length cap] w fun e w' => e = .returned (.bool true) ∧ Below w.heap.size w w' := by
  obtain ⟨i0, hi, hz0, hz1, hz2⟩ := info_parts info26
  have hnew := new_any w
  obtain ⟨n, hn⟩ : ∃ n, n = cs.length := ⟨_, rfl⟩
  rw [← hn] at hmax ⊢
  have HMAX := Lib.hid hmax
  clear hmax
  have HN := Lib.hid hn
  have HCS := Lib.hid hcs
  have HIN := Lib.hid hin
  have HT := Lib.hid ht
  clear hn hcs hin ht
  go_enter Tryd.func3, Tryd.ntmps3
  go_upto_region 6 with (go_at_call 4; refine hnew.mono ?_; rintro e w1 ⟨X, M, rfl, htb, hb1⟩)
  have HS1 : Hid (St w X M [] [] (.slice none 0 0) (.slice none 0 0) w1) := Lib.hid ⟨htb, World.ownsRow_nil _ _ _ _, fun k e => by simp [Value.ownBlock] at e, by simp [Value.ownBlock], by simp [Value.ownBlock], hb1⟩
  clear hnew htb hb1
  go_loopw [26, 4] (fun k d wr => ∃ (q : Nat) (o v : Value) (ids : List Cn), k = .int .i64 (q : Int) ∧ o = d ∧ q ≤ n ∧ Hid (Good ids) ∧ Hid (St w X M ids ids o v wr)) (fun k _ _ => n - (intOf k).toNat)
  case atStart => exact ⟨0, _, _, [], rfl, rfl, by omega, Lib.hid Good.nil, HS1⟩
  case round =>
    obtain ⟨q, o, v, ids, rfl, rfl, hq, HG, HS⟩ := hrel
    by_cases hqn : q < n
    · have hqI : (q : Int) < (n : Int) := by omega
      have hq0 : (0 : Int) ≤ (q : Int) := by omega
      have hqc : q < cs.length := by rw [← HN.out]; exact hqn
      obtain ⟨g, off, rfl, hgl, hat⟩ := HCS.out (fun e => by rw [e] at hqc; simp at hqc)
      obtain ⟨c, hc⟩ : ∃ c, c = cs[q] := ⟨_, rfl⟩
      obtain ⟨a0, a1, a2⟩ := hat q hqc
      rw [← hc] at a0 a1 a2
      have HC : Hid (InC c) := Lib.hid (by rw [hc]; exact HIN.out _ (List.getElem_mem _))
      have c0 := (HS.out.bel.cell (p := ⟨g, off + q * 3, none⟩) hgl).trans a0
      have c1 := (HS.out.bel.cell (p := ⟨g, off + q * 3 + 1, none⟩) hgl).trans a1
      have c2 := (HS.out.bel.cell (p := ⟨g, off + q * 3 + 2, none⟩) hgl).trans a2
      have hw1 : IntKind.i64.wrap ((q : Int) + 1) = (q : Int) + 1 := by have := HMAX.out; unfold maxLen at this; rw [IntKind.wrap_i64]; omega
      have HB := Lib.hid (HS.out.box c)
      have HS2 := Lib.hid (HS.out.alloc (.cells #[.int .i64 c.kind, .int .i64 c.int, .string ⟨c.text.toArray⟩] 26))
      clear hat hc a0 a1 a2 hqc
      go_upto_region 8 with fail
      obtain ⟨w2, hw2⟩ : ∃ w2, w2 = wr.alloc (.cells #[.int .i64 c.kind, .int .i64 c.int, .string ⟨c.text.toArray⟩] 26) := ⟨_, rfl⟩
      rw [← hw2] at HB HS2 ⊢
      obtain ⟨b, hb⟩ : ∃ b, b = wr.heap.size := ⟨_, rfl⟩
      rw [← hb] at HB ⊢
      clear hw2 hb c0 c1 c2
      have ht2 := text_any c HC.out.2.1 w2 (HT.out.bel HS2.out.bel)
      unfold cnV at ht2
      obtain ⟨b0, b1, b2, _, _, _⟩ := three_cells HB.out.at'
      go_upto_region 9 with (go_at_call 5; refine ht2.mono ?_; rintro e w3 ⟨rfl, hb3⟩)
      have HB3 := Lib.hid (HB.out.up hb3)
      have HS3 := Lib.hid (HS2.out.up hb3)
      clear hb3 ht2 b0 b1 b2
      have hfit := fit_any c w3
      unfold cnV at hfit
      obtain ⟨b0, b1, b2, _, _, _⟩ := three_cells HB3.out.at'
      by_cases hv : valid c = true
      · rw [hv] at hfit
        have HV := Lib.hid hv
        clear hv
        go_upto_region 13 with (go_at_call 6; refine hfit.mono ?_; rintro e w4 ⟨rfl, hb4⟩)
        have HB4 := Lib.hid (HB3.out.up hb4)
        have HS4 := Lib.hid (HS3.out.up hb4)
        clear hb4 hfit b0 b1 b2
        have hrd := read_any c HV.out HC.out.2.1 w4 (HT.out.bel HS4.out.bel)
        unfold cnV at hrd
        go_upto_region 14 with (go_at_call 10; refine hrd.mono ?_; rintro e w5 ⟨rfl, hb5⟩)
        have HB5 := Lib.hid ((HB4.out.up hb5).alloc (.cells #[.int .i64 c.kind, .int .i64 c.int, .string ⟨c.text.toArray⟩] 26))
        have HS5 := Lib.hid ((HS4.out.up hb5).alloc (.cells #[.int .i64 c.kind, .int .i64 c.int, .string ⟨c.text.toArray⟩] 26))
        obtain ⟨w6, hw6⟩ : ∃ w6, w6 = w5.alloc (.cells #[.int .i64 c.kind, .int .i64 c.int, .string ⟨c.text.toArray⟩] 26) := ⟨_, rfl⟩
        have q6 : w6.heap[w5.heap.size]? = some (.cells #[.int .i64 c.kind, .int .i64 c.int, .string ⟨c.text.toArray⟩] 26) := by rw [hw6]; exact heap_alloc_new _ _
        rw [← hw6] at HB5 HS5 ⊢
        clear hrd hb5 hw6
        have hval := fun x => valid_any c x
        rw [HV.out] at hval
        have hsh := fun x => shown_any c HC.out.2.1 HV.out x
        unfold cnV at hval hsh
        obtain ⟨b6, hb6⟩ : ∃ b6, b6 = w5.heap.size := ⟨_, rfl⟩
        rw [← hb6] at q6 ⊢
        clear hb6
        obtain ⟨b0, b1, b2, _, _, _⟩ := three_cells HB5.out.at'
        go_upto_region 14 with fail
        go_wp2_with fail
        refine (hval _).mono ?_
        rintro e w7 ⟨rfl, hb7⟩
        have HB7 := Lib.hid (HB5.out.up hb7)
        have HS7 := Lib.hid (HS5.out.up hb7)
        have q7 := (hb7.block b6 (heap_lt q6)).trans q6
        clear b0 b1 b2 hb7
        obtain ⟨b0, b1, b2, _, _, _⟩ := three_cells HB7.out.at'
        go_wp2_with fail
        refine (hsh _).mono ?_
        rintro e w8 ⟨rfl, hb8⟩
        have HB8 := Lib.hid (HB7.out.up hb8)
        have HS8 := Lib.hid (HS7.out.up hb8)
        have q8 := (hb8.block b6 (heap_lt q7)).trans q7
        clear b0 b1 b2 hb8
        obtain ⟨b0, b1, b2, _, _, _⟩ := three_cells HB8.out.at'
        obtain ⟨s0, s1, s2, _, _, _⟩ := three_cells q8
        go_upto_region 17 with fail
        clear b0 b1 b2 s0 s1 s2 q8 q7 q6 hval hsh
        obtain ⟨m, hm⟩ : ∃ m, m = ids.length := ⟨_, rfl⟩
        have hof := own_form HS8.out.own
        rw [← hm] at hof
        obtain ⟨ao, co, rfl⟩ := hof
        have HM := Lib.hid hm
        have hm65 : m ≤ 65536 := by have := HG.out.len; omega
        clear hm
        go_loopw [12] (fun k wr2 => ∃ p : Nat, k = .int .i64 (p : Int) ∧ p ≤ m ∧ Hid (∀ j (hj : j < ids.length), j < p → ids[j] ≠ c) ∧ Hid (Below w8.heap.size w8 wr2)) (fun k _ => m - (intOf k).toNat)
        case atStart => exact ⟨0, rfl, by omega, Lib.hid (fun j _ h => by omega), Lib.hid (Below.refl _ _)⟩
        case round =>
          obtain ⟨p, rfl, hpm, HNE, HW2⟩ := hrel
          have HB9 := Lib.hid (HB8.out.up HW2.out)
          have HS9 := Lib.hid (HS8.out.up HW2.out)
          obtain ⟨b0, b1, b2, _, _, _⟩ := three_cells HB9.out.at'
          have lb := heap_lt HB9.out.at'
          by_cases hlt : p < m
          · have hltI : (p : Int) < (m : Int) := by omega
            have hp0 : (0 : Int) ≤ (p : Int) := by omega
            have hwp : IntKind.i64.wrap ((p : Int) + 1) = (p : Int) + 1 := by rw [IntKind.wrap_i64]; omega
            obtain ⟨gL, cL, hg⟩ := Joins.ownsRow_form HS9.out.own (by have := HM.out; omega)
            injection hg with hg hg2 hg3
            subst hg
            clear hg2 hg3
            have hpl : p < ids.length := by have := HM.out; omega
            obtain ⟨d, hd⟩ : ∃ d, d = ids[p] := ⟨_, rfl⟩
            have own' := HS9.out.own
            rw [HM.out] at own'
            obtain ⟨e0, e1, e2⟩ := cn_cells own' hpl
            rw [← hd] at e0 e1 e2
            have lg := (HS9.out.own.lt gL rfl).2
            by_cases hdc : d = c
            · have hneq : ∀ z, (binOp BinOp.neq 26 (.agg #[.int .i64 d.kind, .int .i64 d.int, .string ⟨d.text.toArray⟩]) (.agg #[.int .i64 c.kind, .int .i64 c.int, .string ⟨c.text.toArray⟩])).run Tryd.prog z = .ok (.bool false) z := fun z => by
                have := neq_cn d c z
                unfold cnV at this
                simpa [hdc] using this
              have HP := Lib.hid (place_first hpl (by rw [← hd]; exact hdc) HNE.out)
              clear own' hpl hd hdc
              go_upto_region 17 with fail
              refine wp_region_H (fun x => Below wr.heap.size wr x) (by kernel_rfl) ?_
              have hS0 : Below wr.heap.size wr wr.drew := (Below.refl _ _).drew
              refine wpAnyH_tk 0 (some 90) (.int .i64 (p : Int)) rfl rfl (by kernel_rfl) (fun _ _ _ h => h) (by assumption) (Or.inl ⟨by kernel_rfl, fun z hx => ?_⟩) ?_
              · clear hx; go_simp; first | done | rfl
              refine wpAnyH_tk 1 (some 91) (.slice (some ⟨gL, 0, none⟩) m co) rfl rfl (by kernel_rfl) (fun _ _ _ h => h) (by assumption) (Or.inl ⟨by kernel_rfl, fun z hx => ?_⟩) ?_
              · clear hx; go_simp; first | done | rfl
              refine wpAnyH_tk 2 (some 92) (.int .i64 (m : Int)) rfl rfl (by kernel_rfl) (fun _ _ _ h => h) (by assumption) (Or.inl ⟨by kernel_rfl, fun z hx => ?_⟩) ?_
              · clear hx; go_simp; first | done | rfl
              refine wpAnyH_tk 3 (some 93) (.bool true) rfl rfl (by kernel_rfl) (fun _ _ _ h => h) (by assumption) (Or.inl ⟨by kernel_rfl, fun z hx => ?_⟩) ?_
              · clear hx; go_simp; first | done | rfl
              refine wpAnyH_tk 4 (some 94) (.bool true) rfl rfl (by kernel_rfl) (fun _ _ _ h => h) (by assumption) (Or.inl ⟨by kernel_rfl, fun z hx => ?_⟩) ?_
              · clear hx; go_simp; first | done | rfl
              refine wpAnyH_tk 5 (some 95) (.slice (some ⟨gL, 0, none⟩) m co) rfl rfl (by kernel_rfl) (fun _ _ _ h => h) (by assumption) (Or.inl ⟨by kernel_rfl, fun z hx => ?_⟩) ?_
              · clear hx; go_simp; first | done | rfl
              refine wpAnyH_tk 6 (some 96) (.int .i64 (p : Int)) rfl rfl (by kernel_rfl) (fun _ _ _ h => h) (by assumption) (Or.inl ⟨by kernel_rfl, fun z hx => ?_⟩) ?_
              · clear hx; go_simp; first | done | rfl
              refine wpAnyH_tk 7 (some 97) (.pointer (some ⟨gL, p * 3, none⟩)) rfl rfl (by kernel_rfl) (fun _ _ _ h => h) (by assumption) (Or.inl ⟨by kernel_rfl, fun z hx => ?_⟩) ?_
              · clear hx; go_simp; first | done | rfl
              refine wpAnyH_tk 8 (some 98) (.agg #[.int .i64 d.kind, .int .i64 d.int, .string ⟨d.text.toArray⟩]) rfl rfl (by kernel_rfl) (fun _ _ _ h => h) (by assumption) (Or.inl ⟨by kernel_rfl, fun z hx => ?_⟩) ?_
              · have q0 := (hx.cell (p := ⟨gL, p * 3, none⟩) lg).trans e0; have q1 := (hx.cell (p := ⟨gL, p * 3 + 1, none⟩) lg).trans e1; have q2 := (hx.cell (p := ⟨gL, p * 3 + 2, none⟩) lg).trans e2; clear hx; go_simp; first | done | rfl
              refine wpAnyH_tk 9 (some 99) (.agg #[.int .i64 c.kind, .int .i64 c.int, .string ⟨c.text.toArray⟩]) rfl rfl (by kernel_rfl) (fun _ _ _ h => h) (by assumption) (Or.inl ⟨by kernel_rfl, fun z hx => ?_⟩) ?_
              · have q0 := (hx.cell (p := ⟨b, 0, none⟩) lb).trans b0; have q1 := (hx.cell (p := ⟨b, 1, none⟩) lb).trans b1; have q2 := (hx.cell (p := ⟨b, 2, none⟩) lb).trans b2; clear hx; go_simp; first | done | rfl
              refine wpAnyH_tk 10 (some 100) (.bool false) rfl rfl (by kernel_rfl) (fun _ _ _ h => h) (by assumption) (Or.inl ⟨by kernel_rfl, fun z hx => ?_⟩) ?_
              · clear hx; go_simp; first | done | rfl
              refine wpAnyH_tk 11 (some 101) (.bool false) rfl rfl (by kernel_rfl) (fun _ _ _ h => h) (by assumption) (Or.inl ⟨by kernel_rfl, fun z hx => ?_⟩) ?_
              · clear hx; go_simp; first | done | rfl
              refine wpAnyH_done (by kernel_rfl) ?_ _
              go_simp
              have HB10 := Lib.hid (HB9.out.up hS0)
              have HS10 := Lib.hid (HS9.out.up hS0)
              clear hneq e0 e1 e2 lg b0 b1 b2 lb
              clear hS0
              generalize hw10 : wr.drew = w10 at HB10 HS10 ⊢
              clear hw10
              have hpeq : ((p : Int) == (m : Int)) = false := by simp; omega
              have htin := tintern_old HS10.out.tbl c HV.out HC.out p HP.out
              unfold cnV at htin
              obtain ⟨b0, b1, b2, _, _, _⟩ := three_cells HB10.out.at'
              go_upto_region 28 with (go_at_call 7; refine htin.mono ?_; rintro e w11 ⟨rfl, hb11⟩)
              have HB11 := Lib.hid (HB10.out.up hb11)
              have HS11 := Lib.hid (HS10.out.up hb11)
              clear hb11 htin b0 b1 b2
              obtain ⟨b0, b1, b2, _, _, _⟩ := three_cells HB11.out.at'
              have lb := heap_lt HB11.out.at'
              have hfnd : ∀ x, Below w11.heap.size w11 x → Calls Tryd.prog 9 #[.pointer (some ⟨X, 0, none⟩), .agg #[.int .i64 c.kind, .int .i64 c.int, .string ⟨c.text.toArray⟩]] x fun e w' => e = .returned (.int .i64 (p : Int)) ∧ Below x.heap.size x w' := fun x hx => by
                have := find_any (HS11.out.up hx).tbl c HC.out
                rw [findI_some HP.out] at this
                exact this
              have hlen : ∀ x, Below w11.heap.size w11 x → Calls Tryd.prog 12 #[.pointer (some ⟨X, 0, none⟩)] x fun e w' => e = .returned (.int .i64 (m : Int)) ∧ w' = x := fun x hx => by
                have := len_any (HS11.out.up hx).tbl
                rw [← HM.out] at this
                exact this
              refine wp_region_H (fun x => Below w11.heap.size w11 x) (by kernel_rfl) ?_
              have hS0 : Below w11.heap.size w11 w11.drew := (Below.refl _ _).drew
              refine wpAnyH_tk 0 (some 142) (.int .i64 (p : Int)) rfl rfl (by kernel_rfl) (fun _ _ _ h => h) (by assumption) (Or.inl ⟨by kernel_rfl, fun z hx => ?_⟩) ?_
              · clear hx; go_simp; first | done | rfl
              refine wpAnyH_tk 1 (some 143) (.int .i64 (p : Int)) rfl rfl (by kernel_rfl) (fun _ _ _ h => h) (by assumption) (Or.inl ⟨by kernel_rfl, fun z hx => ?_⟩) ?_
              · clear hx; go_simp; first | done | rfl
              refine wpAnyH_tk 2 (some 144) (.bool false) rfl rfl (by kernel_rfl) (fun _ _ _ h => h) (by assumption) (Or.inl ⟨by kernel_rfl, fun z hx => ?_⟩) ?_
              · clear hx; go_simp; first | done | rfl
              refine wpAnyH_tk 3 (some 145) (.bool false) rfl rfl (by kernel_rfl) (fun _ _ _ h => h) (by assumption) (Or.inl ⟨by kernel_rfl, fun z hx => ?_⟩) ?_
              · clear hx; go_simp; first | done | rfl
              refine wpAnyH_tk 4 (some 146) (.int .i64 0) rfl rfl (by kernel_rfl) (fun _ _ _ h => h) (by assumption) (Or.inl ⟨by kernel_rfl, fun z hx => ?_⟩) ?_
              · clear hx; go_simp; first | done | rfl
              refine wpAnyH_tk 5 (some 147) (.bool false) rfl rfl (by kernel_rfl) (fun _ _ _ h => h) (by assumption) (Or.inl ⟨by kernel_rfl, fun z hx => ?_⟩) ?_
              · clear hx; go_simp; first | done | rfl
              refine wpAnyH_tk 6 (some 148) (.bool false) rfl rfl (by kernel_rfl) (fun _ _ _ h => h) (by assumption) (Or.inl ⟨by kernel_rfl, fun z hx => ?_⟩) ?_
              · clear hx; go_simp; first | done | rfl
              refine wpAnyH_tk 7 (some 149) (.bool false) rfl rfl (by kernel_rfl) (fun _ _ _ h => h) (by assumption) (Or.inl ⟨by kernel_rfl, fun z hx => ?_⟩) ?_
              · clear hx; go_simp; first | done | rfl
              refine wpAnyH_tk 8 (some 150) (.pointer (some ⟨X, 0, none⟩)) rfl rfl (by kernel_rfl) (fun _ _ _ h => h) (by assumption) (Or.inl ⟨by kernel_rfl, fun z hx => ?_⟩) ?_
              · clear hx; go_simp; first | done | rfl
              refine wpAnyH_tk 9 (some 151) (.pointer (some ⟨X, 0, none⟩)) rfl rfl (by kernel_rfl) (fun _ _ _ h => h) (by assumption) (Or.inl ⟨by kernel_rfl, fun z hx => ?_⟩) ?_
              · clear hx; go_simp; first | done | rfl
              refine wpAnyH_tk 10 (some 152) (.pointer (some ⟨X, 0, none⟩)) rfl rfl (by kernel_rfl) (fun _ _ _ h => h) (by assumption) (Or.inl ⟨by kernel_rfl, fun z hx => ?_⟩) ?_
              · clear hx; go_simp; first | done | rfl
              refine wpAnyH_tk 11 (some 153) (.agg #[.int .i64 c.kind, .int .i64 c.int, .string ⟨c.text.toArray⟩]) rfl rfl (by kernel_rfl) (fun _ _ _ h => h) (by assumption) (Or.inl ⟨by kernel_rfl, fun z hx => ?_⟩) ?_
              · have q0 := (hx.cell (p := ⟨b, 0, none⟩) lb).trans b0; have q1 := (hx.cell (p := ⟨b, 1, none⟩) lb).trans b1; have q2 := (hx.cell (p := ⟨b, 2, none⟩) lb).trans b2; clear hx; go_simp; first | done | rfl
              refine wpAnyH_tk 13 (some 155) (.int .i64 (p : Int)) rfl rfl (by kernel_rfl) (fun _ _ _ h => h) (by assumption) (Or.inl ⟨by kernel_rfl, fun z hx => ?_⟩) ?_
              · clear hx; go_simp; first | done | rfl
              refine wpAnyH_one 12 rfl (by kernel_rfl) (fun K' hK' => ?_)
              rw [if_pos (by kernel_rfl)]
              go_simp
              go_at_call 9
              refine (hfnd _ hS0).mono ?_
              rintro e w16 ⟨rfl, hb16⟩
              have hS6 : Below w11.heap.size w11 w16 := hS0.trans hb16
              clear hb16
              go_simp
              refine hK' _ _ hS6 ?_
              clear hK'
              clear hS0
              refine wpAnyH_tk 14 (some 156) (.bool false) rfl rfl (by kernel_rfl) (fun _ _ _ h => h) (by assumption) (Or.inl ⟨by kernel_rfl, fun z hx => ?_⟩) ?_
              · clear hx; go_simp; first | done | rfl
              refine wpAnyH_tk 15 (some 157) (.bool false) rfl rfl (by kernel_rfl) (fun _ _ _ h => h) (by assumption) (Or.inl ⟨by kernel_rfl, fun z hx => ?_⟩) ?_
              · clear hx; go_simp; first | done | rfl
              refine wpAnyH_tk 16 (some 158) (.bool false) rfl rfl (by kernel_rfl) (fun _ _ _ h => h) (by assumption) (Or.inl ⟨by kernel_rfl, fun z hx => ?_⟩) ?_
              · clear hx; go_simp; first | done | rfl
              refine wpAnyH_tk 17 (some 159) (.pointer (some ⟨X, 0, none⟩)) rfl rfl (by kernel_rfl) (fun _ _ _ h => h) (by assumption) (Or.inl ⟨by kernel_rfl, fun z hx => ?_⟩) ?_
              · clear hx; go_simp; first | done | rfl
              refine wpAnyH_tk 18 (some 160) (.pointer (some ⟨X, 0, none⟩)) rfl rfl (by kernel_rfl) (fun _ _ _ h => h) (by assumption) (Or.inl ⟨by kernel_rfl, fun z hx => ?_⟩) ?_
              · clear hx; go_simp; first | done | rfl
              refine wpAnyH_tk 19 (some 161) (.pointer (some ⟨X, 0, none⟩)) rfl rfl (by kernel_rfl) (fun _ _ _ h => h) (by assumption) (Or.inl ⟨by kernel_rfl, fun z hx => ?_⟩) ?_
              · clear hx; go_simp; first | done | rfl
              refine wpAnyH_tk 21 (some 163) (.slice (some ⟨gL, 0, none⟩) m co) rfl rfl (by kernel_rfl) (fun _ _ _ h => h) (by assumption) (Or.inl ⟨by kernel_rfl, fun z hx => ?_⟩) ?_
              · clear hx; go_simp; first | done | rfl
              refine wpAnyH_tk 22 (some 164) (.int .i64 (m : Int)) rfl rfl (by kernel_rfl) (fun _ _ _ h => h) (by assumption) (Or.inl ⟨by kernel_rfl, fun z hx => ?_⟩) ?_
              · clear hx; go_simp; first | done | rfl
              refine wpAnyH_one 20 rfl (by kernel_rfl) (fun K' hK' => ?_)
              rw [if_pos (by kernel_rfl)]
              go_simp
              go_at_call 12
              refine (hlen _ hS6).mono ?_
              rintro e w17 ⟨rfl, hw17⟩
              rw [hw17]
              clear hw17
              go_simp
              refine hK' _ _ hS6 ?_
              clear hK'
              refine wpAnyH_tk 23 (some 165) (.bool false) rfl rfl (by kernel_rfl) (fun _ _ _ h => h) (by assumption) (Or.inl ⟨by kernel_rfl, fun z hx => ?_⟩) ?_
              · clear hx; go_simp; first | done | rfl
              refine wpAnyH_tk 24 (some 166) (.bool false) rfl rfl (by kernel_rfl) (fun _ _ _ h => h) (by assumption) (Or.inl ⟨by kernel_rfl, fun z hx => ?_⟩) ?_
              · clear hx; go_simp; first | done | rfl
              refine wpAnyH_done (by kernel_rfl) ?_ _
              go_simp
              have HB20 := Lib.hid (HB11.out.up hS6)
              have HS20 := Lib.hid (HS11.out.up hS6)
              clear hS6 hfnd hlen b0 b1 b2 lb
              go_upto_region 31 with fail
              go_loopw [169] (fun k wr3 => ∃ i : Nat, k = .int .i64 (i : Int) ∧ i ≤ m ∧ Hid (Below w16.heap.size w16 wr3)) (fun k _ => m - (intOf k).toNat)
              case atStart => exact ⟨0, rfl, by omega, Lib.hid (Below.refl _ _)⟩
              case round =>
                obtain ⟨i, rfl, hi3, HW3⟩ := hrel
                have HB21 := Lib.hid (HB20.out.up HW3.out)
                have HS21 := Lib.hid (HS20.out.up HW3.out)
                by_cases him : i < m
                · have hiI : (i : Int) < (m : Int) := by omega
                  have hiI0 : (0 : Int) ≤ (i : Int) := by omega
                  have hwi : IntKind.i64.wrap ((i : Int) + 1) = (i : Int) + 1 := by have := HM.out; have := HG.out.len; rw [IntKind.wrap_i64]; omega
                  obtain ⟨gN, cN', hg⟩ := Joins.ownsRow_form HS21.out.own (by have := HM.out; omega)
                  injection hg with hg hg2 hg3
                  clear hg2 hg3
                  try subst hg
                  have hil : i < (ids).length := by have := HM.out; omega
                  obtain ⟨d, hd⟩ : ∃ d, d = (ids)[i] := ⟨_, rfl⟩
                  have own' := HS21.out.own
                  obtain ⟨e0, e1, e2⟩ := cn_cells own' hil
                  rw [← hd] at e0 e1 e2
                  have hcon := fun (x : World) hx => const_any (w := x) ((HS21.out.up hx).tbl) i hil
                  rw [← hd] at hcon
                  have HVD : Hid (valid d = true) := Lib.hid (by rw [hd]; exact (HG.out.ok _ (List.getElem_mem _)).1)
                  clear hd own' hil
                  try clear hg
                  go_upto_region 33 with fail
                  have HB22 := Lib.hid (HB21.out.alloc (.cells #[.int .i64 d.kind, .int .i64 d.int, .string ⟨d.text.toArray⟩] 26))
                  have HW22 : Hid (Below w16.heap.size w16 (wr.alloc (.cells #[.int .i64 d.kind, .int .i64 d.int, .string ⟨d.text.toArray⟩] 26))) := Lib.hid (HW3.out.alloc HW3.out.size _)
                  have hc22 := hcon _ (up_alloc wr (.cells #[.int .i64 d.kind, .int .i64 d.int, .string ⟨d.text.toArray⟩] 26))
                  obtain ⟨w22, hw22⟩ : ∃ w22, w22 = wr.alloc (.cells #[.int .i64 d.kind, .int .i64 d.int, .string ⟨d.text.toArray⟩] 26) := ⟨_, rfl⟩
                  have k22 : w22.heap[wr.heap.size]? = some (.cells #[.int .i64 d.kind, .int .i64 d.int, .string ⟨d.text.toArray⟩] 26) := by rw [hw22]; exact heap_alloc_new _ _
                  rw [← hw22] at HB22 HW22 hc22 ⊢
                  clear hw22 hcon e0 e1 e2
                  obtain ⟨b18, hb18⟩ : ∃ b18, b18 = wr.heap.size := ⟨_, rfl⟩
                  rw [← hb18] at k22 ⊢
                  clear hb18
                  unfold cnV at hc22
                  go_upto_region 34 with (go_at_call 13; refine hc22.mono ?_; rintro e w23 ⟨rfl, hb23⟩)
                  have HB23 := Lib.hid ((HB22.out.up hb23).alloc (.cells #[.int .i64 d.kind, .int .i64 d.int, .string ⟨d.text.toArray⟩] 26))
                  have HW23 : Hid (Below w16.heap.size w16 (w23.alloc (.cells #[.int .i64 d.kind, .int .i64 d.int, .string ⟨d.text.toArray⟩] 26))) := Lib.hid ((HW22.out.trans (hb23.mono HW22.out.size)).alloc (by have := HW22.out.size; have := hb23.size; omega) _)
                  have k23 : (w23.alloc (.cells #[.int .i64 d.kind, .int .i64 d.int, .string ⟨d.text.toArray⟩] 26)).heap[b18]? = some (.cells #[.int .i64 d.kind, .int .i64 d.int, .string ⟨d.text.toArray⟩] 26) := (Lib.alloc_old _ _ _ (Nat.lt_of_lt_of_le (heap_lt k22) hb23.size)).trans ((hb23.block b18 (heap_lt k22)).trans k22)
                  obtain ⟨w24, hw24⟩ : ∃ w24, w24 = w23.alloc (.cells #[.int .i64 d.kind, .int .i64 d.int, .string ⟨d.text.toArray⟩] 26) := ⟨_, rfl⟩
                  have j24 : w24.heap[w23.heap.size]? = some (.cells #[.int .i64 d.kind, .int .i64 d.int, .string ⟨d.text.toArray⟩] 26) := by rw [hw24]; exact heap_alloc_new _ _
                  rw [← hw24] at HB23 HW23 k23 ⊢
                  clear hw24 hc22 hb23 k22
                  obtain ⟨b19, hb19⟩ : ∃ b19, b19 = w23.heap.size := ⟨_, rfl⟩
                  rw [← hb19] at j24 ⊢
                  clear hb19
                  obtain ⟨b0, b1, b2, _, _, _⟩ := three_cells HB23.out.at'
                  obtain ⟨k0, k1, k2, _, _, _⟩ := three_cells k23
                  obtain ⟨j0, j1, j2, _, _, _⟩ := three_cells j24
                  have lb := heap_lt HB23.out.at'
                  have lk := heap_lt k23
                  have lj := heap_lt j24
                  have hc1 := fun x => compare_any c d x
                  have hc2 := fun x => compare_any d c x
                  have hf1 := fun x => before_any c d x
                  have hf2 := fun x => before_any d c x
                  rw [← cmpC_eq HV.out HVD.out] at hf1
                  rw [← cmpC_eq HVD.out HV.out] at hf2
                  unfold cnV at hc1 hc2 hf1 hf2
                  obtain ⟨K1, hK1⟩ : ∃ K1, K1 = cmpC c d := ⟨_, rfl⟩
                  obtain ⟨K2, hK2⟩ : ∃ K2, K2 = cmpC d c := ⟨_, rfl⟩
                  rw [← hK1] at hc1 hf1
                  rw [← hK2] at hc2 hf2
                  clear hK1 hK2
                  have hne0 : ∀ z, (binOp BinOp.neq 26 (.agg #[.int .i64 d.kind, .int .i64 d.int, .string ⟨d.text.toArray⟩]) (.agg #[.int .i64 d.kind, .int .i64 d.int, .string ⟨d.text.toArray⟩])).run Tryd.prog z = .ok (.bool false) z := fun z => by
                    have := neq_cn d d z
                    unfold cnV at this
                    simpa using this
                  refine wp_region_H (fun x => Below w24.heap.size w24 x) (by kernel_rfl) ?_
                  have hS0 : Below w24.heap.size w24 w24.drew := (Below.refl _ _).drew
                  refine wpAnyH_tk 0 (some 180) (.agg #[.int .i64 d.kind, .int .i64 d.int, .string ⟨d.text.toArray⟩]) rfl rfl (by kernel_rfl) (fun _ _ _ h => h) (by assumption) (Or.inl ⟨by kernel_rfl, fun z hx => ?_⟩) ?_
                  · have q0 := (hx.cell (p := ⟨b19, 0, none⟩) lj).trans j0; have q1 := (hx.cell (p := ⟨b19, 1, none⟩) lj).trans j1; have q2 := (hx.cell (p := ⟨b19, 2, none⟩) lj).trans j2; clear hx; go_simp; first | done | rfl
                  refine wpAnyH_tk 1 (some 181) (.agg #[.int .i64 d.kind, .int .i64 d.int, .string ⟨d.text.toArray⟩]) rfl rfl (by kernel_rfl) (fun _ _ _ h => h) (by assumption) (Or.inl ⟨by kernel_rfl, fun z hx => ?_⟩) ?_
                  · have q0 := (hx.cell (p := ⟨b18, 0, none⟩) lk).trans k0; have q1 := (hx.cell (p := ⟨b18, 1, none⟩) lk).trans k1; have q2 := (hx.cell (p := ⟨b18, 2, none⟩) lk).trans k2; clear hx; go_simp; first | done | rfl
                  refine wpAnyH_tk 2 (some 182) (.bool false) rfl rfl (by kernel_rfl) (fun _ _ _ h => h) (by assumption) (Or.inl ⟨by kernel_rfl, fun z hx => ?_⟩) ?_
                  · clear hx; go_simp; first | done | rfl
                  refine wpAnyH_tk 3 (some 183) (.bool false) rfl rfl (by kernel_rfl) (fun _ _ _ h => h) (by assumption) (Or.inl ⟨by kernel_rfl, fun z hx => ?_⟩) ?_
                  · clear hx; go_simp; first | done | rfl
                  refine wpAnyH_tk 4 (some 184) (.int .i64 0) rfl rfl (by kernel_rfl) (fun _ _ _ h => h) (by assumption) (Or.inl ⟨by kernel_rfl, fun z hx => ?_⟩) ?_
                  · clear hx; go_simp; first | done | rfl
                  refine wpAnyH_tk 5 (some 185) (.bool false) rfl rfl (by kernel_rfl) (fun _ _ _ h => h) (by assumption) (Or.inl ⟨by kernel_rfl, fun z hx => ?_⟩) ?_
                  · clear hx; go_simp; first | done | rfl
                  refine wpAnyH_tk 6 (some 186) (.bool false) rfl rfl (by kernel_rfl) (fun _ _ _ h => h) (by assumption) (Or.inl ⟨by kernel_rfl, fun z hx => ?_⟩) ?_
                  · clear hx; go_simp; first | done | rfl
                  refine wpAnyH_tk 7 (some 187) (.bool false) rfl rfl (by kernel_rfl) (fun _ _ _ h => h) (by assumption) (Or.inl ⟨by kernel_rfl, fun z hx => ?_⟩) ?_
                  · clear hx; go_simp; first | done | rfl
                  refine wpAnyH_tk 8 (some 188) (.agg #[.int .i64 c.kind, .int .i64 c.int, .string ⟨c.text.toArray⟩]) rfl rfl (by kernel_rfl) (fun _ _ _ h => h) (by assumption) (Or.inl ⟨by kernel_rfl, fun z hx => ?_⟩) ?_
                  · have q0 := (hx.cell (p := ⟨b, 0, none⟩) lb).trans b0; have q1 := (hx.cell (p := ⟨b, 1, none⟩) lb).trans b1; have q2 := (hx.cell (p := ⟨b, 2, none⟩) lb).trans b2; clear hx; go_simp; first | done | rfl
                  refine wpAnyH_tk 9 (some 189) (.agg #[.int .i64 d.kind, .int .i64 d.int, .string ⟨d.text.toArray⟩]) rfl rfl (by kernel_rfl) (fun _ _ _ h => h) (by assumption) (Or.inl ⟨by kernel_rfl, fun z hx => ?_⟩) ?_
                  · have q0 := (hx.cell (p := ⟨b18, 0, none⟩) lk).trans k0; have q1 := (hx.cell (p := ⟨b18, 1, none⟩) lk).trans k1; have q2 := (hx.cell (p := ⟨b18, 2, none⟩) lk).trans k2; clear hx; go_simp; first | done | rfl
                  refine wpAnyH_tk 11 (some 191) (.agg #[.int .i64 c.kind, .int .i64 c.int, .string ⟨c.text.toArray⟩]) rfl rfl (by kernel_rfl) (fun _ _ _ h => h) (by assumption) (Or.inl ⟨by kernel_rfl, fun z hx => ?_⟩) ?_
                  · have q0 := (hx.cell (p := ⟨b, 0, none⟩) lb).trans b0; have q1 := (hx.cell (p := ⟨b, 1, none⟩) lb).trans b1; have q2 := (hx.cell (p := ⟨b, 2, none⟩) lb).trans b2; clear hx; go_simp; first | done | rfl
                  refine wpAnyH_tk 12 (some 192) (.agg #[.int .i64 d.kind, .int .i64 d.int, .string ⟨d.text.toArray⟩]) rfl rfl (by kernel_rfl) (fun _ _ _ h => h) (by assumption) (Or.inl ⟨by kernel_rfl, fun z hx => ?_⟩) ?_
                  · have q0 := (hx.cell (p := ⟨b18, 0, none⟩) lk).trans k0; have q1 := (hx.cell (p := ⟨b18, 1, none⟩) lk).trans k1; have q2 := (hx.cell (p := ⟨b18, 2, none⟩) lk).trans k2; clear hx; go_simp; first | done | rfl
                  refine wpAnyH_one 10 rfl (by kernel_rfl) (fun K' hK' => ?_)
                  rw [if_pos (by kernel_rfl)]
                  go_simp
                  go_at_call 14
                  refine (hc1 _).mono ?_
                  rintro e w25 ⟨rfl, hb25⟩
                  have hS1 : Below w24.heap.size w24 w25 := hS0.trans hb25
                  clear hb25
                  go_simp
                  refine hK' _ _ hS1 ?_
                  clear hK'
                  clear hS0
                  refine wpAnyH_one 13 rfl (by kernel_rfl) (fun K' hK' => ?_)
                  rw [if_pos (by kernel_rfl)]
                  go_simp
                  go_at_call 15
                  refine (hf1 _).mono ?_
                  rintro e w26 ⟨rfl, hb26⟩
                  have hS2 : Below w24.heap.size w24 w26 := hS1.trans (hb26.mono hS1.size)
                  clear hb26
                  go_simp
                  refine hK' _ _ hS2 ?_
                  clear hK'
                  clear hS1
                  refine wpAnyH_tk 14 (some 194) (.bool false) rfl rfl (by kernel_rfl) (fun _ _ _ h => h) (by assumption) (Or.inl ⟨by kernel_rfl, fun z hx => ?_⟩) ?_
                  · clear hx; go_simp; first | done | rfl
                  refine wpAnyH_tk 15 (some 195) (.bool false) rfl rfl (by kernel_rfl) (fun _ _ _ h => h) (by assumption) (Or.inl ⟨by kernel_rfl, fun z hx => ?_⟩) ?_
                  · clear hx; go_simp; first | done | rfl
                  refine wpAnyH_tk 16 (some 196) (.bool false) rfl rfl (by kernel_rfl) (fun _ _ _ h => h) (by assumption) (Or.inl ⟨by kernel_rfl, fun z hx => ?_⟩) ?_
                  · clear hx; go_simp; first | done | rfl
                  refine wpAnyH_tk 17 (some 197) (.agg #[.int .i64 d.kind, .int .i64 d.int, .string ⟨d.text.toArray⟩]) rfl rfl (by kernel_rfl) (fun _ _ _ h => h) (by assumption) (Or.inl ⟨by kernel_rfl, fun z hx => ?_⟩) ?_
                  · have q0 := (hx.cell (p := ⟨b18, 0, none⟩) lk).trans k0; have q1 := (hx.cell (p := ⟨b18, 1, none⟩) lk).trans k1; have q2 := (hx.cell (p := ⟨b18, 2, none⟩) lk).trans k2; clear hx; go_simp; first | done | rfl
                  refine wpAnyH_tk 18 (some 198) (.agg #[.int .i64 c.kind, .int .i64 c.int, .string ⟨c.text.toArray⟩]) rfl rfl (by kernel_rfl) (fun _ _ _ h => h) (by assumption) (Or.inl ⟨by kernel_rfl, fun z hx => ?_⟩) ?_
                  · have q0 := (hx.cell (p := ⟨b, 0, none⟩) lb).trans b0; have q1 := (hx.cell (p := ⟨b, 1, none⟩) lb).trans b1; have q2 := (hx.cell (p := ⟨b, 2, none⟩) lb).trans b2; clear hx; go_simp; first | done | rfl
                  refine wpAnyH_tk 20 (some 200) (.agg #[.int .i64 d.kind, .int .i64 d.int, .string ⟨d.text.toArray⟩]) rfl rfl (by kernel_rfl) (fun _ _ _ h => h) (by assumption) (Or.inl ⟨by kernel_rfl, fun z hx => ?_⟩) ?_
                  · have q0 := (hx.cell (p := ⟨b18, 0, none⟩) lk).trans k0; have q1 := (hx.cell (p := ⟨b18, 1, none⟩) lk).trans k1; have q2 := (hx.cell (p := ⟨b18, 2, none⟩) lk).trans k2; clear hx; go_simp; first | done | rfl
                  refine wpAnyH_tk 21 (some 201) (.agg #[.int .i64 c.kind, .int .i64 c.int, .string ⟨c.text.toArray⟩]) rfl rfl (by kernel_rfl) (fun _ _ _ h => h) (by assumption) (Or.inl ⟨by kernel_rfl, fun z hx => ?_⟩) ?_
                  · have q0 := (hx.cell (p := ⟨b, 0, none⟩) lb).trans b0; have q1 := (hx.cell (p := ⟨b, 1, none⟩) lb).trans b1; have q2 := (hx.cell (p := ⟨b, 2, none⟩) lb).trans b2; clear hx; go_simp; first | done | rfl
                  refine wpAnyH_one 19 rfl (by kernel_rfl) (fun K' hK' => ?_)
                  rw [if_pos (by kernel_rfl)]
                  go_simp
                  go_at_call 14
                  refine (hc2 _).mono ?_
                  rintro e w27 ⟨rfl, hb27⟩
                  have hS3 : Below w24.heap.size w24 w27 := hS2.trans (hb27.mono hS2.size)
                  clear hb27
                  go_simp
                  refine hK' _ _ hS3 ?_
                  clear hK'
                  clear hS2
                  refine wpAnyH_one 22 rfl (by kernel_rfl) (fun K' hK' => ?_)
                  rw [if_pos (by kernel_rfl)]
                  go_simp
                  go_at_call 15
                  refine (hf2 _).mono ?_
                  rintro e w28 ⟨rfl, hb28⟩
                  have hS4 : Below w24.heap.size w24 w28 := hS3.trans (hb28.mono hS3.size)
                  clear hb28
                  go_simp
                  refine hK' _ _ hS4 ?_
                  clear hK'
                  clear hS3
                  refine wpAnyH_tk 23 (some 203) (.bool false) rfl rfl (by kernel_rfl) (fun _ _ _ h => h) (by assumption) (Or.inl ⟨by kernel_rfl, fun z hx => ?_⟩) ?_
                  · clear hx; go_simp; first | done | rfl
                  refine wpAnyH_tk 24 (some 204) (.bool false) rfl rfl (by kernel_rfl) (fun _ _ _ h => h) (by assumption) (Or.inl ⟨by kernel_rfl, fun z hx => ?_⟩) ?_
                  · clear hx; go_simp; first | done | rfl
                  refine wpAnyH_done (by kernel_rfl) ?_ _
                  go_simp
                  have HW28 := Lib.hid (HW23.out.trans (hS4.mono HW23.out.size))
                  clear hS4 b0 b1 b2 k0 k1 k2 j0 j1 j2 hc1 hc2 hf1 hf2 hne0 lb lk lj k23 j24
                  go_wp2
                  go_round
                  case rel => exact ⟨i + 1, by go_num, by omega, HW28⟩
                  case measure => simp only [intOf]; omega
                · have hiI : ¬ (i : Int) < (m : Int) := by omega
                  clear him hi3
                  go_wp2
                  go_round
                  case rel => exact ⟨q + 1, _, v, ids, by go_num, rfl, by omega, HG, HS21⟩
                  case measure => simp only [intOf]; omega
            · have hneq : ∀ z, (binOp BinOp.neq 26 (.agg #[.int .i64 d.kind, .int .i64 d.int, .string ⟨d.text.toArray⟩]) (.agg #[.int .i64 c.kind, .int .i64 c.int, .string ⟨c.text.toArray⟩])).run Tryd.prog z = .ok (.bool true) z := fun z => by
                have := neq_cn d c z
                unfold cnV at this
                simpa [hdc] using this
              have HNE2 : Hid (∀ j (hj : j < ids.length), j < p + 1 → ids[j] ≠ c) := Lib.hid fun j hj hjp => by
                by_cases e : j = p
                · subst e; rw [← hd]; exact hdc
                · exact HNE.out j hj (by omega)
              clear own' hpl hd hdc
              go_upto_region 17 with fail
              refine wp_region_H (fun x => Below wr.heap.size wr x) (by kernel_rfl) ?_
              have hS0 : Below wr.heap.size wr wr.drew := (Below.refl _ _).drew
              refine wpAnyH_tk 0 (some 90) (.int .i64 (p : Int)) rfl rfl (by kernel_rfl) (fun _ _ _ h => h) (by assumption) (Or.inl ⟨by kernel_rfl, fun z hx => ?_⟩) ?_
              · clear hx; go_simp; first | done | rfl
              refine wpAnyH_tk 1 (some 91) (.slice (some ⟨gL, 0, none⟩) m co) rfl rfl (by kernel_rfl) (fun _ _ _ h => h) (by assumption) (Or.inl ⟨by kernel_rfl, fun z hx => ?_⟩) ?_
              · clear hx; go_simp; first | done | rfl
              refine wpAnyH_tk 2 (some 92) (.int .i64 (m : Int)) rfl rfl (by kernel_rfl) (fun _ _ _ h => h) (by assumption) (Or.inl ⟨by kernel_rfl, fun z hx => ?_⟩) ?_
              · clear hx; go_simp; first | done | rfl
              refine wpAnyH_tk 3 (some 93) (.bool true) rfl rfl (by kernel_rfl) (fun _ _ _ h => h) (by assumption) (Or.inl ⟨by kernel_rfl, fun z hx => ?_⟩) ?_
              · clear hx; go_simp; first | done | rfl
              refine wpAnyH_tk 4 (some 94) (.bool true) rfl rfl (by kernel_rfl) (fun _ _ _ h => h) (by assumption) (Or.inl ⟨by kernel_rfl, fun z hx => ?_⟩) ?_
              · clear hx; go_simp; first | done | rfl
              refine wpAnyH_tk 5 (some 95) (.slice (some ⟨gL, 0, none⟩) m co) rfl rfl (by kernel_rfl) (fun _ _ _ h => h) (by assumption) (Or.inl ⟨by kernel_rfl, fun z hx => ?_⟩) ?_
              · clear hx; go_simp; first | done | rfl
              refine wpAnyH_tk 6 (some 96) (.int .i64 (p : Int)) rfl rfl (by kernel_rfl) (fun _ _ _ h => h) (by assumption) (Or.inl ⟨by kernel_rfl, fun z hx => ?_⟩) ?_
              · clear hx; go_simp; first | done | rfl
              refine wpAnyH_tk 7 (some 97) (.pointer (some ⟨gL, p * 3, none⟩)) rfl rfl (by kernel_rfl) (fun _ _ _ h => h) (by assumption) (Or.inl ⟨by kernel_rfl, fun z hx => ?_⟩) ?_
              · clear hx; go_simp; first | done | rfl
              refine wpAnyH_tk 8 (some 98) (.agg #[.int .i64 d.kind, .int .i64 d.int, .string ⟨d.text.toArray⟩]) rfl rfl (by kernel_rfl) (fun _ _ _ h => h) (by assumption) (Or.inl ⟨by kernel_rfl, fun z hx => ?_⟩) ?_
              · have q0 := (hx.cell (p := ⟨gL, p * 3, none⟩) lg).trans e0; have q1 := (hx.cell (p := ⟨gL, p * 3 + 1, none⟩) lg).trans e1; have q2 := (hx.cell (p := ⟨gL, p * 3 + 2, none⟩) lg).trans e2; clear hx; go_simp; first | done | rfl
              refine wpAnyH_tk 9 (some 99) (.agg #[.int .i64 c.kind, .int .i64 c.int, .string ⟨c.text.toArray⟩]) rfl rfl (by kernel_rfl) (fun _ _ _ h => h) (by assumption) (Or.inl ⟨by kernel_rfl, fun z hx => ?_⟩) ?_
              · have q0 := (hx.cell (p := ⟨b, 0, none⟩) lb).trans b0; have q1 := (hx.cell (p := ⟨b, 1, none⟩) lb).trans b1; have q2 := (hx.cell (p := ⟨b, 2, none⟩) lb).trans b2; clear hx; go_simp; first | done | rfl
              refine wpAnyH_tk 10 (some 100) (.bool true) rfl rfl (by kernel_rfl) (fun _ _ _ h => h) (by assumption) (Or.inl ⟨by kernel_rfl, fun z hx => ?_⟩) ?_
              · clear hx; go_simp; first | done | rfl
              refine wpAnyH_tk 11 (some 101) (.bool true) rfl rfl (by kernel_rfl) (fun _ _ _ h => h) (by assumption) (Or.inl ⟨by kernel_rfl, fun z hx => ?_⟩) ?_
              · clear hx; go_simp; first | done | rfl
              refine wpAnyH_done (by kernel_rfl) ?_ _
              go_simp
              go_wp2
              go_round
              case rel => exact ⟨p + 1, by go_num, by omega, HNE2, Lib.hid (HW2.out.trans (hS0.mono HW2.out.size))⟩
              case measure => simp only [intOf]; omega
          · have hpe : p = m := by omega
            have hltI : ¬ (p : Int) < (m : Int) := by omega
            have HP := Lib.hid (place_nowhere (ids := ids) (c := c) (fun j hj => HNE.out j hj (by have := HM.out; omega)))
            go_upto_region 17 with fail
            refine wp_region_H (fun x => Below wr.heap.size wr x) (by kernel_rfl) ?_
            have hS0 : Below wr.heap.size wr wr.drew := (Below.refl _ _).drew
            refine wpAnyH_tk 0 (some 90) (.int .i64 (p : Int)) rfl rfl (by kernel_rfl) (fun _ _ _ h => h) (by assumption) (Or.inl ⟨by kernel_rfl, fun z hx => ?_⟩) ?_
            · clear hx; go_simp; first | done | rfl
            refine wpAnyH_tk 1 (some 91) (.slice ao m co) rfl rfl (by kernel_rfl) (fun _ _ _ h => h) (by assumption) (Or.inl ⟨by kernel_rfl, fun z hx => ?_⟩) ?_
            · clear hx; go_simp; first | done | rfl
            refine wpAnyH_tk 2 (some 92) (.int .i64 (m : Int)) rfl rfl (by kernel_rfl) (fun _ _ _ h => h) (by assumption) (Or.inl ⟨by kernel_rfl, fun z hx => ?_⟩) ?_
            · clear hx; go_simp; first | done | rfl
            refine wpAnyH_tk 3 (some 93) (.bool false) rfl rfl (by kernel_rfl) (fun _ _ _ h => h) (by assumption) (Or.inl ⟨by kernel_rfl, fun z hx => ?_⟩) ?_
            · clear hx; go_simp; first | done | rfl
            refine wpAnyH_tk 4 (some 94) (.bool false) rfl rfl (by kernel_rfl) (fun _ _ _ h => h) (by assumption) (Or.inl ⟨by kernel_rfl, fun z hx => ?_⟩) ?_
            · clear hx; go_simp; first | done | rfl
            refine wpAnyH_tk 5 (some 95) undef rfl rfl (by kernel_rfl) (fun _ _ _ h => h) (by assumption) (Or.inr ⟨by kernel_rfl, rfl⟩) ?_
            refine wpAnyH_tk 6 (some 96) undef rfl rfl (by kernel_rfl) (fun _ _ _ h => h) (by assumption) (Or.inr ⟨by kernel_rfl, rfl⟩) ?_
            refine wpAnyH_tk 7 (some 97) undef rfl rfl (by kernel_rfl) (fun _ _ _ h => h) (by assumption) (Or.inr ⟨by kernel_rfl, rfl⟩) ?_
            refine wpAnyH_tk 8 (some 98) undef rfl rfl (by kernel_rfl) (fun _ _ _ h => h) (by assumption) (Or.inr ⟨by kernel_rfl, rfl⟩) ?_
            refine wpAnyH_tk 9 (some 99) undef rfl rfl (by kernel_rfl) (fun _ _ _ h => h) (by assumption) (Or.inr ⟨by kernel_rfl, rfl⟩) ?_
            refine wpAnyH_tk 10 (some 100) undef rfl rfl (by kernel_rfl) (fun _ _ _ h => h) (by assumption) (Or.inr ⟨by kernel_rfl, rfl⟩) ?_
            refine wpAnyH_tk 11 (some 101) (.bool false) rfl rfl (by kernel_rfl) (fun _ _ _ h => h) (by assumption) (Or.inl ⟨by kernel_rfl, fun z hx => ?_⟩) ?_
            · clear hx; go_simp; first | done | rfl
            refine wpAnyH_done (by kernel_rfl) ?_ _
            go_simp
            have HB10 := Lib.hid (HB9.out.up hS0)
            have HS10 := Lib.hid (HS9.out.up hS0)
            clear b0 b1 b2 lb
            clear hS0
            generalize hw10 : wr.drew = w10 at HB10 HS10 ⊢
            clear hw10
            have hpeq : ((p : Int) == (m : Int)) = true := by simp; omega
            have HPE := Lib.hid hpe
            clear hpe hlt
            go_upto_region 20 with fail
            clear hpeq
            obtain ⟨b0, b1, b2, _, _, _⟩ := three_cells HB10.out.at'
            have lb := heap_lt HB10.out.at'
            have hfnd : ∀ x, Below w10.heap.size w10 x → Calls Tryd.prog 9 #[.pointer (some ⟨X, 0, none⟩), .agg #[.int .i64 c.kind, .int .i64 c.int, .string ⟨c.text.toArray⟩]] x fun e w' => e = .returned (.int .i64 (-1)) ∧ Below x.heap.size x w' := fun x hx => by
              have := find_any (HS10.out.up hx).tbl c HC.out
              rw [findI_none HP.out] at this
              exact this
            refine wp_region_H (fun x => Below w10.heap.size w10 x) (by kernel_rfl) ?_
            have hS0 : Below w10.heap.size w10 w10.drew := (Below.refl _ _).drew
            refine wpAnyH_tk 0 (some 108) (.pointer (some ⟨X, 0, none⟩)) rfl rfl (by kernel_rfl) (fun _ _ _ h => h) (by assumption) (Or.inl ⟨by kernel_rfl, fun z hx => ?_⟩) ?_
            · clear hx; go_simp; first | done | rfl
            refine wpAnyH_tk 1 (some 109) (.pointer (some ⟨X, 0, none⟩)) rfl rfl (by kernel_rfl) (fun _ _ _ h => h) (by assumption) (Or.inl ⟨by kernel_rfl, fun z hx => ?_⟩) ?_
            · clear hx; go_simp; first | done | rfl
            refine wpAnyH_tk 2 (some 110) (.pointer (some ⟨X, 0, none⟩)) rfl rfl (by kernel_rfl) (fun _ _ _ h => h) (by assumption) (Or.inl ⟨by kernel_rfl, fun z hx => ?_⟩) ?_
            · clear hx; go_simp; first | done | rfl
            refine wpAnyH_tk 3 (some 111) (.agg #[.int .i64 c.kind, .int .i64 c.int, .string ⟨c.text.toArray⟩]) rfl rfl (by kernel_rfl) (fun _ _ _ h => h) (by assumption) (Or.inl ⟨by kernel_rfl, fun z hx => ?_⟩) ?_
            · have q0 := (hx.cell (p := ⟨b, 0, none⟩) lb).trans b0; have q1 := (hx.cell (p := ⟨b, 1, none⟩) lb).trans b1; have q2 := (hx.cell (p := ⟨b, 2, none⟩) lb).trans b2; clear hx; go_simp; first | done | rfl
            refine wpAnyH_one 4 rfl (by kernel_rfl) (fun K' hK' => ?_)
            rw [if_pos (by kernel_rfl)]
            go_simp
            go_at_call 9
            refine (hfnd _ hS0).mono ?_
            rintro e w12 ⟨rfl, hb12⟩
            have hS2 : Below w10.heap.size w10 w12 := hS0.trans hb12
            clear hb12
            go_simp
            refine hK' _ _ hS2 ?_
            clear hK'
            clear hS0
            refine wpAnyH_tk 5 (some 113) (.bool false) rfl rfl (by kernel_rfl) (fun _ _ _ h => h) (by assumption) (Or.inl ⟨by kernel_rfl, fun z hx => ?_⟩) ?_
            · clear hx; go_simp; first | done | rfl
            refine wpAnyH_done (by kernel_rfl) ?_ _
            go_simp
            have HB12 := Lib.hid (HB10.out.up hS2)
            have HS12 := Lib.hid (HS10.out.up hS2)
            clear hS2 hfnd b0 b1 b2 lb
            obtain ⟨b0, b1, b2, _, _, _⟩ := three_cells HB12.out.at'
            by_cases hfull : m = 65536
            · have hfI : ((m : Int) == 65536) = true := by simp; omega
              have htf := tintern_full HS12.out.tbl c HV.out HC.out HP.out (by have := HM.out; omega)
              unfold cnV at htf
              have HF := Lib.hid hfull
              clear hfull
              go_upto_region 24 with (go_at_call 7; refine htf.mono ?_; rintro e w13 ⟨rfl, hb13⟩)
              have HS13 := Lib.hid (HS12.out.up hb13)
              have hl13 : Calls Tryd.prog 12 #[.pointer (some ⟨X, 0, none⟩)] w13 fun e w' => e = .returned (.int .i64 65536) ∧ w' = w13 := by
                have := len_any HS13.out.tbl
                rw [← HM.out, HF.out] at this
                simpa using this
              clear b0 b1 b2 hb13 htf
              go_wp2_with (go_at_call 12; refine hl13.mono ?_; rintro e w14 ⟨rfl, hw14⟩; rw [hw14]; clear hw14)
              go_round
              case rel => exact ⟨q + 1, _, v, ids, by go_num, rfl, by omega, HG, HS13⟩
              case measure => simp only [intOf]; omega
            · have hfI : ((m : Int) == 65536) = false := by simp; omega
              have hm2 : ids.length < 65536 := by have := HM.out; omega
              have HM2 := Lib.hid hm2
              clear hfull hm2
              go_upto_region 26 with fail
              go_wp2_with (at_builtin; refine wpList_append_own_at _ rfl _ _ 22 rfl w.heap.size 26 i0 (.agg #[.int .i64 0, .int .i64 0, .string nilB]) 3 32 Tryd.underlying22 hi hz0 hz1 hz2 rfl (by decide) (.slice ao m co) ids.length (flatC ids) rfl (HS12.out.own.alloc _) ⟨w12.heap.size, 0, none⟩ 1 1 (cnL c) rfl rfl (news3 w12 _ _ _ _) (cnL_one c) (by have := HM2.out; unfold maxLen; omega) (by have := HM2.out; omega) (by have := HS12.out.bel.size; simp; omega) ?_)
              intro o2 w13 hown hgrow _ hato
              obtain ⟨ao2, co2, ho2⟩ := own_form hown
              have HS13 := Lib.hid ((HS12.out.alloc (.cells #[.int .i64 c.kind, .int .i64 c.int, .string ⟨c.text.toArray⟩] 26)).push (l := ids ++ [c]) hgrow (by rw [List.length_append, flatC_snoc]; exact hown) (by simpa using hato))
              have HB13 := Lib.hid ((HB12.out.alloc (.cells #[.int .i64 c.kind, .int .i64 c.int, .string ⟨c.text.toArray⟩] 26)).push hgrow (by simpa using hato))
              obtain ⟨mN, hmN⟩ : ∃ mN, mN = ids.length + 1 := ⟨_, rfl⟩
              rw [← hmN] at ho2
              have HMN : Hid (mN = (ids ++ [c]).length) := Lib.hid (by rw [hmN]; simp)
              subst ho2
              have HGN := Lib.hid (HG.out.snoc HP.out HV.out HC.out HM2.out)
              have HPN : Hid (place (ids ++ [c]) c = some m) := Lib.hid (by rw [place_snoc c HP.out, if_pos rfl, HM.out])
              clear hown hgrow hato hmN b0 b1 b2
              obtain ⟨b0, b1, b2, _, _, _⟩ := three_cells HB13.out.at'
              have htn := tintern_new HS13.out.tbl c HV.out HC.out HP.out HM2.out HS13.out.bel.size
              rw [← HM.out] at htn
              unfold cnV at htn
              go_upto_region 28 with (go_at_call 7; refine htn.mono ?_; rintro e w14 ⟨v2, rfl, ht14, hch14, hat14⟩)
              have HS14 := Lib.hid (HS13.out.intern hch14 ht14 hat14)
              have HB14 := Lib.hid (HB13.out.intern hch14 hat14)
              clear ht14 hch14 hat14 htn b0 b1 b2
              obtain ⟨b0, b1, b2, _, _, _⟩ := three_cells HB14.out.at'
              have lb := heap_lt HB14.out.at'
              have hfnd : ∀ x, Below w14.heap.size w14 x → Calls Tryd.prog 9 #[.pointer (some ⟨X, 0, none⟩), .agg #[.int .i64 c.kind, .int .i64 c.int, .string ⟨c.text.toArray⟩]] x fun e w' => e = .returned (.int .i64 (m : Int)) ∧ Below x.heap.size x w' := fun x hx => by
                have := find_any (HS14.out.up hx).tbl c HC.out
                rw [findI_some HPN.out] at this
                exact this
              have hlen : ∀ x, Below w14.heap.size w14 x → Calls Tryd.prog 12 #[.pointer (some ⟨X, 0, none⟩)] x fun e w' => e = .returned (.int .i64 (mN : Int)) ∧ w' = x := fun x hx => by
                have := len_any (HS14.out.up hx).tbl
                rw [← HMN.out] at this
                exact this
              refine wp_region_H (fun x => Below w14.heap.size w14 x) (by kernel_rfl) ?_
              have hS0 : Below w14.heap.size w14 w14.drew := (Below.refl _ _).drew
              refine wpAnyH_tk 0 (some 142) (.int .i64 (m : Int)) rfl rfl (by kernel_rfl) (fun _ _ _ h => h) (by assumption) (Or.inl ⟨by kernel_rfl, fun z hx => ?_⟩) ?_
              · clear hx; go_simp; first | done | rfl
              refine wpAnyH_tk 1 (some 143) (.int .i64 (m : Int)) rfl rfl (by kernel_rfl) (fun _ _ _ h => h) (by assumption) (Or.inl ⟨by kernel_rfl, fun z hx => ?_⟩) ?_
              · clear hx; go_simp; first | done | rfl
              refine wpAnyH_tk 2 (some 144) (.bool false) rfl rfl (by kernel_rfl) (fun _ _ _ h => h) (by assumption) (Or.inl ⟨by kernel_rfl, fun z hx => ?_⟩) ?_
              · clear hx; go_simp; first | done | rfl
              refine wpAnyH_tk 3 (some 145) (.bool false) rfl rfl (by kernel_rfl) (fun _ _ _ h => h) (by assumption) (Or.inl ⟨by kernel_rfl, fun z hx => ?_⟩) ?_
              · clear hx; go_simp; first | done | rfl
              refine wpAnyH_tk 4 (some 146) (.int .i64 0) rfl rfl (by kernel_rfl) (fun _ _ _ h => h) (by assumption) (Or.inl ⟨by kernel_rfl, fun z hx => ?_⟩) ?_
              · clear hx; go_simp; first | done | rfl
              refine wpAnyH_tk 5 (some 147) (.bool false) rfl rfl (by kernel_rfl) (fun _ _ _ h => h) (by assumption) (Or.inl ⟨by kernel_rfl, fun z hx => ?_⟩) ?_
              · clear hx; go_simp; first | done | rfl
              refine wpAnyH_tk 6 (some 148) (.bool false) rfl rfl (by kernel_rfl) (fun _ _ _ h => h) (by assumption) (Or.inl ⟨by kernel_rfl, fun z hx => ?_⟩) ?_
              · clear hx; go_simp; first | done | rfl
              refine wpAnyH_tk 7 (some 149) (.bool false) rfl rfl (by kernel_rfl) (fun _ _ _ h => h) (by assumption) (Or.inl ⟨by kernel_rfl, fun z hx => ?_⟩) ?_
              · clear hx; go_simp; first | done | rfl
              refine wpAnyH_tk 8 (some 150) (.pointer (some ⟨X, 0, none⟩)) rfl rfl (by kernel_rfl) (fun _ _ _ h => h) (by assumption) (Or.inl ⟨by kernel_rfl, fun z hx => ?_⟩) ?_
              · clear hx; go_simp; first | done | rfl
              refine wpAnyH_tk 9 (some 151) (.pointer (some ⟨X, 0, none⟩)) rfl rfl (by kernel_rfl) (fun _ _ _ h => h) (by assumption) (Or.inl ⟨by kernel_rfl, fun z hx => ?_⟩) ?_
              · clear hx; go_simp; first | done | rfl
              refine wpAnyH_tk 10 (some 152) (.pointer (some ⟨X, 0, none⟩)) rfl rfl (by kernel_rfl) (fun _ _ _ h => h) (by assumption) (Or.inl ⟨by kernel_rfl, fun z hx => ?_⟩) ?_
              · clear hx; go_simp; first | done | rfl
              refine wpAnyH_tk 11 (some 153) (.agg #[.int .i64 c.kind, .int .i64 c.int, .string ⟨c.text.toArray⟩]) rfl rfl (by kernel_rfl) (fun _ _ _ h => h) (by assumption) (Or.inl ⟨by kernel_rfl, fun z hx => ?_⟩) ?_
              · have q0 := (hx.cell (p := ⟨b, 0, none⟩) lb).trans b0; have q1 := (hx.cell (p := ⟨b, 1, none⟩) lb).trans b1; have q2 := (hx.cell (p := ⟨b, 2, none⟩) lb).trans b2; clear hx; go_simp; first | done | rfl
              refine wpAnyH_tk 13 (some 155) (.int .i64 (m : Int)) rfl rfl (by kernel_rfl) (fun _ _ _ h => h) (by assumption) (Or.inl ⟨by kernel_rfl, fun z hx => ?_⟩) ?_
              · clear hx; go_simp; first | done | rfl
              refine wpAnyH_one 12 rfl (by kernel_rfl) (fun K' hK' => ?_)
              rw [if_pos (by kernel_rfl)]
              go_simp
              go_at_call 9
              refine (hfnd _ hS0).mono ?_
              rintro e w16 ⟨rfl, hb16⟩
              have hS6 : Below w14.heap.size w14 w16 := hS0.trans hb16
              clear hb16
              go_simp
              refine hK' _ _ hS6 ?_
              clear hK'
              clear hS0
              refine wpAnyH_tk 14 (some 156) (.bool false) rfl rfl (by kernel_rfl) (fun _ _ _ h => h) (by assumption) (Or.inl ⟨by kernel_rfl, fun z hx => ?_⟩) ?_
              · clear hx; go_simp; first | done | rfl
              refine wpAnyH_tk 15 (some 157) (.bool false) rfl rfl (by kernel_rfl) (fun _ _ _ h => h) (by assumption) (Or.inl ⟨by kernel_rfl, fun z hx => ?_⟩) ?_
              · clear hx; go_simp; first | done | rfl
              refine wpAnyH_tk 16 (some 158) (.bool false) rfl rfl (by kernel_rfl) (fun _ _ _ h => h) (by assumption) (Or.inl ⟨by kernel_rfl, fun z hx => ?_⟩) ?_
              · clear hx; go_simp; first | done | rfl
              refine wpAnyH_tk 17 (some 159) (.pointer (some ⟨X, 0, none⟩)) rfl rfl (by kernel_rfl) (fun _ _ _ h => h) (by assumption) (Or.inl ⟨by kernel_rfl, fun z hx => ?_⟩) ?_
              · clear hx; go_simp; first | done | rfl
              refine wpAnyH_tk 18 (some 160) (.pointer (some ⟨X, 0, none⟩)) rfl rfl (by kernel_rfl) (fun _ _ _ h => h) (by assumption) (Or.inl ⟨by kernel_rfl, fun z hx => ?_⟩) ?_
              · clear hx; go_simp; first | done | rfl
              refine wpAnyH_tk 19 (some 161) (.pointer (some ⟨X, 0, none⟩)) rfl rfl (by kernel_rfl) (fun _ _ _ h => h) (by assumption) (Or.inl ⟨by kernel_rfl, fun z hx => ?_⟩) ?_
              · clear hx; go_simp; first | done | rfl
              refine wpAnyH_tk 21 (some 163) (.slice ao2 mN co2) rfl rfl (by kernel_rfl) (fun _ _ _ h => h) (by assumption) (Or.inl ⟨by kernel_rfl, fun z hx => ?_⟩) ?_
              · clear hx; go_simp; first | done | rfl
              refine wpAnyH_tk 22 (some 164) (.int .i64 (mN : Int)) rfl rfl (by kernel_rfl) (fun _ _ _ h => h) (by assumption) (Or.inl ⟨by kernel_rfl, fun z hx => ?_⟩) ?_
              · clear hx; go_simp; first | done | rfl
              refine wpAnyH_one 20 rfl (by kernel_rfl) (fun K' hK' => ?_)
              rw [if_pos (by kernel_rfl)]
              go_simp
              go_at_call 12
              refine (hlen _ hS6).mono ?_
              rintro e w17 ⟨rfl, hw17⟩
              rw [hw17]
              clear hw17
              go_simp
              refine hK' _ _ hS6 ?_
              clear hK'
              refine wpAnyH_tk 23 (some 165) (.bool false) rfl rfl (by kernel_rfl) (fun _ _ _ h => h) (by assumption) (Or.inl ⟨by kernel_rfl, fun z hx => ?_⟩) ?_
              · clear hx; go_simp; first | done | rfl
              refine wpAnyH_tk 24 (some 166) (.bool false) rfl rfl (by kernel_rfl) (fun _ _ _ h => h) (by assumption) (Or.inl ⟨by kernel_rfl, fun z hx => ?_⟩) ?_
              · clear hx; go_simp; first | done | rfl
              refine wpAnyH_done (by kernel_rfl) ?_ _
              go_simp
              have HB20 := Lib.hid (HB14.out.up hS6)
              have HS20 := Lib.hid (HS14.out.up hS6)
              clear hS6 hfnd hlen b0 b1 b2 lb
              go_upto_region 31 with fail
              go_loopw [169] (fun k wr3 => ∃ i : Nat, k = .int .i64 (i : Int) ∧ i ≤ mN ∧ Hid (Below w16.heap.size w16 wr3)) (fun k _ => mN - (intOf k).toNat)
              case atStart => exact ⟨0, rfl, by omega, Lib.hid (Below.refl _ _)⟩
              case round =>
                obtain ⟨i, rfl, hi3, HW3⟩ := hrel
                have HB21 := Lib.hid (HB20.out.up HW3.out)
                have HS21 := Lib.hid (HS20.out.up HW3.out)
                by_cases him : i < mN
                · have hiI : (i : Int) < (mN : Int) := by omega
                  have hiI0 : (0 : Int) ≤ (i : Int) := by omega
                  have hwi : IntKind.i64.wrap ((i : Int) + 1) = (i : Int) + 1 := by have := HMN.out; have := HGN.out.len; rw [IntKind.wrap_i64]; omega
                  obtain ⟨gN, cN', hg⟩ := Joins.ownsRow_form HS21.out.own (by have := HMN.out; omega)
                  injection hg with hg hg2 hg3
                  clear hg2 hg3
                  try subst hg
                  have hil : i < ((ids ++ [c])).length := by have := HMN.out; omega
                  obtain ⟨d, hd⟩ : ∃ d, d = ((ids ++ [c]))[i] := ⟨_, rfl⟩
                  have own' := HS21.out.own
                  obtain ⟨e0, e1, e2⟩ := cn_cells own' hil
                  rw [← hd] at e0 e1 e2
                  have hcon := fun (x : World) hx => const_any (w := x) ((HS21.out.up hx).tbl) i hil
                  rw [← hd] at hcon
                  have HVD : Hid (valid d = true) := Lib.hid (by rw [hd]; exact (HGN.out.ok _ (List.getElem_mem _)).1)
                  clear hd own' hil
                  try clear hg
                  go_upto_region 33 with fail
                  have HB22 := Lib.hid (HB21.out.alloc (.cells #[.int .i64 d.kind, .int .i64 d.int, .string ⟨d.text.toArray⟩] 26))
                  have HW22 : Hid (Below w16.heap.size w16 (wr.alloc (.cells #[.int .i64 d.kind, .int .i64 d.int, .string ⟨d.text.toArray⟩] 26))) := Lib.hid (HW3.out.alloc HW3.out.size _)
                  have hc22 := hcon _ (up_alloc wr (.cells #[.int .i64 d.kind, .int .i64 d.int, .string ⟨d.text.toArray⟩] 26))
                  obtain ⟨w22, hw22⟩ : ∃ w22, w22 = wr.alloc (.cells #[.int .i64 d.kind, .int .i64 d.int, .string ⟨d.text.toArray⟩] 26) := ⟨_, rfl⟩
                  have k22 : w22.heap[wr.heap.size]? = some (.cells #[.int .i64 d.kind, .int .i64 d.int, .string ⟨d.text.toArray⟩] 26) := by rw [hw22]; exact heap_alloc_new _ _
                  rw [← hw22] at HB22 HW22 hc22 ⊢
                  clear hw22 hcon e0 e1 e2
                  obtain ⟨b18, hb18⟩ : ∃ b18, b18 = wr.heap.size := ⟨_, rfl⟩
                  rw [← hb18] at k22 ⊢
                  clear hb18
                  unfold cnV at hc22
                  go_upto_region 34 with (go_at_call 13; refine hc22.mono ?_; rintro e w23 ⟨rfl, hb23⟩)
                  have HB23 := Lib.hid ((HB22.out.up hb23).alloc (.cells #[.int .i64 d.kind, .int .i64 d.int, .string ⟨d.text.toArray⟩] 26))
                  have HW23 : Hid (Below w16.heap.size w16 (w23.alloc (.cells #[.int .i64 d.kind, .int .i64 d.int, .string ⟨d.text.toArray⟩] 26))) := Lib.hid ((HW22.out.trans (hb23.mono HW22.out.size)).alloc (by have := HW22.out.size; have := hb23.size; omega) _)
                  have k23 : (w23.alloc (.cells #[.int .i64 d.kind, .int .i64 d.int, .string ⟨d.text.toArray⟩] 26)).heap[b18]? = some (.cells #[.int .i64 d.kind, .int .i64 d.int, .string ⟨d.text.toArray⟩] 26) := (Lib.alloc_old _ _ _ (Nat.lt_of_lt_of_le (heap_lt k22) hb23.size)).trans ((hb23.block b18 (heap_lt k22)).trans k22)
                  obtain ⟨w24, hw24⟩ : ∃ w24, w24 = w23.alloc (.cells #[.int .i64 d.kind, .int .i64 d.int, .string ⟨d.text.toArray⟩] 26) := ⟨_, rfl⟩
                  have j24 : w24.heap[w23.heap.size]? = some (.cells #[.int .i64 d.kind, .int .i64 d.int, .string ⟨d.text.toArray⟩] 26) := by rw [hw24]; exact heap_alloc_new _ _
                  rw [← hw24] at HB23 HW23 k23 ⊢
                  clear hw24 hc22 hb23 k22
                  obtain ⟨b19, hb19⟩ : ∃ b19, b19 = w23.heap.size := ⟨_, rfl⟩
                  rw [← hb19] at j24 ⊢
                  clear hb19
                  obtain ⟨b0, b1, b2, _, _, _⟩ := three_cells HB23.out.at'
                  obtain ⟨k0, k1, k2, _, _, _⟩ := three_cells k23
                  obtain ⟨j0, j1, j2, _, _, _⟩ := three_cells j24
                  have lb := heap_lt HB23.out.at'
                  have lk := heap_lt k23
                  have lj := heap_lt j24
                  have hc1 := fun x => compare_any c d x
                  have hc2 := fun x => compare_any d c x
                  have hf1 := fun x => before_any c d x
                  have hf2 := fun x => before_any d c x
                  rw [← cmpC_eq HV.out HVD.out] at hf1
                  rw [← cmpC_eq HVD.out HV.out] at hf2
                  unfold cnV at hc1 hc2 hf1 hf2
                  obtain ⟨K1, hK1⟩ : ∃ K1, K1 = cmpC c d := ⟨_, rfl⟩
                  obtain ⟨K2, hK2⟩ : ∃ K2, K2 = cmpC d c := ⟨_, rfl⟩
                  rw [← hK1] at hc1 hf1
                  rw [← hK2] at hc2 hf2
                  clear hK1 hK2
                  have hne0 : ∀ z, (binOp BinOp.neq 26 (.agg #[.int .i64 d.kind, .int .i64 d.int, .string ⟨d.text.toArray⟩]) (.agg #[.int .i64 d.kind, .int .i64 d.int, .string ⟨d.text.toArray⟩])).run Tryd.prog z = .ok (.bool false) z := fun z => by
                    have := neq_cn d d z
                    unfold cnV at this
                    simpa using this
                  refine wp_region_H (fun x => Below w24.heap.size w24 x) (by kernel_rfl) ?_
                  have hS0 : Below w24.heap.size w24 w24.drew := (Below.refl _ _).drew
                  refine wpAnyH_tk 0 (some 180) (.agg #[.int .i64 d.kind, .int .i64 d.int, .string ⟨d.text.toArray⟩]) rfl rfl (by kernel_rfl) (fun _ _ _ h => h) (by assumption) (Or.inl ⟨by kernel_rfl, fun z hx => ?_⟩) ?_
                  · have q0 := (hx.cell (p := ⟨b19, 0, none⟩) lj).trans j0; have q1 := (hx.cell (p := ⟨b19, 1, none⟩) lj).trans j1; have q2 := (hx.cell (p := ⟨b19, 2, none⟩) lj).trans j2; clear hx; go_simp; first | done | rfl
                  refine wpAnyH_tk 1 (some 181) (.agg #[.int .i64 d.kind, .int .i64 d.int, .string ⟨d.text.toArray⟩]) rfl rfl (by kernel_rfl) (fun _ _ _ h => h) (by assumption) (Or.inl ⟨by kernel_rfl, fun z hx => ?_⟩) ?_
                  · have q0 := (hx.cell (p := ⟨b18, 0, none⟩) lk).trans k0; have q1 := (hx.cell (p := ⟨b18, 1, none⟩) lk).trans k1; have q2 := (hx.cell (p := ⟨b18, 2, none⟩) lk).trans k2; clear hx; go_simp; first | done | rfl
                  refine wpAnyH_tk 2 (some 182) (.bool false) rfl rfl (by kernel_rfl) (fun _ _ _ h => h) (by assumption) (Or.inl ⟨by kernel_rfl, fun z hx => ?_⟩) ?_
                  · clear hx; go_simp; first | done | rfl
                  refine wpAnyH_tk 3 (some 183) (.bool false) rfl rfl (by kernel_rfl) (fun _ _ _ h => h) (by assumption) (Or.inl ⟨by kernel_rfl, fun z hx => ?_⟩) ?_
                  · clear hx; go_simp; first | done | rfl
                  refine wpAnyH_tk 4 (some 184) (.int .i64 0) rfl rfl (by kernel_rfl) (fun _ _ _ h => h) (by assumption) (Or.inl ⟨by kernel_rfl, fun z hx => ?_⟩) ?_
                  · clear hx; go_simp; first | done | rfl
                  refine wpAnyH_tk 5 (some 185) (.bool false) rfl rfl (by kernel_rfl) (fun _ _ _ h => h) (by assumption) (Or.inl ⟨by kernel_rfl, fun z hx => ?_⟩) ?_
                  · clear hx; go_simp; first | done | rfl
                  refine wpAnyH_tk 6 (some 186) (.bool false) rfl rfl (by kernel_rfl) (fun _ _ _ h => h) (by assumption) (Or.inl ⟨by kernel_rfl, fun z hx => ?_⟩) ?_
                  · clear hx; go_simp; first | done | rfl
                  refine wpAnyH_tk 7 (some 187) (.bool false) rfl rfl (by kernel_rfl) (fun _ _ _ h => h) (by assumption) (Or.inl ⟨by kernel_rfl, fun z hx => ?_⟩) ?_
                  · clear hx; go_simp; first | done | rfl
                  refine wpAnyH_tk 8 (some 188) (.agg #[.int .i64 c.kind, .int .i64 c.int, .string ⟨c.text.toArray⟩]) rfl rfl (by kernel_rfl) (fun _ _ _ h => h) (by assumption) (Or.inl ⟨by kernel_rfl, fun z hx => ?_⟩) ?_
                  · have q0 := (hx.cell (p := ⟨b, 0, none⟩) lb).trans b0; have q1 := (hx.cell (p := ⟨b, 1, none⟩) lb).trans b1; have q2 := (hx.cell (p := ⟨b, 2, none⟩) lb).trans b2; clear hx; go_simp; first | done | rfl
                  refine wpAnyH_tk 9 (some 189) (.agg #[.int .i64 d.kind, .int .i64 d.int, .string ⟨d.text.toArray⟩]) rfl rfl (by kernel_rfl) (fun _ _ _ h => h) (by assumption) (Or.inl ⟨by kernel_rfl, fun z hx => ?_⟩) ?_
                  · have q0 := (hx.cell (p := ⟨b18, 0, none⟩) lk).trans k0; have q1 := (hx.cell (p := ⟨b18, 1, none⟩) lk).trans k1; have q2 := (hx.cell (p := ⟨b18, 2, none⟩) lk).trans k2; clear hx; go_simp; first | done | rfl
                  refine wpAnyH_tk 11 (some 191) (.agg #[.int .i64 c.kind, .int .i64 c.int, .string ⟨c.text.toArray⟩]) rfl rfl (by kernel_rfl) (fun _ _ _ h => h) (by assumption) (Or.inl ⟨by kernel_rfl, fun z hx => ?_⟩) ?_
                  · have q0 := (hx.cell (p := ⟨b, 0, none⟩) lb).trans b0; have q1 := (hx.cell (p := ⟨b, 1, none⟩) lb).trans b1; have q2 := (hx.cell (p := ⟨b, 2, none⟩) lb).trans b2; clear hx; go_simp; first | done | rfl
                  refine wpAnyH_tk 12 (some 192) (.agg #[.int .i64 d.kind, .int .i64 d.int, .string ⟨d.text.toArray⟩]) rfl rfl (by kernel_rfl) (fun _ _ _ h => h) (by assumption) (Or.inl ⟨by kernel_rfl, fun z hx => ?_⟩) ?_
                  · have q0 := (hx.cell (p := ⟨b18, 0, none⟩) lk).trans k0; have q1 := (hx.cell (p := ⟨b18, 1, none⟩) lk).trans k1; have q2 := (hx.cell (p := ⟨b18, 2, none⟩) lk).trans k2; clear hx; go_simp; first | done | rfl
                  refine wpAnyH_one 10 rfl (by kernel_rfl) (fun K' hK' => ?_)
                  rw [if_pos (by kernel_rfl)]
                  go_simp
                  go_at_call 14
                  refine (hc1 _).mono ?_
                  rintro e w25 ⟨rfl, hb25⟩
                  have hS1 : Below w24.heap.size w24 w25 := hS0.trans hb25
                  clear hb25
                  go_simp
                  refine hK' _ _ hS1 ?_
                  clear hK'
                  clear hS0
                  refine wpAnyH_one 13 rfl (by kernel_rfl) (fun K' hK' => ?_)
                  rw [if_pos (by kernel_rfl)]
                  go_simp
                  go_at_call 15
                  refine (hf1 _).mono ?_
                  rintro e w26 ⟨rfl, hb26⟩
                  have hS2 : Below w24.heap.size w24 w26 := hS1.trans (hb26.mono hS1.size)
                  clear hb26
                  go_simp
                  refine hK' _ _ hS2 ?_
                  clear hK'
                  clear hS1
                  refine wpAnyH_tk 14 (some 194) (.bool false) rfl rfl (by kernel_rfl) (fun _ _ _ h => h) (by assumption) (Or.inl ⟨by kernel_rfl, fun z hx => ?_⟩) ?_
                  · clear hx; go_simp; first | done | rfl
                  refine wpAnyH_tk 15 (some 195) (.bool false) rfl rfl (by kernel_rfl) (fun _ _ _ h => h) (by assumption) (Or.inl ⟨by kernel_rfl, fun z hx => ?_⟩) ?_
                  · clear hx; go_simp; first | done | rfl
                  refine wpAnyH_tk 16 (some 196) (.bool false) rfl rfl (by kernel_rfl) (fun _ _ _ h => h) (by assumption) (Or.inl ⟨by kernel_rfl, fun z hx => ?_⟩) ?_
                  · clear hx; go_simp; first | done | rfl
                  refine wpAnyH_tk 17 (some 197) (.agg #[.int .i64 d.kind, .int .i64 d.int, .string ⟨d.text.toArray⟩]) rfl rfl (by kernel_rfl) (fun _ _ _ h => h) (by assumption) (Or.inl ⟨by kernel_rfl, fun z hx => ?_⟩) ?_
                  · have q0 := (hx.cell (p := ⟨b18, 0, none⟩) lk).trans k0; have q1 := (hx.cell (p := ⟨b18, 1, none⟩) lk).trans k1; have q2 := (hx.cell (p := ⟨b18, 2, none⟩) lk).trans k2; clear hx; go_simp; first | done | rfl
                  refine wpAnyH_tk 18 (some 198) (.agg #[.int .i64 c.kind, .int .i64 c.int, .string ⟨c.text.toArray⟩]) rfl rfl (by kernel_rfl) (fun _ _ _ h => h) (by assumption) (Or.inl ⟨by kernel_rfl, fun z hx => ?_⟩) ?_
                  · have q0 := (hx.cell (p := ⟨b, 0, none⟩) lb).trans b0; have q1 := (hx.cell (p := ⟨b, 1, none⟩) lb).trans b1; have q2 := (hx.cell (p := ⟨b, 2, none⟩) lb).trans b2; clear hx; go_simp; first | done | rfl
                  refine wpAnyH_tk 20 (some 200) (.agg #[.int .i64 d.kind, .int .i64 d.int, .string ⟨d.text.toArray⟩]) rfl rfl (by kernel_rfl) (fun _ _ _ h => h) (by assumption) (Or.inl ⟨by kernel_rfl, fun z hx => ?_⟩) ?_
                  · have q0 := (hx.cell (p := ⟨b18, 0, none⟩) lk).trans k0; have q1 := (hx.cell (p := ⟨b18, 1, none⟩) lk).trans k1; have q2 := (hx.cell (p := ⟨b18, 2, none⟩) lk).trans k2; clear hx; go_simp; first | done | rfl
                  refine wpAnyH_tk 21 (some 201) (.agg #[.int .i64 c.kind, .int .i64 c.int, .string ⟨c.text.toArray⟩]) rfl rfl (by kernel_rfl) (fun _ _ _ h => h) (by assumption) (Or.inl ⟨by kernel_rfl, fun z hx => ?_⟩) ?_
                  · have q0 := (hx.cell (p := ⟨b, 0, none⟩) lb).trans b0; have q1 := (hx.cell (p := ⟨b, 1, none⟩) lb).trans b1; have q2 := (hx.cell (p := ⟨b, 2, none⟩) lb).trans b2; clear hx; go_simp; first | done | rfl
                  refine wpAnyH_one 19 rfl (by kernel_rfl) (fun K' hK' => ?_)
                  rw [if_pos (by kernel_rfl)]
                  go_simp
                  go_at_call 14
                  refine (hc2 _).mono ?_
                  rintro e w27 ⟨rfl, hb27⟩
                  have hS3 : Below w24.heap.size w24 w27 := hS2.trans (hb27.mono hS2.size)
                  clear hb27
                  go_simp
                  refine hK' _ _ hS3 ?_
                  clear hK'
                  clear hS2
                  refine wpAnyH_one 22 rfl (by kernel_rfl) (fun K' hK' => ?_)
                  rw [if_pos (by kernel_rfl)]
                  go_simp
                  go_at_call 15
                  refine (hf2 _).mono ?_
                  rintro e w28 ⟨rfl, hb28⟩
                  have hS4 : Below w24.heap.size w24 w28 := hS3.trans (hb28.mono hS3.size)
                  clear hb28
                  go_simp
                  refine hK' _ _ hS4 ?_
                  clear hK'
                  clear hS3
                  refine wpAnyH_tk 23 (some 203) (.bool false) rfl rfl (by kernel_rfl) (fun _ _ _ h => h) (by assumption) (Or.inl ⟨by kernel_rfl, fun z hx => ?_⟩) ?_
                  · clear hx; go_simp; first | done | rfl
                  refine wpAnyH_tk 24 (some 204) (.bool false) rfl rfl (by kernel_rfl) (fun _ _ _ h => h) (by assumption) (Or.inl ⟨by kernel_rfl, fun z hx => ?_⟩) ?_
                  · clear hx; go_simp; first | done | rfl
                  refine wpAnyH_done (by kernel_rfl) ?_ _
                  go_simp
                  have HW28 := Lib.hid (HW23.out.trans (hS4.mono HW23.out.size))
                  clear hS4 b0 b1 b2 k0 k1 k2 j0 j1 j2 hc1 hc2 hf1 hf2 hne0 lb lk lj k23 j24
                  go_wp2
                  go_round
                  case rel => exact ⟨i + 1, by go_num, by omega, HW28⟩
                  case measure => simp only [intOf]; omega
                · have hiI : ¬ (i : Int) < (mN : Int) := by omega
                  clear him hi3
                  go_wp2
                  go_round
                  case rel => exact ⟨q + 1, _, v2, (ids ++ [c]), by go_num, rfl, by omega, HGN, HS21⟩
                  case measure => simp only [intOf]; omega
      · have hv' : valid c = false := by simpa using hv
        rw [hv'] at hfit
        have HV := Lib.hid hv'
        have htx : textC c = [] := textC_0 hv'
        rw [htx]
        have HP := Lib.hid (HG.out.bad hv')
        clear hv hv' htx
        go_upto_region 10 with (go_at_call 6; refine hfit.mono ?_; rintro e w4 ⟨rfl, hb4⟩)
        have HB4 := Lib.hid (HB3.out.up hb4)
        have HS4 := Lib.hid (HS3.out.up hb4)
        clear hb4 hfit b0 b1 b2
        have htb := tintern_bad HS4.out.tbl c HV.out
        unfold cnV at htb
        obtain ⟨b0, b1, b2, _, _, _⟩ := three_cells HB4.out.at'
        go_upto_region 11 with (go_at_call 7; refine htb.mono ?_; rintro e w5 ⟨rfl, hb5⟩)
        have HB5 := Lib.hid (HB4.out.up hb5)
        have HS5 := Lib.hid (HS4.out.up hb5)
        clear hb5 htb b0 b1 b2
        obtain ⟨b0, b1, b2, _, _, _⟩ := three_cells HB5.out.at'
        have lb := heap_lt HB5.out.at'
        have hval := fun x => valid_any c x
        rw [HV.out] at hval
        unfold cnV at hval
        have hfnd : ∀ x, Below w5.heap.size w5 x → Calls Tryd.prog 9 #[.pointer (some ⟨X, 0, none⟩), .agg #[.int .i64 c.kind, .int .i64 c.int, .string ⟨c.text.toArray⟩]] x fun e w' => e = .returned (.int .i64 (-1)) ∧ Below x.heap.size x w' := fun x hx => by
          have := find_any (HS5.out.up hx).tbl c HC.out
          rw [findI_none HP.out] at this
          exact this
        refine wp_region_H (fun x => Below w5.heap.size w5 x) (by kernel_rfl) ?_
        have hS0 : Below w5.heap.size w5 w5.drew := (Below.refl _ _).drew
        refine wpAnyH_tk 0 (some 41) (.agg #[.int .i64 c.kind, .int .i64 c.int, .string ⟨c.text.toArray⟩]) rfl rfl (by kernel_rfl) (fun _ _ _ h => h) (by assumption) (Or.inl ⟨by kernel_rfl, fun z hx => ?_⟩) ?_
        · have q0 := (hx.cell (p := ⟨b, 0, none⟩) lb).trans b0; have q1 := (hx.cell (p := ⟨b, 1, none⟩) lb).trans b1; have q2 := (hx.cell (p := ⟨b, 2, none⟩) lb).trans b2; clear hx; go_simp; first | done | rfl
        refine wpAnyH_one 1 rfl (by kernel_rfl) (fun K' hK' => ?_)
        rw [if_pos (by kernel_rfl)]
        go_simp
        go_at_call 8
        refine (hval _).mono ?_
        rintro e w6 ⟨rfl, hb6⟩
        have hS6 : Below w5.heap.size w5 w6 := hS0.trans hb6
        clear hb6
        go_simp
        refine hK' _ _ hS6 ?_
        clear hK'
        clear hS0
        refine wpAnyH_tk 2 (some 43) (.bool false) rfl rfl (by kernel_rfl) (fun _ _ _ h => h) (by assumption) (Or.inl ⟨by kernel_rfl, fun z hx => ?_⟩) ?_
        · clear hx; go_simp; first | done | rfl
        refine wpAnyH_tk 3 (some 44) (.string ⟨#[]⟩) rfl rfl (by kernel_rfl) (fun _ _ _ h => h) (by assumption) (Or.inl ⟨by kernel_rfl, fun z hx => ?_⟩) ?_
        · clear hx; go_simp; first | done | rfl
        refine wpAnyH_tk 4 (some 45) (.bool false) rfl rfl (by kernel_rfl) (fun _ _ _ h => h) (by assumption) (Or.inl ⟨by kernel_rfl, fun z hx => ?_⟩) ?_
        · clear hx; go_simp; first | done | rfl
        refine wpAnyH_tk 5 (some 46) (.bool false) rfl rfl (by kernel_rfl) (fun _ _ _ h => h) (by assumption) (Or.inl ⟨by kernel_rfl, fun z hx => ?_⟩) ?_
        · clear hx; go_simp; first | done | rfl
        refine wpAnyH_tk 6 (some 47) (.bool false) rfl rfl (by kernel_rfl) (fun _ _ _ h => h) (by assumption) (Or.inl ⟨by kernel_rfl, fun z hx => ?_⟩) ?_
        · clear hx; go_simp; first | done | rfl
        refine wpAnyH_tk 7 (some 48) (.int .i64 5) rfl rfl (by kernel_rfl) (fun _ _ _ h => h) (by assumption) (Or.inl ⟨by kernel_rfl, fun z hx => ?_⟩) ?_
        · clear hx; go_simp; first | done | rfl
        refine wpAnyH_tk 8 (some 49) (.bool false) rfl rfl (by kernel_rfl) (fun _ _ _ h => h) (by assumption) (Or.inl ⟨by kernel_rfl, fun z hx => ?_⟩) ?_
        · clear hx; go_simp; first | done | rfl
        refine wpAnyH_tk 9 (some 50) (.bool false) rfl rfl (by kernel_rfl) (fun _ _ _ h => h) (by assumption) (Or.inl ⟨by kernel_rfl, fun z hx => ?_⟩) ?_
        · clear hx; go_simp; first | done | rfl
        refine wpAnyH_tk 10 (some 51) (.bool false) rfl rfl (by kernel_rfl) (fun _ _ _ h => h) (by assumption) (Or.inl ⟨by kernel_rfl, fun z hx => ?_⟩) ?_
        · clear hx; go_simp; first | done | rfl
        refine wpAnyH_tk 11 (some 52) (.pointer (some ⟨X, 0, none⟩)) rfl rfl (by kernel_rfl) (fun _ _ _ h => h) (by assumption) (Or.inl ⟨by kernel_rfl, fun z hx => ?_⟩) ?_
        · clear hx; go_simp; first | done | rfl
        refine wpAnyH_tk 12 (some 53) (.pointer (some ⟨X, 0, none⟩)) rfl rfl (by kernel_rfl) (fun _ _ _ h => h) (by assumption) (Or.inl ⟨by kernel_rfl, fun z hx => ?_⟩) ?_
        · clear hx; go_simp; first | done | rfl
        refine wpAnyH_tk 13 (some 54) (.pointer (some ⟨X, 0, none⟩)) rfl rfl (by kernel_rfl) (fun _ _ _ h => h) (by assumption) (Or.inl ⟨by kernel_rfl, fun z hx => ?_⟩) ?_
        · clear hx; go_simp; first | done | rfl
        refine wpAnyH_tk 14 (some 55) (.agg #[.int .i64 c.kind, .int .i64 c.int, .string ⟨c.text.toArray⟩]) rfl rfl (by kernel_rfl) (fun _ _ _ h => h) (by assumption) (Or.inl ⟨by kernel_rfl, fun z hx => ?_⟩) ?_
        · have q0 := (hx.cell (p := ⟨b, 0, none⟩) lb).trans b0; have q1 := (hx.cell (p := ⟨b, 1, none⟩) lb).trans b1; have q2 := (hx.cell (p := ⟨b, 2, none⟩) lb).trans b2; clear hx; go_simp; first | done | rfl
        refine wpAnyH_one 15 rfl (by kernel_rfl) (fun K' hK' => ?_)
        rw [if_pos (by kernel_rfl)]
        go_simp
        go_at_call 9
        refine (hfnd _ hS6).mono ?_
        rintro e w7 ⟨rfl, hb7⟩
        have hS7 : Below w5.heap.size w5 w7 := hS6.trans (hb7.mono hS6.size)
        clear hb7
        go_simp
        refine hK' _ _ hS7 ?_
        clear hK'
        clear hS6
        refine wpAnyH_tk 16 (some 57) (.bool false) rfl rfl (by kernel_rfl) (fun _ _ _ h => h) (by assumption) (Or.inl ⟨by kernel_rfl, fun z hx => ?_⟩) ?_
        · clear hx; go_simp; first | done | rfl
        refine wpAnyH_tk 17 (some 58) (.bool false) rfl rfl (by kernel_rfl) (fun _ _ _ h => h) (by assumption) (Or.inl ⟨by kernel_rfl, fun z hx => ?_⟩) ?_
        · clear hx; go_simp; first | done | rfl
        refine wpAnyH_tk 18 (some 59) (.bool false) rfl rfl (by kernel_rfl) (fun _ _ _ h => h) (by assumption) (Or.inl ⟨by kernel_rfl, fun z hx => ?_⟩) ?_
        · clear hx; go_simp; first | done | rfl
        refine wpAnyH_tk 19 (some 60) (.int .i64 0) rfl rfl (by kernel_rfl) (fun _ _ _ h => h) (by assumption) (Or.inl ⟨by kernel_rfl, fun z hx => ?_⟩) ?_
        · clear hx; go_simp; first | done | rfl
        refine wpAnyH_tk 20 (some 61) (.bool false) rfl rfl (by kernel_rfl) (fun _ _ _ h => h) (by assumption) (Or.inl ⟨by kernel_rfl, fun z hx => ?_⟩) ?_
        · clear hx; go_simp; first | done | rfl
        refine wpAnyH_tk 21 (some 62) (.bool false) rfl rfl (by kernel_rfl) (fun _ _ _ h => h) (by assumption) (Or.inl ⟨by kernel_rfl, fun z hx => ?_⟩) ?_
        · clear hx; go_simp; first | done | rfl
        refine wpAnyH_tk 22 (some 63) undef rfl rfl (by kernel_rfl) (fun _ _ _ h => h) (by assumption) (Or.inr ⟨by kernel_rfl, rfl⟩) ?_
        refine wpAnyH_tk 23 (some 64) undef rfl rfl (by kernel_rfl) (fun _ _ _ h => h) (by assumption) (Or.inr ⟨by kernel_rfl, rfl⟩) ?_
        refine wpAnyH_tk 24 (some 65) (.bool false) rfl rfl (by kernel_rfl) (fun _ _ _ h => h) (by assumption) (Or.inl ⟨by kernel_rfl, fun z hx => ?_⟩) ?_
        · clear hx; go_simp; first | done | rfl
        refine wpAnyH_tk 25 (some 66) (.bool false) rfl rfl (by kernel_rfl) (fun _ _ _ h => h) (by assumption) (Or.inl ⟨by kernel_rfl, fun z hx => ?_⟩) ?_
        · clear hx; go_simp; first | done | rfl
        refine wpAnyH_done (by kernel_rfl) ?_ _
        go_simp
        have HS7 := Lib.hid (HS5.out.up hS7)
        clear hS7 hfnd hval b0 b1 b2 lb
        go_wp2
        go_round
        case rel => exact ⟨q + 1, o, v, ids, by go_num, rfl, by omega, HG, HS7⟩
        case measure => simp only [intOf]; omega
    · have hqI : ¬ (q : Int) < (n : Int) := by omega
      clear hq hqn
      have hof := own_form HS.out.own
      obtain ⟨m, hm⟩ : ∃ m, m = ids.length := ⟨_, rfl⟩
      rw [← hm] at hof
      obtain ⟨ao, co, rfl⟩ := hof
      have HM := Lib.hid hm
      clear hm
      go_wp2_with fail
      refine (sorted_ord HS.out.tbl HG.out.len HG.out.nd).mono ?_
      rintro e w30 ⟨so, rfl, ⟨order, hord, hrow⟩, hb30⟩
      have HS30 := Lib.hid (HS.out.up hb30)
      have HORD := Lib.hid hord
      have HROW := Lib.hid hrow
      clear hord hrow hb30
      go_wp2_with fail
      refine (ranks_any HS30.out.tbl HG.out.len HG.out.nd).mono ?_
      rintro e w31 ⟨r, order2, rfl, ho2, hrk, hb31⟩
      have HS31 := Lib.hid (HS30.out.up hb31)
      have HROW31 : Hid (w31.ownsRow wr.heap.size 3 1 so ids.length (intL order)) := Lib.hid (HROW.out.kept (Below.grow hb31) (by cases so.ownBlock <;> simp))
      have hoe := ho2.uniq HORD.out
      have HRK : Hid (RkAt w31 r ids.length order ids.length) := Lib.hid (by rw [← hoe]; exact hrk)
      clear ho2 hrk hb31 hoe
      go_wp2_with fail
      refine (ordered_any rfl HG.out.len (fun c hc => (HG.out.ok c hc).1) HORD.out HROW31.out HRK.out (io := .slice ao m co) HS31.out.own).mono ?_
      rintro e w32 ⟨rfl, hb32⟩
      have HS32 := Lib.hid (HS31.out.up hb32)
      have hl32 := len_any HS32.out.tbl
      rw [← HM.out] at hl32
      have hmin := min_any w32 (HT.out.bel HS32.out.bel)
      clear hb32
      go_wp2_with fail
      refine hl32.mono ?_
      rintro e w33 ⟨rfl, hw33⟩
      rw [hw33]
      clear hw33 hl32
      go_wp2_with fail
      refine hmin.mono ?_
      rintro e w34 ⟨rfl, hb34⟩
      have HB34 := Lib.hid (HS32.out.up hb34).bel
      clear hb34 hmin
      go_wp2
      all_goals go_ret
      exact ⟨rfl, HB34.out⟩
end Go.Proofs.YtijmogehmcjopaaDoor
