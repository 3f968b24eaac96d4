/-
  The walk of lex.Each at the function that lex.Scan hands to it. Conditions: the text is at most 65536 bytes long; the list lies in memory of its own; the variables hold what the program's text lays.
-/
import Derived.Test.YthidnjnaifcfoaaDoorW16
namespace Go.Proofs.YthidnjnaifcfoaaDoor
open Go.RowKit Go.Shelf Pl

theorem of_L {t : ByteArray} {l : List UInt8} (h : L t = l) : t = ⟨l.toArray⟩ := by
  cases t with
  | mk d => rw [← h]; simp [L]
theorem fault_code {r a : List UInt8} {c : Nat} (h : next r = .fault c a) : c ≠ 0 ∧ c ≤ 16 := by
  unfold next at h
  repeat' split at h
  all_goals try (cases h; done)
  all_goals
    first
      | (unfold nextInt at h; repeat' split at h)
      | (unfold nextWord at h; repeat' split at h)
      | (unfold nextText at h; repeat' split at h)
      | (unfold nextSign at h; repeat' split at h)
  all_goals (first | (cases h; done) | (cases h; omega))
theorem tok_kind {r text rest : List UInt8} {kind op : Nat} {int : Int} (h : next r = .tok kind op text int rest) : kind ≠ 0 ∧ rest.length < r.length := by
  obtain ⟨w, h1, h2, h3, _⟩ := next_tok h
  constructor
  · cases h3 with
    | int => omega
    | no => omega
    | name => omega
    | var => omega
    | text => omega
    | sign w p kind op hm hw =>
      simp only [signs, List.mem_cons, Prod.mk.injEq, List.not_mem_nil, or_false] at hm
      omega
  · rw [h1, List.length_append]
    cases w with
    | nil => exact absurd rfl h2
    | cons => simp
def tkA (t : Tk) : Value := .agg #[.int .i64 (t.kind : Int), .string ⟨t.text.toArray⟩, .int .i64 t.int, .int .i64 (t.op : Int), .int .i64 (t.off : Int), .int .i64 (t.fin : Int)]
/-- What comes next: a fault, the end, or a token. -/
theorem next_cases {s : ByteArray} {X p : Nat} {w w' : World} {e : Ending} {rest : List Tk} {f : Nat × Nat} (hp : p ≤ s.size) (h : Sc (L s) p rest f) (ht : TokIs s X (nextAt (L s) p).1 w (nextAt (L s) p).2 e w') :
    (∃ c q : Nat, c ≠ 0 ∧ f = (c, q) ∧ rest = [] ∧ e = .returned (.tuple #[TokV 0 noS 0 0 0 0, FaultV c q])) ∨
    ∃ (t : Tk) (ts' : List Tk), rest = t :: ts' ∧ e = .returned (.tuple #[tkA t, FaultV 0 0]) ∧
      ((t.kind = 0 ∧ ts' = [] ∧ f = (0, 0)) ∨ (t.kind ≠ 0 ∧ ∃ p', p < p' ∧ p' ≤ s.size ∧ RdB w' X s p' ∧ Sc (L s) p' ts' f)) := by
  cases h with
  | openC p st h1 =>
    have hN : nextAt (L s) p = (0, .fault 16 st) := by unfold nextAt; rw [h1]
    rw [hN] at ht
    exact .inl ⟨16, _, by omega, rfl, rfl, by rw [L_len]; exact ht.1⟩
  | fin p h1 =>
    have hN : nextAt (L s) p = (s.size, .fin) := by unfold nextAt; rw [h1]; simp only [L_len, List.length_nil, Nat.sub_zero]; rfl
    rw [hN] at ht
    refine .inr ⟨_, [], rfl, ?_, .inl ⟨rfl, rfl, rfl⟩⟩
    rw [ht.1, L_len]; rfl
  | fault p r a code h1 h2 =>
    have hN : nextAt (L s) p = (s.size - r.length, .fault code a) := by unfold nextAt; rw [h1]; simp only [L_len, h2]
    rw [hN] at ht
    exact .inl ⟨code, _, (fault_code h2).1, rfl, rfl, by rw [L_len]; exact ht.1⟩
  | tok p r rest' text kind op int ts f h1 h2 h3 =>
    have hN : nextAt (L s) p = (s.size - r.length, .tok kind op text int rest') := by unfold nextAt; rw [h1]; simp only [L_len, h2]
    rw [hN] at ht
    obtain ⟨⟨t, e1, e2, e3⟩, _⟩ := ht
    obtain ⟨k1, k2⟩ := tok_kind h2
    have hg := (gap_place h1).2
    rw [L_len] at hg
    refine .inr ⟨_, ts, rfl, ?_, .inr ⟨k1, s.size - rest'.length, by omega, by omega, e3, ?_⟩⟩
    · rw [e2, L_len, of_L e1]; rfl
    · rw [L_len] at h3; exact h3

/-- Memory while lex.Each runs: the list so far, the result's cell; below the list's variable nothing has turned. -/
structure OuS (C R : Nat) (w0 : World) (done : List Tk) (w : World) : Prop where
  out : ∃ v, w.heap[C]? = some (.cells #[v] 22) ∧ w.ownsRow (C + 1) 32 6 v done.length (flatT done)
  res : w.heap[R]? = some (.cells #[.int .i64 0, .int .i64 0, .int .i64 0] 25)
  low : Below C w0 w
section
variable {s : ByteArray} {X C R p q : Nat} {w0 w w' : World} {done : List Tk}
theorem own_oth {base n : Nat} {v : Value} {xs : List Value} (h : w.ownsRow base 32 6 v n xs) (hb : ∀ (k : Nat) (c : Array Value), w.heap[k]? = some (Obj.cells c 32 (0, 0)) → w'.heap[k]? = w.heap[k]?) : w'.ownsRow base 32 6 v n xs := by
  obtain ⟨h1, h2⟩ := h
  refine ⟨h1, ?_⟩
  rcases h2 with h2 | ⟨g, cap, cur, hv, hg, hh, r⟩
  · exact Or.inl h2
  · exact Or.inr ⟨g, cap, cur, hv, hg, by rw [hb g cur hh]; exact hh, r⟩
theorem OuS.bes (h : OuS C R w0 done w) (hb : Bes X w w') (hr : RdB w X s p) (hCX : C < X) (hRX : R ≠ X) : OuS C R w0 done w' := by
  obtain ⟨v, h1, h2⟩ := h.out
  refine ⟨⟨v, ?_, ?_⟩, ?_, h.low.trans (hb.below (by omega) (by have := hr.lt; omega))⟩
  · rw [hb.block C (by have := hr.lt; omega) (by omega)]; exact h1
  · refine own_oth h2 (fun k c hk => hb.block k (Array.getElem?_eq_some_iff.1 hk).1 (fun e => ?_))
    unfold RdB at hr
    rw [e, hr] at hk
    simp at hk
  · rw [hb.block R (Array.getElem?_eq_some_iff.1 h.res).1 hRX]; exact h.res
theorem OuS.up (h : OuS C R w0 done w) (hb : Below w.heap.size w w') (hC : C < w.heap.size) : OuS C R w0 done w' := by
  obtain ⟨v, h1, h2⟩ := h.out
  refine ⟨⟨v, by rw [hb.block C hC]; exact h1, own_oth h2 (fun k c hk => hb.block k (Array.getElem?_eq_some_iff.1 hk).1)⟩, by rw [hb.block R (Array.getElem?_eq_some_iff.1 h.res).1]; exact h.res, h.low.trans (hb.mono (by omega))⟩
theorem own_type {v : Value} {base n : Nat} {xs : List Value} (ho : w.ownsRow base 32 6 v n xs) : ∀ k, v.ownBlock = some k → ∃ c, w.heap[k]? = some (.cells c 32 (0, 0)) := by
  intro k hk
  rcases ho.2 with ⟨rfl, _⟩ | ⟨g, cap, cur, rfl, hg, hh, r⟩
  · cases hk
  · simp [Value.ownBlock] at hk; subst hk; exact ⟨cur, hh⟩
theorem RdB.push {v : Value} {n : Nat} {xs : List Value} (hr : RdB w X s p) (ho : w.ownsRow (C + 1) 32 6 v n xs) (hCX : C < X) (h2 : Oth (fun k => k = C ∨ some k = v.ownBlock) w w') : RdB w' X s p := by
  unfold RdB
  rw [h2.block X hr.lt (fun hx => by
    rcases hx with hx | hx
    · omega
    · obtain ⟨c, hc⟩ := own_type ho X hx.symm
      unfold RdB at hr
      rw [hr] at hc; simp at hc)]
  exact hr
theorem OuS.push {v : Value} {t : Tk} (h : OuS C R w0 done w) (hv : w.heap[C]? = some (.cells #[v] 22)) (ho : w.ownsRow (C + 1) 32 6 v done.length (flatT done)) (hCR : C < R)
    (h1 : ∃ v', w'.heap[C]? = some (.cells #[v'] 22) ∧ w'.ownsRow (C + 1) 32 6 v' (done.length + 1) (flatT (done ++ [t]))) (h2 : Oth (fun k => k = C ∨ some k = v.ownBlock) w w') : OuS C R w0 (done ++ [t]) w' := by
  have hl := World.ownsRow.lt ho
  refine ⟨by rw [List.length_append]; exact h1, ?_, ?_⟩
  · rw [h2.block R (Array.getElem?_eq_some_iff.1 h.res).1 (fun hx => by
      rcases hx with hx | hx
      · omega
      · obtain ⟨c, hc⟩ := own_type ho R hx.symm
        rw [h.res] at hc; simp at hc)]
    exact h.res
  · have hC := (Array.getElem?_eq_some_iff.1 hv).1
    refine h.low.trans ⟨h2.os, h2.tape, h2.output, h2.size, fun k hk => h2.block k (by omega) (fun hx => ?_)⟩
    rcases hx with hx | hx
    · omega
    · have := (hl k hx.symm).1; omega
theorem OuS.fin {x y z : Value} (h : OuS C R w0 done w) (hCR : C < R) :
    (∃ v, (((w.setCell ⟨R, 0, none⟩ x).setCell ⟨R, 1, none⟩ y).setCell ⟨R, 2, none⟩ z).heap[C]? = some (.cells #[v] 22) ∧ (((w.setCell ⟨R, 0, none⟩ x).setCell ⟨R, 1, none⟩ y).setCell ⟨R, 2, none⟩ z).ownsRow (C + 1) 32 6 v done.length (flatT done)) ∧
      Below C w0 (((w.setCell ⟨R, 0, none⟩ x).setCell ⟨R, 1, none⟩ y).setCell ⟨R, 2, none⟩ z) := by
  have hk : ∀ k, k ≠ R → (((w.setCell ⟨R, 0, none⟩ x).setCell ⟨R, 1, none⟩ y).setCell ⟨R, 2, none⟩ z).heap[k]? = w.heap[k]? := fun k h2 => by
    rw [Below.heap_setCell _ _ _ _ h2, Below.heap_setCell _ _ _ _ h2, Below.heap_setCell _ _ _ _ h2]
  obtain ⟨v, h1, h2⟩ := h.out
  refine ⟨⟨v, by rw [hk C (by omega)]; exact h1, own_oth h2 (fun k c hc => hk k (fun e => ?_))⟩, ?_⟩
  · rw [e, h.res] at hc; simp at hc
  · exact ((h.low.setCell (by simp; omega) _).setCell (by simp; omega) _).setCell (by simp; omega) _
end
theorem sc_len {l : List UInt8} {p : Nat} {ts : List Tk} {f : Nat × Nat} (h : Sc l p ts f) (hp : p ≤ l.length) : ts.length ≤ l.length - p + 1 := by
  induction h with
  | openC => simp
  | fin => simp
  | fault => simp
  | tok p r rest text kind op int ts f h1 h2 h3 ih =>
    have hg := (gap_place h1).2
    have hk := (tok_kind h2).2
    have := ih (by omega)
    simp only [List.length_cons]
    omega

set_option maxRecDepth 100000 in
set_option maxHeartbeats 3200000 in
theorem each_any (s : ByteArray) (C B : Nat) (ts : List Tk) (f : Nat × Nat) (w : World) (hs : s.size ≤ 65536) (hSc : Sc (L s) 0 ts f) (hC : w.heap[C]? = some (.cells #[.slice none 0 0] 22)) (hG : Gl B w) (hBC : B ≤ C) :
    Calls Tryd.prog 7 #[.string s, .func (.func 8) #[] #[.pointer (some ⟨C, 0, none⟩)]] w fun e w' => e = .returned (FaultV f.1 f.2) ∧ (∃ v, w'.heap[C]? = some (.cells #[v] 22) ∧ w'.ownsRow (C + 1) 32 6 v ts.length (flatT ts)) ∧ Below C w w' := by
  have hCz : C < w.heap.size := (Array.getElem?_eq_some_iff.1 hC).1
  have htl := sc_len hSc (Nat.zero_le _)
  rw [L_len] at htl
  have hgt : decide ((s.size : Int) > 65536) = false := decide_eq_false (by omega)
  obtain ⟨X, hX⟩ : ∃ X, X = w.heap.size + 1 := ⟨_, rfl⟩
  have HSC := Lib.hid hSc
  have HG := Lib.hid hG
  have HR0 : Hid (RdB ((w.alloc (.cells #[.int .i64 0, .int .i64 0, .int .i64 0] 25)).alloc (.cells #[.string s, .int .i64 0] 41)) X s 0) := Lib.hid (by rw [hX]; exact (two_heap _ _ rfl).2)
  have H0 : Hid (OuS C w.heap.size w [] ((w.alloc (.cells #[.int .i64 0, .int .i64 0, .int .i64 0] 25)).alloc (.cells #[.string s, .int .i64 0] 41))) := Lib.hid (by
    refine ⟨⟨.slice none 0 0, ?_, World.ownsRow_nil _ _ _ _⟩, ?_, ((Below.refl _ _).alloc (by omega) _).alloc (by simp; omega) _⟩
    · rw [Below.heap_alloc _ _ _ (by simp; omega), Below.heap_alloc _ _ _ hCz]; exact hC
    · exact (two_heap _ _ rfl).1)
  have HRUN : ∀ W : World, Sem.run Tryd.prog (binOp BinOp.neq 35 (Value.func (.func 8) #[] #[.pointer (some ⟨C, 0, none⟩)]) Value.nilFunc) W = .ok (.bool true) W := fun W => by kernel_rfl
  have HRN := Lib.hid HRUN
  have hCX : C < X := by omega
  have hRX : w.heap.size ≠ X := by omega
  have hBX : B ≤ X := by omega
  clear hSc hG hC HRUN
  go_enter Tryd.func7, Tryd.ntmps7
  go_wp2
  rw [← hX]
  have HX := Lib.hid hX
  clear hX
  go_loopw [] (fun wr => ∃ (p : Nat) (done rest : List Tk), p ≤ s.size ∧ Hid (RdB wr X s p) ∧ Hid (OuS C w.heap.size w done wr) ∧ Hid (Sc (L s) p rest f) ∧ Hid (done ++ rest = ts)) (fun wr => s.size - atOf wr X)
  case atStart => exact ⟨0, [], ts, Nat.zero_le _, HR0, H0, HSC, Lib.hid rfl⟩
  case round =>
    obtain ⟨p, done, rest, hp, HR, HS, HSc, HT⟩ := hrel
    have HA := Lib.hid HR.out.atOf
    have hdl : done.length ≤ 65537 := by
      have := congrArg List.length HT.out
      rw [List.length_append] at this; omega
    have hwrz : w.heap.size < wr.heap.size := (Array.getElem?_eq_some_iff.1 HS.out.res).1
    go_wp2_with fail
    refine (next_any s p X B _ hs hp HR.out (HG.out.below (HS.out.low.mono hBC)) hBX).mono ?_
    rintro e w4 ht
    obtain ⟨_, _, _, _, _, _, _, _, _, hb4⟩ := ht.form
    have H4 := Lib.hid (HS.out.bes hb4 HR.out hCX hRX)
    have hw4z := hb4.size
    clear hb4
    rcases next_cases hp HSc.out ht with ⟨c, q, hc0, hf, hr, he⟩ | ⟨t, ts', hr, he, hk⟩
    · have he2 : e = .returned (.tuple #[.agg #[.int .i64 0, .string noS, .int .i64 0, .int .i64 0, .int .i64 0, .int .i64 0], .agg #[.int .i64 (c : Int), .int .i64 0, .int .i64 (q : Int)]]) := he
      subst he2
      have ec : ((c : Int) != 0) = true := by simp; omega
      have HF := Lib.hid hf
      have HDT : Hid (done = ts) := Lib.hid (by have := HT.out; rw [hr, List.append_nil] at this; exact this)
      clear he hf hr ht
      go_upto_region 6 with fail
      obtain ⟨w6, hw6⟩ : ∃ w6, w6 = (w4.alloc (.cells #[.int .i64 0, .string noS, .int .i64 0, .int .i64 0, .int .i64 0, .int .i64 0] 32)).alloc (.cells #[.int .i64 (c : Int), .int .i64 0, .int .i64 (q : Int)] 25) := ⟨_, rfl⟩
      have B6 : Below w4.heap.size w4 w6 := by rw [hw6]; exact (up_alloc _ _).alloc (by simp) _
      have H6 := Lib.hid (H4.out.up B6 (by omega))
      have q1 : w6.heap[w.heap.size]? = some (.cells #[.int .i64 0, .int .i64 0, .int .i64 0] 25) := H6.out.res
      have q2 : w6.heap[w4.heap.size + 1]? = some (.cells #[.int .i64 (c : Int), .int .i64 0, .int .i64 (q : Int)] 25) := by rw [hw6]; exact (two_heap _ _ rfl).2
      obtain ⟨a0, a1, a2, b0, b1, b2⟩ := row3 q1
      obtain ⟨c0, c1, c2, d0, d1, d2⟩ := row3 q2
      have HH := Lib.hid (three_set (x := .int .i64 (c : Int)) (y := .int .i64 0) (z := .int .i64 (q : Int)) q1)
      have HFIN := Lib.hid (OuS.fin (x := .int .i64 (c : Int)) (y := .int .i64 0) (z := .int .i64 (q : Int)) H6.out hCz)
      rw [HDT.out] at HFIN
      first | rw [← hw6] | skip
      clear q1 q2 hw6 B6
      go_wp2
      refine bodyPost_ret (results_cell_row rfl _ _ w.heap.size 25 _ (0, 0) _ rfl HH.out Tryd.underlying25 rfl Tryd.size25) rfl ?_
      exact ⟨by rw [HF.out]; rfl, HFIN.out⟩
    · have he2 : e = .returned (.tuple #[.agg #[.int .i64 (t.kind : Int), .string ⟨t.text.toArray⟩, .int .i64 t.int, .int .i64 (t.op : Int), .int .i64 (t.off : Int), .int .i64 (t.fin : Int)], .agg #[.int .i64 0, .int .i64 0, .int .i64 0]]) := he
      subst he2
      have HK := Lib.hid hk
      have HRr := Lib.hid hr
      clear he hr ht hk
      go_upto_region 7 with fail
      obtain ⟨w6, hw6⟩ : ∃ w6, w6 = (w4.alloc (.cells #[.int .i64 (t.kind : Int), .string ⟨t.text.toArray⟩, .int .i64 t.int, .int .i64 (t.op : Int), .int .i64 (t.off : Int), .int .i64 (t.fin : Int)] 32)).alloc (.cells #[.int .i64 0, .int .i64 0, .int .i64 0] 25) := ⟨_, rfl⟩
      rw [← hw6]
      have B6 : Below w4.heap.size w4 w6 := by rw [hw6]; exact (up_alloc _ _).alloc (by simp) _
      have H6 := Lib.hid (H4.out.up B6 (by omega))
      have q1 : w6.heap[w4.heap.size]? = some (.cells #[.int .i64 (t.kind : Int), .string ⟨t.text.toArray⟩, .int .i64 t.int, .int .i64 (t.op : Int), .int .i64 (t.off : Int), .int .i64 (t.fin : Int)] 32) := by rw [hw6]; exact (two_heap _ _ rfl).1
      have h6z : w6.heap.size = w4.heap.size + 2 := by rw [hw6]; simp
      have HB6 := Lib.hid B6
      have HQ1 := Lib.hid q1
      obtain ⟨a0, a1, a2, a3, a4, a5, b0, b1, b2, b3, b4, b5⟩ := row6 q1
      have hrun := HRN.out w6
      obtain ⟨v, hv6, ho6⟩ := H6.out.out
      have HV6 := Lib.hid hv6
      have HO6 := Lib.hid ho6
      have hlt6 : ∀ k, v.ownBlock = some k → k ≠ w4.heap.size := fun k hk he => by
        obtain ⟨v4, hv4, ho4⟩ := H4.out.out
        rw [B6.block C (by omega)] at hv6
        rw [hv6] at hv4
        simp at hv4
        subst hv4
        have := (World.ownsRow.lt ho4 k hk).2
        omega
      have HLT := Lib.hid hlt6
      clear hw6 B6 q1 hv6 ho6 hlt6
      go_wp2_with fail
      refine (clo_any C w6 v done t HV6.out HO6.out (by omega)).mono ?_
      rintro e w7 ⟨rfl, hpu, hot⟩
      have H7 := Lib.hid (H6.out.push HV6.out HO6.out hCz hpu hot)
      have HR7 := Lib.hid (fun q (h : RdB w6 X s q) => h.push HO6.out hCX hot)
      have q2 : w7.heap[w4.heap.size]? = some (.cells #[.int .i64 (t.kind : Int), .string ⟨t.text.toArray⟩, .int .i64 t.int, .int .i64 (t.op : Int), .int .i64 (t.off : Int), .int .i64 (t.fin : Int)] 32) := by
        rw [hot.block w4.heap.size (by omega) (fun hx => by
          rcases hx with hx | hx
          · omega
          · exact HLT.out _ hx.symm rfl)]
        exact HQ1.out
      have x0 : w7.cell? ⟨w4.heap.size, 0, none⟩ = some (.int .i64 (t.kind : Int)) := by simp only [World.cell?, q2]; rfl
      clear q2 hpu hot a0 a1 a2 a3 a4 a5 b0 b1 b2 b3 b4 b5 hrun
      by_cases hk0 : t.kind = 0
      · have ek : ((t.kind : Int) == 0) = true := by simp; omega
        have hk5 : ts' = [] ∧ f = (0, 0) := by
          rcases HK.out with h5 | h5
          · exact h5.2
          · exact absurd hk0 h5.1
        have HF := Lib.hid hk5.2
        have HDT : Hid (done ++ [t] = ts) := Lib.hid (by have := HT.out; rw [HRr.out, hk5.1] at this; exact this)
        have q1 : w7.heap[w.heap.size]? = some (.cells #[.int .i64 0, .int .i64 0, .int .i64 0] 25) := H7.out.res
        obtain ⟨a0, a1, a2, b0, b1, b2⟩ := row3 q1
        have HH := Lib.hid (three_set (x := .int .i64 0) (y := .int .i64 0) (z := .int .i64 0) q1)
        have HFIN := Lib.hid (OuS.fin (x := .int .i64 0) (y := .int .i64 0) (z := .int .i64 0) H7.out hCz)
        rw [HDT.out] at HFIN
        clear q1 hk5 hk0
        go_wp2
        refine bodyPost_ret (results_cell_row rfl _ _ w.heap.size 25 _ (0, 0) _ rfl HH.out Tryd.underlying25 rfl Tryd.size25) rfl ?_
        exact ⟨by rw [HF.out]; rfl, HFIN.out⟩
      · have ek : ((t.kind : Int) == 0) = false := by simp; omega
        obtain ⟨p', hpp, hps, hr', hsc'⟩ : ∃ p', p < p' ∧ p' ≤ s.size ∧ RdB w4 X s p' ∧ Sc (L s) p' ts' f := by
          rcases HK.out with h5 | h5
          · exact absurd h5.1 hk0
          · exact h5.2
        have HSc' := Lib.hid hsc'
        have HRD := Lib.hid (HR7.out p' (hr'.below HB6.out))
        have HT' : Hid ((done ++ [t]) ++ ts' = ts) := Lib.hid (by have := HT.out; rw [HRr.out] at this; rw [← this]; simp)
        clear hsc' hr' hk0
        go_wp2
        go_roundw
        case rel => exact ⟨p', done ++ [t], ts', hps, HRD, H7, HSc', HT'⟩
        case measure => exact at_less HA.out HRD.out hpp hps
end Go.Proofs.YthidnjnaifcfoaaDoor
