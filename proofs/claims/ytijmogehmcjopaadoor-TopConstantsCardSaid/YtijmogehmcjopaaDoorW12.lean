/-
  The walks of strings.Builder's Write and WriteString, beside a block that stands. Conditions: at most 1000000 bytes.
-/
import Derived.Test.YtijmogehmcjopaaDoorW11
namespace Go.Proofs.YtijmogehmcjopaaDoor
open Go.RowKit Ct
open Go.Lib (strCells strCells_length run_append_room_string run_append_grow_string)

theorem append_str_at {w : World} {base ty n : Nat} {i : TypeInfo} (hi : Tryd.prog.info? 5 = some i) (hz : i.zero = some (.int .u8 0)) (hsize : i.size = 1) (hby : i.bytes = 1)
    {v : Value} {xs : List Value} (hown : w.ownsRow base 5 1 v n xs) (hn0 : 0 < n) (s : ByteArray) (h63 : n + s.size ≤ maxLen) (hbytes : n + s.size ≤ 140737488355328)
    {v' : Value} {w' : World} (hr : (Builtin.append_ #[56, 9] ty #[v, .string s]).run Tryd.prog w = .ok v' w') : v'.ownBlock = v.ownBlock ∨ v'.ownBlock = some w.heap.size := by
  have hxl : xs.length = n := by simpa using hown.1
  rcases hown.2 with ⟨_, h0⟩ | ⟨g, cap, cur, rfl, hbg, hg, hnc, hcm, hcs, htake⟩
  · omega
  · by_cases hroom : n + s.size ≤ cap
    · have hcs' : cur.size = cap := by simpa using hcs
      rw [run_append_room_string (P := Tryd.prog) w 56 9 ty 5 i Tryd.underlying56 Tryd.underlying9 hi hsize g n cap cur hg s hroom (by omega)] at hr
      simp only [Result.ok.injEq] at hr
      obtain ⟨rfl, _⟩ := hr
      exact .inl rfl
    · have holds : ∀ j u, xs[j]? = some u → w.cell? ((⟨g, 0, none⟩ : Addr).add j) = some u := hown.cells (g := g) rfl
      rw [run_append_grow_string (P := Tryd.prog) w 56 9 ty 5 i (.int .u8 0) Tryd.underlying56 Tryd.underlying9 hi hz ⟨g, 0, none⟩ n cap xs (by rw [hsize]; simpa using hxl) holds s (by omega) (by unfold maxLen at h63; omega) (by rw [hby]; exact growslice_fits (by omega) (by omega))] at hr
      simp only [Result.ok.injEq] at hr
      obtain ⟨rfl, _⟩ := hr
      exact .inr rfl

theorem wpList_append_str_at {ops : Array Oper} {rest : List Oper} {o : Oper} {a : Act} {w : World} {Q : Exit → Act → World → Prop} (hgd : o.guard = none) (sl x : Operand)
    (ho : o.op = .call { callee := .builtin .append, args := #[sl, x], argTypes := #[56, 9] })
    (base : Nat) (i : TypeInfo) (hi : Tryd.prog.info? 5 = some i) (hz : i.zero = some (.int .u8 0)) (hsize : i.size = 1) (hby : i.bytes = 1)
    (v : Value) (n : Nat) (xs : List Value) (hs : a.eval sl = v) (hown : w.ownsRow base 5 1 v n xs) (hn0 : 0 < n) (s : ByteArray) (hx : a.eval x = .string s)
    (h63 : n + s.size ≤ maxLen) (hbytes : n + s.size ≤ 140737488355328) (hbase : base ≤ w.heap.size)
    (h : ∀ v' w', w'.ownsRow base 5 1 v' (n + s.size) (xs ++ strCells s) → w.grownBy w' v.ownBlock → (v'.ownBlock = v.ownBlock ∨ v'.ownBlock = some w.heap.size) → wpList Tryd.prog ops Q rest (a.put o.dst v') w') : wpList Tryd.prog ops Q (o :: rest) a w := by
  refine wpList_plain hgd fun K hK => ?_
  obtain ⟨v', w', hr, h2, h3, h4⟩ := Lib.run_append_own_string (P := Tryd.prog) w base 56 9 o.type 5 i Tryd.underlying56 Tryd.underlying9 hi hz hsize hby v n xs hown s h63 hbytes hbase
  unfold Oper.wp execOp
  simp only [ho, resolve, invoke, builtin, Sem.run_bind, Sem.run_pure, Result.andThen_ok, List.map_toArray, List.map_cons, List.map_nil, hs, hx, hr]
  exact hK _ _ (h v' w' h2 h3 (append_str_at hi hz hsize hby hown hn0 s h63 hbytes hr))

theorem add_zero' (s j : Nat) : ((⟨s, 0, none⟩ : Addr).add j) = ⟨s, j, none⟩ := by
  unfold Addr.add
  split
  · subst_vars; rfl
  · simp
theorem bytes_one (l : List UInt8) : ∀ v ∈ Lib.byteCells l, v.oneCell' = true := by
  intro v hv
  simp only [Lib.byteCells, List.mem_map] at hv
  obtain ⟨b, _, rfl⟩ := hv
  rfl
set_option maxHeartbeats 2000000 in
set_option maxRecDepth 100000 in
theorem write_any {G : Option Nat} {B b : Nat} {l : List UInt8} {w : World} (n s : Nat) (ns : List UInt8) (h : Bd G B b l w) (hlen : l.length ≤ 1000000) (hBw : B ≤ w.heap.size) (hn : ns.length = n) (hn1 : n ≤ 1000000) (hsb : s ≠ b) (hns : ∀ (j : Nat) (u : Value), (Lib.byteCells ns)[j]? = some u → w.cell? ⟨s, j, none⟩ = some u) :
    Calls Tryd.prog 38 #[.pointer (some ⟨b, 0, none⟩), .slice (some ⟨s, 0, none⟩) n n] w fun e w' => e = .returned (.tuple #[.int .i64 n, .nilIface]) ∧ Bd G B b (l ++ ns) w' ∧ Fr G w w' ∧ w.heap.size ≤ w'.heap.size ∧ Below B w w' := by
  obtain ⟨i0, hi, hi'⟩ := Option.map_eq_some_iff.1 info5
  simp only [Prod.mk.injEq] at hi'
  obtain ⟨hz0, hz1, hz2⟩ := hi'
  have HC := check_any h
  have HGB := Lib.hid h.gb
  have hBlo := h.lo
  have HN := Lib.hid hn
  clear h
  go_enter Tryd.func38, Tryd.ntmps38
  go_wp2_with (go_at_call 56; refine HC.mono ?_)
  clear hn
  rintro e w1 ⟨rfl, ⟨v, hbk, hown, hne, hng⟩, hk1, hs1, hb1⟩
  have hG1 : Hid (Fr G w w1) := Lib.hid fun g e => hk1 g ((HGB.out g e).1)
  have hlt : b < w1.heap.size := heap_lt hbk
  have hns1 : ∀ (j : Nat) (u : Value), (Lib.byteCells ns)[j]? = some u → w1.cell? ((⟨s, 0, none⟩ : Addr).add j) = some u := fun j u hj => by
    have := hns j u hj
    rw [add_zero' s j]
    simp only [World.cell?] at this ⊢
    rw [hk1 s hsb]; exact this
  clear hns
  have HNG := Lib.hid hng
  have HK := Lib.hid hk1
  have HS := Lib.hid hs1
  clear hng hk1 HC hs1
  have c0 : w1.cell? ⟨b, 0, none⟩ = some (.pointer (some ⟨b, 0, none⟩)) := by rw [Lib.cell_of_heap hbk]; rfl
  have c1 : w1.cell? ⟨b, 1, none⟩ = some v := by rw [Lib.cell_of_heap hbk]; rfl
  go_wp2_with (at_builtin; refine wpList_append_own_at _ rfl _ _ 56 rfl B 5 i0 (.int .u8 0) 1 1 Tryd.underlying56 hi hz0 hz1 hz2 rfl (by decide) v l.length (Lib.byteCells l) rfl hown ⟨s, 0, none⟩ n n (Lib.byteCells ns) rfl (by simp [Lib.byteCells, HN.out]) hns1 (bytes_one ns) ?c3 ?c4 ?c5 ?_)
  case c3 => unfold maxLen; omega
  case c4 => omega
  case c5 => have := HS.out; omega
  intro v' w2 hown' hgrow _ hat
  have hb2 : w2.heap[b]? = some (.cells #[.pointer (some ⟨b, 0, none⟩), v] 70 (0, 0)) := by
    rw [hgrow.block b hlt (fun e => hne e.symm)]
    exact hbk
  have d0 : w2.cell? ⟨b, 0, none⟩ = some (.pointer (some ⟨b, 0, none⟩)) := by rw [Lib.cell_of_heap hb2]; rfl
  have d1 : w2.cell? ⟨b, 1, none⟩ = some v := by rw [Lib.cell_of_heap hb2]; rfl
  have f1 : w2.frozen? ⟨b, 1, none⟩ = false := Lib.frozen_of_heap hb2 1
  have HAT := Lib.hid hat
  have HSZ : Hid (w1.heap.size ≤ w2.heap.size) := Lib.hid (hgrow.size)
  obtain ⟨ao, cap, rfl⟩ := ownsRow_form' hown'
  have HO := Lib.hid hown'
  have HGR := Lib.hid hgrow
  have HOW := Lib.hid hown
  have HNE := Lib.hid hne
  have HLT := Lib.hid hlt
  have HB1 := Lib.hid hb1
  clear hat hown' hgrow hown hne hlt hb1
  go_wp2
  go_ret2
  have hG2 : Fr G w1 w2 := fun g e => by
    have hlg : g < w1.heap.size := by rw [HS.out]; exact (HGB.out g e).2
    exact HGR.out.block g hlg (fun k => HNG.out g e k.symm)
  refine ⟨rfl, ?_, ?_, ?_, ?_⟩
  · refine Bd.put hBlo hb2 (by simpa [Lib.byteCells, HN.out] using HO.out) ?_ ?_ ?_
    · rcases HAT.out with h | h
      · rw [h]; exact HNE.out
      · rw [h]; simp; have := HLT.out; omega
    · intro g e
      rcases HAT.out with h | h
      · rw [h]; exact HNG.out g e
      · rw [h]; simp; have := (HGB.out g e).2; have := HS.out; omega
    · intro g e; refine ⟨(HGB.out g e).1, ?_⟩
      have := (HGB.out g e).2; have := HS.out; have := HSZ.out; omega
  · exact (hG1.out.trans hG2).trans fun g e => Below.heap_setCell _ _ _ _ (HGB.out g e).1
  · have := HS.out; have := HSZ.out; simp [World.setCell]; omega
  · exact (HB1.out.grown HGR.out (by have := HS.out; omega) (fun k hk => (HOW.out.lt k hk).1)).setCell (p := ⟨b, 1, none⟩) hBlo _
set_option maxHeartbeats 2000000 in
set_option maxRecDepth 100000 in
theorem writeString_any {G : Option Nat} {B b : Nat} {l : List UInt8} {w : World} (s : ByteArray) (h : Bd G B b l w) (hlen : l.length ≤ 1000000) (hBw : B ≤ w.heap.size) (hl0 : 0 < l.length) (hs : s.size ≤ 1000000) :
    Calls Tryd.prog 39 #[.pointer (some ⟨b, 0, none⟩), .string s] w fun e w' => e = .returned (.tuple #[.int .i64 s.size, .nilIface]) ∧ Bd G B b (l ++ L s) w' ∧ Fr G w w' ∧ w.heap.size ≤ w'.heap.size ∧ Below B w w' := by
  obtain ⟨i0, hi, hi'⟩ := Option.map_eq_some_iff.1 info5
  simp only [Prod.mk.injEq] at hi'
  obtain ⟨hz0, hz1, hz2⟩ := hi'
  have HC := check_any h
  have HGB := Lib.hid h.gb
  have hBlo := h.lo
  clear h
  go_enter Tryd.func39, Tryd.ntmps39
  go_wp2_with (go_at_call 56; refine HC.mono ?_)
  rintro e w1 ⟨rfl, ⟨v, hbk, hown, hne, hng⟩, hk1, hs1, hb1⟩
  have hG1 : Hid (Fr G w w1) := Lib.hid fun g e => hk1 g ((HGB.out g e).1)
  have hlt : b < w1.heap.size := heap_lt hbk
  have HNG := Lib.hid hng
  have HK := Lib.hid hk1
  have HS := Lib.hid hs1
  clear hng hk1 HC hs1
  have c0 : w1.cell? ⟨b, 0, none⟩ = some (.pointer (some ⟨b, 0, none⟩)) := by rw [Lib.cell_of_heap hbk]; rfl
  have c1 : w1.cell? ⟨b, 1, none⟩ = some v := by rw [Lib.cell_of_heap hbk]; rfl
  go_wp2_with (at_builtin; refine wpList_append_str_at rfl _ _ rfl B i0 hi hz0 hz1 hz2 v l.length (Lib.byteCells l) rfl hown hl0 s rfl ?c3 ?c4 ?c5 ?_)
  case c3 => unfold maxLen; omega
  case c4 => omega
  case c5 => have := HS.out; omega
  intro v' w2 hown' hgrow hat
  have hb2 : w2.heap[b]? = some (.cells #[.pointer (some ⟨b, 0, none⟩), v] 70 (0, 0)) := by
    rw [hgrow.block b hlt (fun e => hne e.symm)]
    exact hbk
  have d0 : w2.cell? ⟨b, 0, none⟩ = some (.pointer (some ⟨b, 0, none⟩)) := by rw [Lib.cell_of_heap hb2]; rfl
  have d1 : w2.cell? ⟨b, 1, none⟩ = some v := by rw [Lib.cell_of_heap hb2]; rfl
  have f1 : w2.frozen? ⟨b, 1, none⟩ = false := Lib.frozen_of_heap hb2 1
  have HAT := Lib.hid hat
  have HSZ : Hid (w1.heap.size ≤ w2.heap.size) := Lib.hid (hgrow.size)
  obtain ⟨ao, cap, rfl⟩ := ownsRow_form' hown'
  have HO := Lib.hid hown'
  have HGR := Lib.hid hgrow
  have HOW := Lib.hid hown
  have HNE := Lib.hid hne
  have HLT := Lib.hid hlt
  have HB1 := Lib.hid hb1
  clear hat hown' hgrow hown hne hlt hb1
  go_wp2
  go_ret2
  have hG2 : Fr G w1 w2 := fun g e => by
    have hlg : g < w1.heap.size := by rw [HS.out]; exact (HGB.out g e).2
    exact HGR.out.block g hlg (fun k => HNG.out g e k.symm)
  refine ⟨rfl, ?_, ?_, ?_, ?_⟩
  · refine Bd.put hBlo hb2 (by rw [List.length_append, L_len, Lib.byteCells_append]; exact HO.out) ?_ ?_ ?_
    · rcases HAT.out with h | h
      · rw [h]; exact HNE.out
      · rw [h]; simp; have := HLT.out; omega
    · intro g e
      rcases HAT.out with h | h
      · rw [h]; exact HNG.out g e
      · rw [h]; simp; have := (HGB.out g e).2; have := HS.out; omega
    · intro g e; refine ⟨(HGB.out g e).1, ?_⟩
      have := (HGB.out g e).2; have := HS.out; have := HSZ.out; omega
  · exact (hG1.out.trans hG2).trans fun g e => Below.heap_setCell _ _ _ _ (HGB.out g e).1
  · have := HS.out; have := HSZ.out; simp [World.setCell]; omega
  · exact (HB1.out.grown HGR.out (by have := HS.out; omega) (fun k hk => (HOW.out.lt k hk).1)).setCell (p := ⟨b, 1, none⟩) hBlo _
end Go.Proofs.YtijmogehmcjopaaDoor
