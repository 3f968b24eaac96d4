/-
  The walks of TopMemory's closure, of what a store's Try defers, and of Try itself. Conditions: sizes within the form's own reach.
-/
import Derived.Test.YtmkoejpdoeblkaaW12
import Derived.Recover
namespace Go.Proofs.Ytmkoejpdoeblkaa
open Go.RowKit Pl

theorem Tr.cells_out {ex : Rl → Prop} {G G' : Nat → Rl} {w w' : World} {b : Nat} {o : Obj} (t : Tr ex G w G' w') (h : w.heap[b]? = some o) (hb : G b = .out) (hx : ¬ ex .out) : w'.heap[b]? = some o ∧ G' b = .out := t.cells h hb hx
def TryAdd (G : Nat → Rl) (X : Nat) (A : List Int) (l rs : List Rw) (V : SV) (w : World) (e : Ending) (w' : World) : Prop :=
  e = .returned (.bool false) ∧ ∃ G' fs' V', StoreAt G' X A (added A l rs) fs' V' w' ∧ (added A l rs).length = fs'.length ∧ V'.N ≤ V.N + rs.length ∧ V'.lv = V.lv ∧ Tr Own G w G' w'

set_option maxRecDepth 100000 in
set_option maxHeartbeats 3200000 in
theorem clo_any {G : Nat → Rl} {X : Nat} {A : List Int} {l rs : List Rw} {fs : List Value} {V : SV} {bs bp : Nat} {kv v nv : Value} (w : World) (h : StoreAt G X A l fs V w) (hl : l.length = fs.length) (hb1 : w.heap[bs]? = some (.cells #[.pointer (some ⟨X, 0, none⟩)] 24)) (hb2 : w.heap[bp]? = some (.cells #[kv, v, nv] 31))
    (hv : RowsIn w All v rs) (hok : okRows rs) (hrl : rs.length ≤ 1048576) (hN : V.N + rs.length ≤ 4194304) :
    Calls Try.prog 14 #[.pointer (some ⟨bs, 0, none⟩), .pointer (some ⟨bp, 0, none⟩)] w (TryAdd G X A l rs V w) := by
  obtain ⟨a, ca, rfl, _⟩ := hv.form
  obtain ⟨W, hW⟩ : ∃ W, W = w.drew := ⟨_, rfl⟩
  have hbW : Below w.heap.size w W := by rw [hW]; exact drew_below _ _
  have HS := Lib.hid (h.up hbW)
  have HL := Lib.hid hl
  have HV := Lib.hid (hv.below hbW)
  have HT := Lib.hid (Tr.up (ex := Own) (G := G) hbW)
  have hb1' := (hbW.block bs (Array.getElem?_eq_some_iff.1 hb1).1).trans hb1
  have hb2' := (hbW.block bp (Array.getElem?_eq_some_iff.1 hb2).1).trans hb2
  have hS0 : BlkS W [bs, bp] W := BlkS.refl _ _
  have HBZ : Hid (∀ b ∈ [bs, bp], b < W.heap.size) := Lib.hid (by
    have h1 := (Array.getElem?_eq_some_iff.1 hb1').1
    have h2 := (Array.getElem?_eq_some_iff.1 hb2').1
    intro b hb; simp at hb; omega)
  have HCS : Hid (∀ x, BlkS W [bs, bp] x → x.cell? ⟨bs, 0, none⟩ = some (.pointer (some ⟨X, 0, none⟩)) ∧ x.cell? ⟨bp, 1, none⟩ = some (.slice a rs.length ca)) := Lib.hid (by
    intro x hx
    exact ⟨hx.cell (by simp) (by simp only [World.cell?, hb1']; rfl), hx.cell (by simp) (by simp only [World.cell?, hb2']; rfl)⟩)
  clear h hl hb1 hb2 hb1' hb2' hv hbW
  go_enter Try.func14, Try.ntmps14
  go_upto_region 1 with fail
  refine wp_region_TL (BlkS W [bs, bp]) 4 (by kernel_rfl) ?_
  rw [← hW]
  clear hW
  refine wpTL_take _ ?_ rfl (by kernel_rfl) (fun _ _ _ h => h) (by assumption) (Or.inl ⟨by rfl, fun x hx => ?_⟩) ?_
  rotate_left
  · obtain ⟨k0_, k1_⟩ := HCS.out x hx
    clear hx
    go_simp
    try with_reducible rfl
  simp only [Act.put, List.setIfInBounds_toArray, List.set_cons_zero, List.set_cons_succ]
  refine wpTL_one (by kernel_rfl) (fun K' hK' => ?_)
  go_simp
  refine hK' _ _ (fun _ => hS0) ?_
  clear hK' K'
  obtain ⟨k0_, k1_⟩ := HCS.out W hS0
  refine wpTL_one (by kernel_rfl) (fun K' hK' => ?_)
  go_simp
  refine hK' _ _ (fun _ => hS0) ?_
  clear hK' K'
  refine wpTL_one (by kernel_rfl) (fun K' hK' => ?_)
  go_simp
  go_at_call 10
  refine (ownRows_any rs _ _ HV.out hok hrl).mono ?_
  rintro e w3 ⟨v3, rfl, ho3, hb3⟩
  have hS3 : BlkS W [bs, bp] w3 := hS0.below HBZ.out hb3
  have HO3 := Lib.hid ho3
  have HB3 := Lib.hid hb3
  clear ho3 hb3 hS0
  refine hK' _ _ (fun _ => hS3) ?_
  clear hK' K'
  have HX3 : Hid (RowsIn w3 (fun k => G k = .out) v3 rs) := Lib.hid (HO3.out.in.sub (fun k _ hk => HS.out.out k hk))
  refine wpTL_one (by kernel_rfl) (fun K' hK' => ?_)
  go_simp
  go_at_call 9
  refine (add_any w3 (HS.out.up HB3.out) HL.out HX3.out hok hrl hN).mono ?_
  rintro e w4 ⟨he, G4, f4, V4, hs4, hl4, hn4, hv4, ht4⟩
  obtain ⟨cc, hcc⟩ : ∃ cc : Int, cc = (if mayB A rs = true then 0 else 2) := ⟨_, rfl⟩
  rw [← hcc] at he
  clear hcc
  subst he
  have HS4 := Lib.hid (And.intro hs4 (And.intro hl4 (And.intro hn4 hv4)))
  have HT4 := Lib.hid ((HT.out.trans (Tr.up HB3.out)).trans ht4)
  clear hs4 hl4 hn4 hv4 ht4
  refine hK' _ _ (fun h => absurd rfl h) ?_
  clear hK' K'
  refine wpTL_nil (by kernel_rfl) ?_
  clear hS3 HCS HBZ k0_ k1_
  go_wp2
  go_ret
  exact ⟨rfl, G4, f4, V4, HS4.out.1, HS4.out.2.1, HS4.out.2.2.1, HS4.out.2.2.2, HT4.out⟩

theorem StoreAt.lowsTo {G : Nat → Rl} {X : Nat} {A : List Int} {l : List Rw} {fs : List Value} {V : SV} {w : World} (h : StoreAt G X A l fs V w) (v : Value) :
    StoreAt G X A l fs { V with lv := v } (w.setCell ⟨X, 7, none⟩ v) ∧ Tr (fun r => r = .st) G w G (w.setCell ⟨X, 7, none⟩ v) := by
  have t := Tr.setX h.tag w 7 v
  exact ⟨⟨h.blk.set7 v, h.tag, t.own h.ars (by simp), h.rows.tr t (by simp) (by simp), h.undo.tr t (by simp) (by simp), h.num.tr t (by simp), h.of.tr t (by simp [ofF]) (by simp [ofF]), h.whr.tr t (by simp [whF]) (by simp [whF]), h.len, h.fits, h.nodup, h.out.set _ _, h.okA⟩, t⟩

def LeftIs (G : Nat → Rl) (X : Nat) (A : List Int) (l : List Rw) (low : Nat) (V : SV) (gl lc : Nat) (w w' : World) : Prop :=
  ∃ fs' V', StoreAt G X A (l.take low) fs' V' w' ∧ (l.take low).length = fs'.length ∧ V'.N = V.N ∧ V'.lv = .slice (some ⟨gl, 0, none⟩) 0 lc ∧ Tr Own G w G w'

set_option maxRecDepth 100000 in
set_option maxHeartbeats 3200000 in
theorem left_any {G : Nat → Rl} {X : Nat} {A : List Int} {l : List Rw} {fs : List Value} {V : SV} {b4 bS b5 b6 low gl lc : Nat} (w : World) (h : StoreAt G X A l fs V w) (hl : l.length = fs.length) (hlv : V.lv = .slice (some ⟨gl, 0, none⟩) 1 lc) (hlc : 1 ≤ lc ∧ lc ≤ 9223372036854775807)
    (h4 : w.heap[b4]? = some (.cells #[.bool false] 4)) (hS : w.heap[bS]? = some (.cells #[.pointer (some ⟨X, 0, none⟩)] 24)) (h5 : w.heap[b5]? = some (.cells #[.int .i64 (low : Int)] 3)) (h6 : w.heap[b6]? = some (.cells #[.int .i64 0] 3))
    (g4 : G b4 = .out) (gS : G bS = .out) (g5 : G b5 = .out) (hlow : low ≤ l.length) (hN : V.N ≤ 4194304) :
    CallsD Try.prog 21 #[.pointer (some ⟨b4, 0, none⟩), .pointer (some ⟨bS, 0, none⟩), .pointer (some ⟨b6, 0, none⟩), .pointer (some ⟨b5, 0, none⟩)] .returning w fun e u' w' => e = .returned (.tuple #[]) ∧ u' = .returning ∧ LeftIs G X A l low V gl lc w w' := by
  refine callsD_of_wpS Try.func21 rfl fun c₀ cs hu => ?_
  apply wpS_seq
  apply wpS_seq
  apply wpS_region
  simp [wpOpsS, go_sem, recoverD, hu, Try.ntmps21, Exit.thenS]
  refine wpS_cond (t := false) (by simp [Act.eval, Array.replicate]) ?_
  simp only [Bool.false_eq_true, if_false]
  refine wpS_of_wp (wp_skip ?_)
  simp only [Exit.thenS]
  refine wpS_of_wp ?_
  simp only [Array.replicate_succ, Array.replicate_zero, List.push_toArray, List.append_toArray, List.nil_append, List.cons_append, List.setIfInBounds_toArray, List.set_cons_zero, List.set_cons_succ]
  -- region 2: the list of lows
  obtain ⟨W, hW⟩ : ∃ W, W = w.drew := ⟨_, rfl⟩
  have hbW : Below w.heap.size w W := by rw [hW]; exact drew_below _ _
  have x0 : w.cell? ⟨bS, 0, none⟩ = some (.pointer (some ⟨X, 0, none⟩)) := by simp only [World.cell?, hS]; rfl
  have x6 : w.cell? ⟨b6, 0, none⟩ = some (.int .i64 0) := by simp only [World.cell?, h6]; rfl
  have x7 : w.cell? ⟨X, 7, none⟩ = some (.slice (some ⟨gl, 0, none⟩) 1 lc) := by rw [← hlv]; exact h.blk.cells.2.2.2.2.2.2.2
  have hsW := h.up hbW
  have y7 : W.cell? ⟨X, 7, none⟩ = some (.slice (some ⟨gl, 0, none⟩) 1 lc) := by rw [← hlv]; exact hsW.blk.cells.2.2.2.2.2.2.2
  have f7 : W.frozen? ⟨X, 7, none⟩ = false := hsW.blk.froz.2.2.2
  obtain ⟨w2, hw2⟩ : ∃ w2, w2 = W.setCell ⟨X, 7, none⟩ (.slice (some ⟨gl, 0, none⟩) 0 lc) := ⟨_, rfl⟩
  obtain ⟨hs2, ht2⟩ := hsW.lowsTo (.slice (some ⟨gl, 0, none⟩) 0 lc)
  rw [← hw2] at hs2 ht2
  have hT2 := (Tr.up (ex := Own) (G := G) hbW).trans (ht2.wide (fun r hr => by subst hr; exact ⟨by simp, by simp, by simp⟩))
  have z4 := (hT2.cells_out h4 g4 (fun h => h.1 rfl)).1
  have zS := (hT2.cells_out hS gS (fun h => h.1 rfl)).1
  have z5 := (hT2.cells_out h5 g5 (fun h => h.1 rfl)).1
  have HS2 := Lib.hid hs2
  have HT2 := Lib.hid hT2
  have HL := Lib.hid hl
  have HW2 := Lib.hid hw2
  have HX := Lib.hid (And.intro z4 (And.intro zS z5))
  have HLC := Lib.hid hlc
  have h9 : (1 : Int) ≤ (lc : Int) := by omega
  clear h hl hlv h4 hS h5 h6 hs2 ht2 hT2 z4 zS z5 hw2 hsW hbW hlc
  go_upto_region 2 with fail
  go_still_tail 7, (by kernel_rfl)
  change wpList _ _ _ _ _ w.drew
  rw [← hW]
  clear hW x0 x6 x7
  have x4 : w2.cell? ⟨b4, 0, none⟩ = some (.bool false) := by have := HX.out.1; simp only [World.cell?, this]; rfl
  have x0 : w2.cell? ⟨bS, 0, none⟩ = some (.pointer (some ⟨X, 0, none⟩)) := by have := HX.out.2.1; simp only [World.cell?, this]; rfl
  have x5 : w2.cell? ⟨b5, 0, none⟩ = some (.int .i64 (low : Int)) := by have := HX.out.2.2; simp only [World.cell?, this]; rfl
  go_upto_region 3 with fail
  rw [← HW2.out]
  clear HW2 y7 f7
  go_wp2_with fail
  refine (undo_any w2 HS2.out HL.out rfl hN (by unfold I64; have := HS2.out.len; simp only at this; omega)).mono ?_
  rintro e w4 ⟨he, f4, V4, hs4, hl4, hn4, hv4, ht4⟩
  have hun : undone l (low : Int) = l.take low := by
    rw [undone, if_pos (by omega)]; rfl
  rw [hun] at hs4 hl4
  have HFIN : Hid (LeftIs G X A l low V gl lc w w4) := Lib.hid ⟨f4, V4, hs4, hl4, hn4, hv4, HT2.out.trans ht4⟩
  obtain ⟨cc, hcc⟩ : ∃ cc : Int, cc = (if 0 ≤ (low : Int) ∧ (low : Int) ≤ (l.length : Int) then 0 else 2) := ⟨_, rfl⟩
  rw [← hcc] at he
  clear hcc hun hs4 hl4 hn4 hv4 ht4
  subst he
  go_wp2
  cases c₀
  simp_all [bodyPostS, results, Try.results21]
  exact HFIN.out

theorem Try.info61 : (Try.prog.info? 61).map (fun i => (i.zero, i.size, i.bytes)) = some (some (.pointer none), 1, 8) := by kernel_rfl
def OwnL (r : Rl) : Prop := r ≠ .out ∧ r ≠ .imm
/-- No Try runs. -/
def LowsP (w : World) (G : Nat → Rl) (v : Value) : Prop := ∃ a c, v = .slice a 0 c ∧ w.ownsRow 0 61 1 v 0 [] ∧ ∀ k, v.ownBlock = some k → G k = .lows
theorem LowsP.nil (w : World) (G : Nat → Rl) : LowsP w G (.slice none 0 0) := ⟨none, 0, rfl, World.ownsRow_nil _ _ _ _, fun k h => by cases h⟩
theorem LowsP.tr {ex : Rl → Prop} {w w' : World} {G G' : Nat → Rl} {v : Value} (h : LowsP w G v) (t : Tr ex G w G' w') (hx : ¬ ex .lows) : LowsP w' G' v := by
  obtain ⟨a, c, h1, h2, h3⟩ := h
  obtain ⟨r1, r2⟩ := t.row h2 h3 hx
  exact ⟨a, c, h1, r1, r2⟩
theorem Own.ownL {r : Rl} (h : Own r) : OwnL r := ⟨h.1, h.2.1⟩
theorem four_heap {w1 : World} {n : Nat} (o p q r : Obj) (h : w1.heap.size = n) : ((((w1.alloc o).alloc p).alloc q).alloc r).heap[n]? = some o ∧ ((((w1.alloc o).alloc p).alloc q).alloc r).heap[n + 1]? = some p ∧ ((((w1.alloc o).alloc p).alloc q).alloc r).heap[n + 2]? = some q ∧ ((((w1.alloc o).alloc p).alloc q).alloc r).heap[n + 3]? = some r := by
  obtain ⟨h1, h2, h3⟩ := three_heap (w1 := w1) o p q h
  refine ⟨(Below.heap_alloc _ _ _ (by simp; omega)).trans h1, (Below.heap_alloc _ _ _ (by simp; omega)).trans h2, (Below.heap_alloc _ _ _ (by simp; omega)).trans h3, ?_⟩
  have := heap_alloc_new (((w1.alloc o).alloc p).alloc q) r
  simpa [h] using this
def TriedIs (G : Nat → Rl) (X : Nat) (A : List Int) (l rs : List Rw) (V : SV) (w : World) (e : Ending) (w' : World) : Prop :=
  e = .returned (.bool false) ∧ ∃ G' fs' V', StoreAt G' X A l fs' V' w' ∧ l.length = fs'.length ∧ V'.N ≤ V.N + rs.length ∧ LowsP w' G' V'.lv ∧ Tr OwnL G w G' w'

set_option maxRecDepth 100000 in
set_option maxHeartbeats 3200000 in
theorem try_any {G : Nat → Rl} {X : Nat} {A : List Int} {l rs : List Rw} {fs : List Value} {V : SV} {bs bp : Nat} {kv v nv : Value} (w : World) (h : StoreAt G X A l fs V w) (hl : l.length = fs.length) (hlow : LowsP w G V.lv) (hb1 : w.heap[bs]? = some (.cells #[.pointer (some ⟨X, 0, none⟩)] 24)) (hb2 : w.heap[bp]? = some (.cells #[kv, v, nv] 31))
    (g1 : G bs = .out) (g2 : G bp = .out) (hv : RowsIn w (fun k => G k = .out) v rs) (hok : okRows rs) (hrl : rs.length ≤ 1048576) (hN : V.N + rs.length ≤ 4194304) :
    Calls Try.prog 13 #[.pointer (some ⟨X, 0, none⟩), .func (.func 14) #[] #[.pointer (some ⟨bs, 0, none⟩), .pointer (some ⟨bp, 0, none⟩)]] w (TriedIs G X A l rs V w) := by
  obtain ⟨i61, pi, p0, p1, p2⟩ := info_parts Try.info61
  have hmf : ∀ (fn : Fn) (first cap : Array Value) (w : World), (Instr.makeFunc fn first cap).run Try.prog w = .ok (.func fn first cap) w := fun _ _ _ _ => rfl
  have hrun : ∀ W : World, Sem.run Try.prog (binOp BinOp.eql 43 (Value.func (.func 14) #[] #[.pointer (some ⟨bs, 0, none⟩), .pointer (some ⟨bp, 0, none⟩)]) Value.nilFunc) W = .ok (.bool false) W := fun W => by kernel_rfl
  have hln := h.len
  have hXl := h.blk.lt
  obtain ⟨ra, rc, hrv⟩ : ∃ a c, V.rv = .slice a l.length c := by
    obtain ⟨us, bs, hr⟩ := h.rows
    rcases Joins.ownsRow_forms hr.row with ⟨h1, h2⟩ | ⟨g, cap, h1⟩
    · exact ⟨none, 0, by rw [h1]; simp [h2]⟩
    · exact ⟨_, cap, h1⟩
  obtain ⟨la, lc, hlv, hlr, hlt⟩ := hlow
  obtain ⟨Z, hZ⟩ : ∃ Z, Z = w.heap.size := ⟨_, rfl⟩
  obtain ⟨w1, hw1⟩ : ∃ w1, w1 = (w.alloc (.cells #[.pointer (some ⟨X, 0, none⟩)] 24)).alloc (.cells #[.bool false] 4) := ⟨_, rfl⟩
  have hb1w : Below w.heap.size w w1 := by rw [hw1]; exact ((Below.refl _ _).alloc (Nat.le_refl _) _).alloc (by simp) _
  have hz1 : w1.heap.size = Z + 2 := by rw [hw1, hZ]; simp
  obtain ⟨q0, q1⟩ : w1.heap[Z]? = some (.cells #[.pointer (some ⟨X, 0, none⟩)] 24) ∧ w1.heap[Z + 1]? = some (.cells #[.bool false] 4) := by rw [hw1, hZ]; exact two_heap _ _ rfl
  have x0 : w1.cell? ⟨Z, 0, none⟩ = some (.pointer (some ⟨X, 0, none⟩)) := by simp only [World.cell?, q0]; rfl
  have hs1 := h.up hb1w
  have x1 : w1.cell? ⟨X, 1, none⟩ = some (.slice ra l.length rc) := by rw [← hrv]; exact hs1.blk.cells.2.1
  have x7 : w1.cell? ⟨X, 7, none⟩ = some (.slice la 0 lc) := by rw [← hlv]; exact hs1.blk.cells.2.2.2.2.2.2.2
  have hr1 := hrun w1
  have HW1 := Lib.hid hw1
  have HZ := Lib.hid hZ
  have HS := Lib.hid h
  have HL := Lib.hid hl
  have HLV := Lib.hid hlv
  have HLR := Lib.hid (And.intro hlr hlt)
  have HB := Lib.hid (And.intro (And.intro hb1 hb2) (And.intro g1 g2))
  have HV := Lib.hid hv
  have HB1 := Lib.hid hb1w
  have HQ := Lib.hid (And.intro q0 q1)
  clear h hl hlv hlr hlt hb1 hb2 g1 g2 hv hb1w hw1 hZ hrv q0 q1 hs1 hrun
  go_enter_defers Try.func13, Try.ntmps13
  go_upto_region 1 with fail
  rw [← HZ.out, ← HW1.out]
  go_upto_region 4 with fail
  obtain ⟨w2, hw2⟩ : ∃ w2, w2 = w1.alloc (.cells #[.int .i64 (l.length : Int)] 3) := ⟨_, rfl⟩
  have hb2w : Below w1.heap.size w1 w2 := by rw [hw2]; exact up_alloc _ _
  have hz2 : w2.heap.size = Z + 3 := by rw [hw2]; simp [hz1]
  have q2 : w2.heap[Z + 2]? = some (.cells #[.int .i64 (l.length : Int)] 3) := by rw [hw2, ← hz1]; exact heap_alloc_new _ _
  have x0 : w2.cell? ⟨Z, 0, none⟩ = some (.pointer (some ⟨X, 0, none⟩)) := (hb2w.cell (p := ⟨Z, 0, none⟩) (by simp; omega)).trans x0
  have x7 : w2.cell? ⟨X, 7, none⟩ = some (.slice la 0 lc) := (hb2w.cell (p := ⟨X, 7, none⟩) (by have := HB1.out.size; simp; omega)).trans x7
  have HW2 := Lib.hid hw2
  have HB2 := Lib.hid hb2w
  have HQ2 := Lib.hid q2
  rw [← HW2.out]
  clear hw2 hb2w q2 x1 hr1 HW1 HW2
  go_upto_region 5 with fail
  obtain ⟨w3, hw3⟩ : ∃ w3, w3 = w2.alloc (.cells #[.int .i64 0] 3) := ⟨_, rfl⟩
  have hb3w : Below w2.heap.size w2 w3 := by rw [hw3]; exact up_alloc _ _
  have hz3 : w3.heap.size = Z + 4 := by rw [hw3]; simp [hz2]
  have q3 : w3.heap[Z + 3]? = some (.cells #[.int .i64 0] 3) := by rw [hw3, ← hz2]; exact heap_alloc_new _ _
  rw [← hw3]
  obtain ⟨W, hW⟩ : ∃ W, W = w3.drew := ⟨_, rfl⟩
  have hbW : Below w3.heap.size w3 W := by rw [hW]; exact drew_below _ _
  have hbb : Below w.heap.size w W := by
    have := HZ.out
    exact ((HB1.out.trans (HB2.out.mono (by omega))).trans (hb3w.mono (by omega))).trans (hbW.mono (by omega))
  have HSW := Lib.hid (HS.out.up hbb)
  have HTW := Lib.hid (Tr.up (ex := OwnL) (G := G) hbb)
  have HVW := Lib.hid (HV.out.below hbb)
  obtain ⟨hlr, hlt⟩ : W.ownsRow 0 61 1 V.lv 0 [] ∧ ∀ k, V.lv.ownBlock = some k → G k = .lows := (Tr.up (ex := fun _ => False) (G := G) hbb).row HLR.out.1 HLR.out.2 (fun h => h)
  rw [HLV.out] at hlr
  have HLRW := Lib.hid hlr
  have eZ : W.heap[Z]? = some (.cells #[.pointer (some ⟨X, 0, none⟩)] 24) := (hbW.block _ (by omega)).trans ((hb3w.block _ (by omega)).trans ((HB2.out.block _ (by omega)).trans HQ.out.1))
  have e4 : W.heap[Z + 1]? = some (.cells #[.bool false] 4) := (hbW.block _ (by omega)).trans ((hb3w.block _ (by omega)).trans ((HB2.out.block _ (by omega)).trans HQ.out.2))
  have e5 : W.heap[Z + 2]? = some (.cells #[.int .i64 (l.length : Int)] 3) := (hbW.block _ (by omega)).trans ((hb3w.block _ (by omega)).trans HQ2.out)
  have e6 : W.heap[Z + 3]? = some (.cells #[.int .i64 0] 3) := (hbW.block _ (by omega)).trans q3
  have HE := Lib.hid (And.intro (And.intro eZ e4) (And.intro e5 e6))
  have hzW : W.heap.size = Z + 4 := by rw [hW]; exact hz3
  have hGo : ∀ k, Z ≤ k → G k = .out := fun k hk => HS.out.out k (by have := HZ.out; omega)
  have HGO := Lib.hid hGo
  have hS0 : BlkS W [Z, X] W := BlkS.refl _ _
  have HBZ : Hid (∀ b ∈ [Z, X], b < W.heap.size) := Lib.hid (by
    have h1 := HZ.out
    intro b hb; simp at hb; omega)
  have HCS : Hid (∀ x, BlkS W [Z, X] x → x.cell? ⟨Z, 0, none⟩ = some (.pointer (some ⟨X, 0, none⟩)) ∧ x.cell? ⟨X, 7, none⟩ = some (.slice la 0 lc)) := Lib.hid (by
    intro x hx
    refine ⟨hx.cell (by simp) (by simp only [World.cell?, eZ]; rfl), hx.cell (by simp) ?_⟩
    rw [← HLV.out]; exact HSW.out.blk.cells.2.2.2.2.2.2.2)
  have HNR : Hid (∀ b ∈ [Z, X], some b ≠ (Value.slice la 0 lc).ownBlock) := Lib.hid (by
    rw [← HLV.out]
    intro b hb e
    have e1 := hlt b e.symm
    simp at hb
    rcases hb with rfl | rfl
    · rw [hGo _ (Nat.le_refl _)] at e1; cases e1
    · rw [HSW.out.tag] at e1; cases e1)
  have HLT := Lib.hid hlt
  have HZW := Lib.hid hzW
  clear hw3 hb3w hz3 q3 hbW hbb hlr hlt eZ e4 e5 e6 hzW hGo x0 x7
  refine wp_region_noPanic (wp_region_TL (BlkS W [Z, X]) 9 (by kernel_rfl) ?_)
  rw [← hW]
  clear hW
  refine wpTL_take _ ?_ rfl (by kernel_rfl) (fun _ _ _ h => h) (by assumption) (Or.inl ⟨by rfl, fun x hx => ?_⟩) ?_
  rotate_left
  · obtain ⟨k0_, k1_⟩ := HCS.out x hx
    clear hx
    go_simp
    try with_reducible rfl
  simp only [Act.put, List.setIfInBounds_toArray, List.set_cons_zero, List.set_cons_succ]
  refine wpTL_take _ ?_ rfl (by kernel_rfl) (fun _ _ _ h => h) (by assumption) (Or.inl ⟨by rfl, fun x hx => ?_⟩) ?_
  rotate_left
  · obtain ⟨k0_, k1_⟩ := HCS.out x hx
    clear hx
    go_simp
    try with_reducible rfl
  simp only [Act.put, List.setIfInBounds_toArray, List.set_cons_zero, List.set_cons_succ]
  refine wpTL_take _ ?_ rfl (by kernel_rfl) (fun _ _ _ h => h) (by assumption) (Or.inl ⟨by rfl, fun x hx => ?_⟩) ?_
  rotate_left
  · obtain ⟨k0_, k1_⟩ := HCS.out x hx
    clear hx
    go_simp
    try with_reducible rfl
  simp only [Act.put, List.setIfInBounds_toArray, List.set_cons_zero, List.set_cons_succ]
  refine wpTL_take _ ?_ rfl (by kernel_rfl) (fun _ _ _ h => h) (by assumption) (Or.inl ⟨by rfl, fun x hx => ?_⟩) ?_
  rotate_left
  · obtain ⟨k0_, k1_⟩ := HCS.out x hx
    clear hx
    go_simp
    try with_reducible rfl
  simp only [Act.put, List.setIfInBounds_toArray, List.set_cons_zero, List.set_cons_succ]
  refine wpTL_take _ ?_ rfl (by kernel_rfl) (fun _ _ _ h => h) (by assumption) (Or.inl ⟨by rfl, fun x hx => ?_⟩) ?_
  rotate_left
  · obtain ⟨k0_, k1_⟩ := HCS.out x hx
    clear hx
    go_simp
    try with_reducible rfl
  simp only [Act.put, List.setIfInBounds_toArray, List.set_cons_zero, List.set_cons_succ]
  refine wpTL_one (by kernel_rfl) (fun K' hK' => ?_)
  go_simp
  refine hK' _ _ (fun _ => hS0.alloc HBZ.out _) ?_
  clear hK' K'
  have hS1 : BlkS W [Z, X] (W.alloc (.cells #[.pointer (some ⟨Z + 2, 0, none⟩)] 61)) := hS0.alloc HBZ.out _
  clear hS0
  refine wpTL_one (by kernel_rfl) (fun K' hK' => ?_)
  refine step_append_at _ (by rfl) _ _ 51 (by rfl) 0 61 i61 (.pointer none) 1 8 Try.underlying51 pi p0 p1 p2 rfl (by decide) (.slice la 0 lc) 0 [] (by rfl) (by exact HLRW.out.alloc _) ⟨W.heap.size, 0, none⟩ 1 1 [.pointer (some ⟨Z + 2, 0, none⟩)] (by rfl) (by rfl) (by exact cell_one_new _ _ _) (by intro x hx; simp at hx; subst hx; rfl) (by unfold maxLen; omega) (by omega) (Nat.zero_le _) ?_
  intro v' w4 hown9 hgrow9 _ hat9
  obtain ⟨g8, cc8, rfl⟩ := Joins.ownsRow_form hown9 (by omega)
  have hS9 : BlkS W [Z, X] w4 := hS1.grown HBZ.out hgrow9 HNR.out
  have HG9 := Lib.hid hgrow9
  have HO9 := Lib.hid hown9
  have HA9 := Lib.hid hat9
  clear hgrow9 hown9 hat9 hS1
  refine hK' _ _ (fun _ => hS9) ?_
  clear hK' K'
  refine wpTL_one (by kernel_rfl) (fun K' hK' => ?_)
  go_simp
  refine hK' _ _ (fun _ => hS9) ?_
  clear hK' K'
  refine wpTL_one (by kernel_rfl) (fun K' hK' => ?_)
  go_simp
  refine hK' _ _ (fun _ => hS9) ?_
  clear hK' K'
  have hw9 : w4.heap[X]? = W.heap[X]? := hS9 X (by simp)
  have hblk9 : Blk w4 X V := by unfold Blk; rw [hw9]; exact HSW.out.blk
  have y1 := hblk9.cells.2.2.2.2.2.2.2
  have y2 := hblk9.froz.2.2.2
  clear hw9 hblk9
  refine wpTL_one (by kernel_rfl) (fun K' hK' => ?_)
  go_simp
  refine hK' _ _ (fun h => absurd rfl h) ?_
  clear hK' K'
  refine wpTL_nil (by kernel_rfl) ?_
  refine NoPanic.normal ?_
  obtain ⟨G1, t1, hG1, hO1⟩ := app_tr (v := V.lv) (ρ := .lows) HLT.out (by rw [HLV.out]; exact HG9.out) HO9.out (by rw [HLV.out]; exact HA9.out) HSW.out.out
  have hs4 := HSW.out.tr t1 (fun r h1 h2 h3 => h2 h3) hO1
  obtain ⟨hs5, t5⟩ := hs4.lowsTo (.slice (some ⟨g8, 0, none⟩) (0 + 1) cc8)
  obtain ⟨w5, hw5⟩ : ∃ w5, w5 = w4.setCell ⟨X, 7, none⟩ (.slice (some ⟨g8, 0, none⟩) (0 + 1) cc8) := ⟨_, rfl⟩
  rw [← hw5] at hs5 t5
  have t15 : Tr OwnL G W G1 w5 := (t1.wide (fun r hr => by subst hr; exact ⟨by simp, by simp⟩)).trans (t5.wide (fun r hr => by subst hr; exact ⟨by simp, by simp⟩))
  have tw5 := HTW.out.trans t15
  have nx : ¬ OwnL .out := fun h => h.1 rfl
  have hGo := HGO.out
  obtain ⟨fZ, gZ⟩ := t15.cells_out HE.out.1.1 (hGo Z (Nat.le_refl _)) nx
  obtain ⟨f4, g4⟩ := t15.cells_out HE.out.1.2 (hGo (Z + 1) (by omega)) nx
  obtain ⟨f5, g5⟩ := t15.cells_out HE.out.2.1 (hGo (Z + 2) (by omega)) nx
  obtain ⟨f6, g6⟩ := t15.cells_out HE.out.2.2 (hGo (Z + 3) (by omega)) nx
  obtain ⟨fs1, _⟩ := tw5.cells_out HB.out.1.1 HB.out.2.1 nx
  obtain ⟨fp1, _⟩ := tw5.cells_out HB.out.1.2 HB.out.2.2 nx
  obtain ⟨lr5, lt5⟩ := t5.row HO9.out hG1 (by simp)
  have hv5 : RowsIn w5 All v rs := ((HV.out.sub (D' := fun k => k < w.heap.size ∧ G k = .out) (fun k hk hx => ⟨hk, hx⟩)).kp (tw5.kp.sub (fun k hk hx => fun hy => hy.1 hx.2))).all
  have HS5 := Lib.hid hs5
  have HT5 := Lib.hid tw5
  have HF := Lib.hid (And.intro (And.intro fZ gZ) (And.intro (And.intro f4 g4) (And.intro (And.intro f5 g5) (And.intro f6 g6))))
  have HBP := Lib.hid (And.intro fs1 fp1)
  have HLR5 := Lib.hid (And.intro lr5 lt5)
  have HV5 := Lib.hid hv5
  have HNX := Lib.hid nx
  rw [← hw5]
  clear hw5 hs5 t5 t15 tw5 nx hGo fZ gZ f4 g4 f5 g5 f6 g6 fs1 fp1 lr5 lt5 hv5 t1 hG1 hO1 hs4 y1 y2 hS9 HCS HBZ HNR
  go_wp2_with fail
  refine (clo_any w5 HS5.out HL.out HBP.out.1 HBP.out.2 HV5.out hok hrl hN).mono ?_
  rintro e w6 ⟨rfl, G6, f6, V6, hs6, hl6, hn6, hv6, t6⟩
  obtain ⟨e4, g4⟩ := t6.cells_out HF.out.2.1.1 HF.out.2.1.2 (fun h => h.1 rfl)
  have x4 : w6.cell? ⟨Z + 1, 0, none⟩ = some (.bool false) := by simp only [World.cell?, e4]; rfl
  have z4 : w6.frozen? ⟨Z + 1, 0, none⟩ = false := by simp only [World.frozen?, e4]; rfl
  have H6 := Lib.hid (And.intro hs6 (And.intro hl6 (And.intro hn6 hv6)))
  have T6 := Lib.hid t6
  have HE4 := Lib.hid (And.intro e4 g4)
  clear hs6 hl6 hn6 hv6 t6 e4 g4
  go_wp2
  refine leaves_cons (f := 21) (args := #[.pointer (some ⟨Z + 1, 0, none⟩), .pointer (some ⟨Z, 0, none⟩), .pointer (some ⟨Z + 3, 0, none⟩), .pointer (some ⟨Z + 2, 0, none⟩)]) (by simp) (by simp [go_sem]) ?_
  obtain ⟨w7, hw7⟩ : ∃ w7, w7 = w6.setCell ⟨Z + 1, 0, none⟩ (.bool false) := ⟨_, rfl⟩
  rw [← hw7]
  have t7 : Tr (fun r => r = .out) G6 w6 G6 w7 := by rw [hw7]; exact ⟨(Kp.refl _ w6).set (fun h => absurd HE4.out.2 h) _, fun _ _ => rfl⟩
  have hs7 := H6.out.1.tr t7 (fun r h1 _ h3 => h1 h3) (H6.out.1.out.up t7.kp.size)
  have k4 : w7.heap[Z + 1]? = some (.cells #[.bool false] 4) := by
    rw [hw7]
    have := HE4.out.1
    simp [World.setCell, Array.getElem?_modify, this]
  have kk : ∀ k, k ≠ Z + 1 → w7.heap[k]? = w6.heap[k]? := fun k hk => by rw [hw7]; exact Below.heap_setCell _ _ _ _ (fun e => hk e)
  obtain ⟨fZ, gZ⟩ := T6.out.cells_out HF.out.1.1 HF.out.1.2 (fun h => h.1 rfl)
  obtain ⟨f5, g5⟩ := T6.out.cells_out HF.out.2.2.1.1 HF.out.2.2.1.2 (fun h => h.1 rfl)
  obtain ⟨f6', g6⟩ := T6.out.cells_out HF.out.2.2.2.1 HF.out.2.2.2.2 (fun h => h.1 rfl)
  have hll : l.length ≤ (added A l rs).length := by
    unfold added
    split
    · exact (add_len l rs).1
    · exact Nat.le_refl _
  have htake : (added A l rs).take l.length = l := by
    unfold added
    split
    · exact add_pre l rs
    · exact List.take_length
  have hlow := HLR5.out.1
  have hcc : 1 ≤ cc8 ∧ cc8 ≤ 9223372036854775807 := by
    rcases hlow.2 with ⟨h1, _⟩ | ⟨g, cap, cur, h1, _, _, h2, h3, _⟩
    · cases h1
    · simp only [Value.slice.injEq] at h1
      obtain ⟨_, _, rfl⟩ := h1
      unfold maxLen at h3
      omega
  refine (left_any w7 (b4 := Z + 1) (bS := Z) (b5 := Z + 2) (b6 := Z + 3) (low := l.length) hs7 H6.out.2.1 H6.out.2.2.2 hcc k4 ((kk Z (by omega)).trans fZ) ((kk (Z + 2) (by omega)).trans f5) ((kk (Z + 3) (by omega)).trans f6') HE4.out.2 gZ g5 hll (Nat.le_trans H6.out.2.2.1 hN)).mono ?_
  rintro e u' w8 ⟨rfl, rfl, f8, V8, hs8, hl8, hn8, hv8, t8⟩
  rw [htake] at hs8 hl8
  obtain ⟨k48, _⟩ := t8.cells_out k4 HE4.out.2 (fun h => h.1 rfl)
  have x48 : w8.cell? ⟨Z + 1, 0, none⟩ = some (.bool false) := by simp only [World.cell?, k48]; rfl
  have tA : Tr OwnL G w G6 w7 := by
    have h1 := HT5.out.trans (T6.out.wide (fun r h => h.ownL))
    have h2 := h1.kp.set (p := ⟨Z + 1, 0, none⟩) (fun _ => by have := HZ.out; simp; omega) (.bool false)
    rw [← hw7] at h2
    exact ⟨h2, h1.agree⟩
  have hlr6 := T6.out.row HLR5.out.1 HLR5.out.2 (fun h => h.2.2 rfl)
  have hlr7 := t7.row hlr6.1 hlr6.2 (by simp)
  have hlr8 := t8.row hlr7.1 hlr7.2 (fun h => h.2.2 rfl)
  have hlp : LowsP w8 G6 V8.lv := by
    rw [hv8]
    refine ⟨_, _, rfl, ⟨rfl, ?_⟩, fun k hk => hlr8.2 k hk⟩
    rcases hlr8.1.2 with ⟨h1, _⟩ | ⟨g, cap, cur, h1, h2, h3, h4, h5, h6, h7⟩
    · cases h1
    · simp only [Value.slice.injEq, Option.some.injEq, Addr.mk.injEq] at h1
      obtain ⟨⟨rfl, _⟩, _, rfl⟩ := h1
      exact .inr ⟨g8, cc8, cur, rfl, h2, h3, Nat.zero_le _, h5, h6, by simp⟩
  have HFIN : Hid (TriedIs G X A l rs V w (.returned (.bool false)) w8) := Lib.hid ⟨rfl, G6, f8, V8, hs8, hl8, by rw [hn8]; exact H6.out.2.2.1, hlp, tA.trans (t8.wide (fun r h => h.ownL))⟩
  clear hs8 hl8 hn8 hv8 t8 tA hlr6 hlr7 hlr8 hlp k48
  refine ⟨_, ?_, HFIN.out⟩
  simp [results, Try.results13, go_sem, x48]
end Go.Proofs.Ytmkoejpdoeblkaa
