/-
  The walk of edictlaw10.alone: lists that lie in blocks of their own do not touch each other: it returns true. Conditions: the lists are within the form's own reach.
-/
import Derived.Test.YtlandkindbmbfaaK17
namespace Go.Proofs.Ytlandkindbmbfaa
open Go.RowKit Plain
attribute [local go_sem ↓] Go.wp_at_zero Go.wp_at_succ

def Shorts (ls : List (List Int)) : Prop := ∀ (j : Nat) (l : List Int), ls[j]? = some l → l.length ≤ 17592186044000
theorem Shorts.set {ls : List (List Int)} {k i : Nat} {l : List Int} {x : Int} (h : Shorts ls) (hl : ls[k]? = some l) : Shorts (ls.set k (l.set i x)) := fun j m hm => by
  have hkl : k < ls.length := (List.getElem?_eq_some_iff.1 hl).1
  by_cases e : j = k
  · subst e; rw [List.getElem?_set_self hkl] at hm; obtain rfl := Option.some.inj hm; rw [List.length_set]; exact h j l hl
  · rw [List.getElem?_set_ne (fun e2 => e e2.symm)] at hm; exact h j m hm

/-- The lists in the middle of the first loop. -/
structure Mid (w : World) (B : Nat) (T : Nat → Nat) (v : Value) (vs : List Value) (n k i : Nat) (ls : List (List Int)) (wr : World) : Prop where
  lss : Lss wr B T v vs ls
  turned : Turned (fun b => T b + 1) w wr
  mks : MkTo ls k i
  len : ls.length = n
  short : Shorts ls

/-- The lists in the middle of the second loop: the first k have been grown. -/
structure Grow (w : World) (B : Nat) (T0 : Nat → Nat) (v : Value) (vs : List Value) (ls : List (List Int)) (B2 k : Nat) (q : Value) (us : List Value) (T : Nat → Nat) (wr : World) : Prop where
  lss : Lss wr B T v vs ls
  tags : ∀ b, b < w.heap.size → T b = T0 b
  turned : Turned (fun b => T0 b + 1) w wr
  row : wr.ownsRow B2 25 1 q k us
  ulen : us.length = k
  more : ∀ (j : Nat) (u : Value) (l : List Int), us[j]? = some u → ls[j]? = some l → OwnInts wr B u (l ++ [mark j]) ∧ ∀ b, u.ownBlock = some b → T b = j + 1
  vlt : ∀ b, v.ownBlock = some b → b < B2
  bge : w.heap.size ≤ B2
  wge : B2 ≤ wr.heap.size

theorem Grow.push {w wr w2 w3 : World} {B : Nat} {T0 T : Nat → Nat} {v q u u' q' : Value} {vs us : List Value} {ls : List (List Int)} {l : List Int} {B2 k : Nat} {o1 o2 : Obj} (h : Grow w B T0 v vs ls B2 k q us T wr) (hu : vs[k]? = some u) (hl : ls[k]? = some l)
    (h1 : OwnInts w2 B u' (l ++ [mark k])) (h2 : OwnInts w2 B u l) (hg : (wr.alloc o1).grownBy w2 u.ownBlock) (hat : u'.ownBlock = u.ownBlock ∨ ∀ b, u'.ownBlock = some b → (wr.alloc o1).heap.size ≤ b)
    (hown : w3.ownsRow B2 25 1 q' (k + 1) (us ++ [u'])) (hg2 : (w2.alloc o2).grownBy w3 q.ownBlock) : ∃ T', Grow w B T0 v vs ls B2 (k + 1) q' (us ++ [u']) T' w3 := by
  have hsa : (wr.alloc o1).heap.size = wr.heap.size + 1 := by simp
  have hsb : (w2.alloc o2).heap.size = w2.heap.size + 1 := by simp
  have hz1 := hg.size
  have hz2 := hg2.size
  have huk : ∀ b, u.ownBlock = some b → b < wr.heap.size ∧ T b = k + 1 := fun b hb => by
    obtain ⟨e1, e2⟩ := h.lss.ints k u l hu hl
    exact ⟨(World.ownsRow.lt e1 b hb).2, e2 b hb⟩
  have hqk : ∀ b, q.ownBlock = some b → B2 ≤ b ∧ b < wr.heap.size := fun b hb => World.ownsRow.lt h.row b hb
  have hub : OwnInts wr B u l := (h.lss.ints k u l hu hl).1
  have huq : ∀ b, u.ownBlock = some b → q.ownBlock ≠ some b := fun b hb e => by
    rcases types_apart hub h.row (by decide) with h3 | h3
    · rw [h3] at hb; cases hb
    · exact h3 (hb.trans e.symm)
  have k2 : ∀ b, b < wr.heap.size → u.ownBlock ≠ some b → w2.heap[b]? = wr.heap[b]? := fun b hb hne => (hg.block b (by omega) (fun e => hne e.symm)).trans (Below.heap_alloc _ _ _ hb)
  have k3 : ∀ b, b < w2.heap.size → q.ownBlock ≠ some b → w3.heap[b]? = w2.heap[b]? := fun b hb hne => (hg2.block b (by omega) (fun e => hne e.symm)).trans (Below.heap_alloc _ _ _ hb)
  have k23 : ∀ b, b < wr.heap.size → u.ownBlock ≠ some b → q.ownBlock ≠ some b → w3.heap[b]? = wr.heap[b]? := fun b hb n1 n2 => (k3 b (by omega) n2).trans (k2 b hb n1)
  have hT' : ∀ b, b < wr.heap.size → (fun b => if wr.heap.size ≤ b then k + 1 else T b) b = T b := fun b hb => if_neg (by omega)
  have hoth : ∀ (j : Nat) (x : Value) (m : List Int), j ≠ k → OwnInts wr B x m → (∀ b, x.ownBlock = some b → T b = j + 1) → OwnInts w3 B x m ∧ ∀ b, x.ownBlock = some b → (if wr.heap.size ≤ b then k + 1 else T b) = j + 1 := by
    intro j x m hj hx hxT
    refine ⟨row_keep hx (fun b hb => ?_), fun b hb => ?_⟩
    · refine k23 b (World.ownsRow.lt hx b hb).2 (fun e => ?_) (fun e => ?_)
      · have e1 := hxT b hb; have e2 := (huk b e).2; omega
      · rcases types_apart hx h.row (by decide) with h3 | h3
        · rw [h3] at hb; cases hb
        · exact h3 (hb.trans e.symm)
    · rw [if_neg (by have := (World.ownsRow.lt hx b hb).2; omega)]; exact hxT b hb
  refine ⟨fun b => if wr.heap.size ≤ b then k + 1 else T b, ⟨?_, h.lss.len, fun j x m e1 e2 => ?_⟩, fun b hb => ?_, ?_, hown, by simp [h.ulen], fun j x m e1 e2 => ?_, h.vlt, h.bge, by have := h.wge; omega⟩
  · refine row_keep h.lss.row (fun b hb => k23 b (World.ownsRow.lt h.lss.row b hb).2 (fun e => ?_) (fun e => ?_))
    · rcases types_apart hub h.lss.row (by decide) with h3 | h3
      · rw [h3] at e; cases e
      · exact h3 (e.trans hb.symm)
    · have := h.vlt b hb; have := (hqk b e).1; omega
  · by_cases hj : j = k
    · subst hj
      rw [hu] at e1; rw [hl] at e2
      obtain rfl := Option.some.inj e1
      obtain rfl := Option.some.inj e2
      refine ⟨row_keep h2 (fun b hb => k3 b (World.ownsRow.lt h2 b hb).2 (huq b hb)), fun b hb => ?_⟩
      show (if wr.heap.size ≤ b then j + 1 else T b) = j + 1
      rw [if_neg (by have := (huk b hb).1; omega)]; exact (huk b hb).2
    · obtain ⟨e3, e4⟩ := h.lss.ints j x m e1 e2
      exact hoth j x m hj e3 e4
  · show (if wr.heap.size ≤ b then k + 1 else T b) = T0 b
    have := h.turned.size
    rw [if_neg (by omega)]; exact h.tags b hb
  · have ht := h.turned
    refine ⟨(hg2.os.trans hg.os).trans ht.os, (hg2.tape.trans hg.tape).trans ht.tape, (hg2.output.trans hg.output).trans ht.output, by have := ht.size; omega, fun b hb hbT => (k23 b (Nat.lt_of_lt_of_le hb ht.size) (fun e => ?_) (fun e => ?_)).trans (ht.block b hb hbT)⟩
    · have e1 := (huk b e).2; have e2 := h.tags b hb; omega
    · have := (hqk b e).1; have := h.bge; omega
  · have hj : j < (us ++ [u']).length := (List.getElem?_eq_some_iff.1 e1).1
    rw [List.length_append, List.length_singleton, h.ulen] at hj
    by_cases e : j < k
    · rw [List.getElem?_append_left (by rw [h.ulen]; exact e)] at e1
      obtain ⟨e3, e4⟩ := h.more j x m e1 e2
      exact hoth j x _ (by omega) e3 e4
    · obtain rfl : j = k := by omega
      have e3 : (us ++ [u'])[j]? = some u' := by rw [← h.ulen]; simp
      rw [e3] at e1; rw [hl] at e2
      obtain rfl := Option.some.inj e1
      obtain rfl := Option.some.inj e2
      refine ⟨row_keep h1 (fun b hb => k3 b (World.ownsRow.lt h1 b hb).2 ?_), fun b hb => ?_⟩
      · rcases hat with h3 | h3
        · rw [h3] at hb; exact huq b hb
        · intro e4; have := h3 b hb; have := (hqk b e4).2; omega
      · show (if wr.heap.size ≤ b then j + 1 else T b) = j + 1
        rcases hat with h3 | h3
        · rw [h3] at hb; rw [if_neg (by have := (huk b hb).1; omega)]; exact (huk b hb).2
        · rw [if_pos (by have := h3 b hb; omega)]

theorem Grow.rowAt {w wr w2 : World} {B : Nat} {T0 T : Nat → Nat} {v q u : Value} {vs us : List Value} {ls : List (List Int)} {l : List Int} {B2 k : Nat} {o1 : Obj} (h : Grow w B T0 v vs ls B2 k q us T wr) (hu : vs[k]? = some u) (hl : ls[k]? = some l)
    (hg : (wr.alloc o1).grownBy w2 u.ownBlock) : w2.ownsRow B2 25 1 q k us := by
  refine row_keep h.row (fun b hb => (hg.block b (by have := (World.ownsRow.lt h.row b hb).2; simp; omega) (fun e => ?_)).trans (Below.heap_alloc _ _ _ (World.ownsRow.lt h.row b hb).2))
  rcases types_apart (h.lss.ints k u l hu hl).1 h.row (by decide) with h3 | h3
  · rw [h3] at e; cases e
  · exact h3 (e.symm.trans hb.symm)

theorem Try.info25 : (Try.prog.info? 25).map (fun i => (i.zero, i.size, i.bytes)) = some (some (.slice none 0 0), 1, 24) := by kernel_rfl
theorem one_list {a : Option Addr} {n c : Nat} : ∀ x ∈ [Value.slice a n c], x.oneCell' = true := by intro x hx; simp at hx; subst hx; rfl

set_option maxRecDepth 100000 in
set_option maxHeartbeats 6400000 in
theorem alone_any (w : World) (B : Nat) (T : Nat → Nat) (v : Value) (vs : List Value) (ls : List (List Int)) (h : Lss w B T v vs ls) (hB : B ≤ w.heap.size) (hn : ls.length ≤ 1000) (hs : Shorts ls) :
    Calls Try.prog 50 #[v] w fun e w' => e = .returned (.bool true) ∧ Turned (fun b => T b + 1) w w' := by
  obtain ⟨i3, qi, q0, q1, q2⟩ := info_parts Try.info3
  obtain ⟨a, c, rfl, ha⟩ := h.form
  have HA := Lib.hid ha
  obtain ⟨N, hN⟩ : ∃ N, N = ls.length := ⟨_, rfl⟩
  rw [← hN] at hn
  have M0 : Hid (Mid w B T (.slice a N c) vs N 0 0 ls w) := ⟨by rw [hN]; exact h, Turned.refl _ _, MkTo.start _, hN.symm, hs⟩
  have HNE : Hid (0 < N → ∃ g, a = some ⟨g, 0, none⟩) := fun h0 => HA.out (fun e => by rw [e] at hN; simp at hN; omega)
  rw [← hN]
  clear h ha hs HA hN
  go_enter Try.func50, Try.ntmps50
  go_wp2
  go_loopw [3] (fun k wr => ∃ (i : Nat) (ls : List (List Int)), k = .int .i64 (i : Int) ∧ i ≤ N ∧ Hid (Mid w B T (.slice a N c) vs N i 0 ls wr)) (fun k _ => N - (intOf k).toNat)
  case atStart => exact ⟨0, ls, rfl, Nat.zero_le _, M0⟩
  case round =>
    obtain ⟨k, ls, rfl, hkN, HM⟩ := hrel
    by_cases h1 : k < N
    · obtain ⟨g, rfl⟩ := HNE.out (by omega)
      obtain ⟨l, hl⟩ : ∃ l, ls[k]? = some l := ⟨ls[k]'(by rw [HM.out.len]; exact h1), List.getElem?_eq_getElem _⟩
      obtain ⟨u, hu, hou, _⟩ := HM.out.lss.get hl
      obtain ⟨au, cu, rfl⟩ := own_len hou
      obtain ⟨n, hn2⟩ : ∃ n, n = l.length := ⟨_, rfl⟩
      rw [← hn2] at hu
      have hnb : n ≤ 17592186044000 := by rw [hn2]; exact HM.out.short k l hl
      have HU := Lib.hid hu
      have k0 : (0 : Int) ≤ (k : Int) := Int.natCast_nonneg _
      have k1 : (k : Int) < (N : Int) := by omega
      have HHL := Lib.hid (And.intro hl hn2.symm)
      clear hl hou hu hn2
      go_wp2
      go_loopw [4] (fun q wr => ∃ (i : Nat) (ls : List (List Int)) (l : List Int), q = .int .i64 (i : Int) ∧ i ≤ n ∧ Hid (ls[k]? = some l ∧ l.length = n) ∧ Hid (Mid w B T (.slice (some ⟨g, 0, none⟩) N c) vs N k i ls wr)) (fun q _ => n - (intOf q).toNat)
      case atStart => exact ⟨0, ls, l, rfl, Nat.zero_le _, HHL, HM⟩
      case round =>
        obtain ⟨i, ls, l, rfl, hin, HL, HM⟩ := hrel
        have c0 := HM.out.lss.cell HU.out
        by_cases h2 : i < n
        · have hil : i < l.length := by rw [HL.out.2]; exact h2
          obtain ⟨hown, _⟩ := HM.out.lss.ints k _ l HU.out HL.out.1
          obtain ⟨gu, c2, hg2⟩ := Joins.ownsRow_form hown (by omega)
          simp only [Value.slice.injEq] at hg2
          obtain ⟨rfl, e3, rfl⟩ := hg2
          have hown2 := hown
          rw [e3] at hown2
          have hc := OwnInts.cell hown2 hil
          rw [Nat.zero_add] at hc
          have hf := World.ownsRow.frozenAt hown2 i
          have HMN : Hid (Mid w B T (.slice (some ⟨g, 0, none⟩) N c) vs N k (i + 1) (ls.set k (l.set i (mark k))) (wr.setCell ⟨gu, i, none⟩ (.int .i64 (mark k)))) := by
            have hst := HM.out.lss.store (i := i) HU.out HL.out.1 (mark k)
            exact ⟨hst.1, HM.out.turned.trans hst.2 (fun _ _ => rfl), HM.out.mks.round HL.out.1 hil, by rw [List.length_set]; exact HM.out.len, HM.out.short.set HL.out.1⟩
          have HL2 : Hid ((ls.set k (l.set i (mark k)))[k]? = some (l.set i (mark k)) ∧ (l.set i (mark k)).length = n) :=
            ⟨List.getElem?_set_self (List.getElem?_eq_some_iff.1 HL.out.1).1, by rw [List.length_set]; exact HL.out.2⟩
          clear hown hown2 e3
          go_wp2
          go_roundw
          case rel => exact ⟨i + 1, _, _, by go_num, by omega, HL2, HMN⟩
          case measure => simp only [intOf]; omega
        · have e : i = l.length := by rw [HL.out.2]; omega
          have HMN : Hid (Mid w B T (.slice (some ⟨g, 0, none⟩) N c) vs N (k + 1) 0 ls wr) := ⟨HM.out.lss, HM.out.turned, MkTo.next (by have := HM.out.mks; rw [e] at this; exact this) HL.out.1, HM.out.len, HM.out.short⟩
          clear e
          go_wp2
          go_roundw
          case rel => exact ⟨k + 1, ls, by go_num, by omega, HMN⟩
          case measure => simp only [intOf]; omega
    · have e : k = N := by omega
      have HLN := Lib.hid HM.out.len
      have HSH := Lib.hid HM.out.short
      have HMK : Hid (MkTo ls ls.length 0) := by have := HM.out.mks; rw [e, ← HM.out.len] at this; exact this
      have G0 : Hid (Grow w B T (.slice a N c) vs ls wr.heap.size 0 (.slice none 0 0) [] T wr) :=
        ⟨HM.out.lss, fun _ _ => rfl, HM.out.turned, World.ownsRow_nil _ _ _ _, rfl, fun j u l e => by simp at e, fun b hb => (World.ownsRow.lt HM.out.lss.row b hb).2, HM.out.turned.size, Nat.le_refl _⟩
      obtain ⟨B2, hB2⟩ : ∃ B2, B2 = wr.heap.size := ⟨_, rfl⟩
      rw [← hB2] at G0
      obtain ⟨i25, pi, p0, p1, p2⟩ := info_parts Try.info25
      clear HM e hB2
      go_wp2
      go_loopw [5, 6] (fun q k wr => ∃ (o : Value) (i : Nat) (us : List Value) (T' : Nat → Nat), o = q ∧ k = .int .i64 (i : Int) ∧ i ≤ N ∧ Hid (Grow w B T (.slice a N c) vs ls B2 i o us T' wr)) (fun _ k _ => N - (intOf k).toNat)
      case atStart => exact ⟨_, 0, [], T, rfl, rfl, Nat.zero_le _, G0⟩
      case round =>
        obtain ⟨q, i, us, T', rfl, rfl, hiN, HG⟩ := hrel
        by_cases h2 : i < N
        · obtain ⟨g, rfl⟩ := HNE.out (by omega)
          obtain ⟨l, hl⟩ : ∃ l, ls[i]? = some l := ⟨ls[i]'(by rw [HLN.out]; exact h2), List.getElem?_eq_getElem _⟩
          obtain ⟨u, hu, hou, _⟩ := HG.out.lss.get hl
          obtain ⟨au, cu, rfl⟩ := own_len hou
          have hls := HSH.out i l hl
          have HUI := Lib.hid (And.intro hu hl)
          have HOU := Lib.hid hou
          have c0 := HG.out.lss.cell hu
          have c0a : (wr.alloc (.cells #[.int .i64 (mark i)] 3)).cell? ⟨g, i, none⟩ = some (.slice au l.length cu) := (HG.out.lss.up (up_alloc _ _)).cell hu
          have hBw : B ≤ wr.heap.size := Nat.le_trans hB HG.out.turned.size
          have hB2w := HG.out.wge
          have i0 : (0 : Int) ≤ (i : Int) := Int.natCast_nonneg _
          have i1 : (i : Int) < (N : Int) := by omega
          clear hl hu hou
          go_wp2_with (first
            | ((fail_if_success (have hchk := HIN)); at_builtin; refine wpList_append_both _ rfl _ _ rfl B (.slice au l.length cu) l (mark i) rfl (World.ownsRow.alloc HOU.out (.cells #[.int .i64 (mark i)] 3)) ⟨wr.heap.size, 0, none⟩ 1 rfl (cell_one_new _ _ _) (by omega) (by simp; omega) ?_; intro u' w2 hn1 hn2 hg1 hat1; obtain ⟨gu, cu2, rfl⟩ := Joins.ownsRow_form hn1 (by simp); have HIN := Lib.hid (And.intro hn1 (And.intro hn2 (And.intro hg1 hat1))))
            | (at_builtin; refine wpList_append_own _ rfl _ _ 85 rfl B2 25 i25 (.slice none 0 0) 1 24 Try.underlying85 pi p0 p1 p2 rfl (by decide) q i us rfl (World.ownsRow.alloc (HG.out.rowAt HUI.out.1 HUI.out.2 HIN.out.2.2.1) (.cells #[.slice (some ⟨gu, 0, none⟩) (l.length + 1) cu2] 25)) ⟨w2.heap.size, 0, none⟩ 1 1 [.slice (some ⟨gu, 0, none⟩) (l.length + 1) cu2] rfl rfl (cell_one_new _ _ _) one_list (by unfold maxLen; omega) (by omega) (by have := HIN.out.2.2.1.size; simp at this ⊢; omega) ?_; intro q' w3 hown hg2 hnl2))
          obtain ⟨T2, HN⟩ := HG.out.push (u' := .slice (some ⟨gu, 0, none⟩) (l.length + 1) cu2) HUI.out.1 HUI.out.2 (by have := HIN.out.1; rw [List.length_append, List.length_singleton] at this; exact this) HIN.out.2.1 HIN.out.2.2.1 HIN.out.2.2.2 hown hg2
          have HN2 := Lib.hid HN
          clear HN hown hg2 hnl2
          go_roundw
          case rel => exact ⟨_, i + 1, _, T2, rfl, by go_num, by omega, HN2⟩
          case measure => simp only [intOf]; omega
        · have HG2 : Hid (Grow w B T (.slice a N c) vs ls B2 N q us T' wr) := by
            have e : i = N := by omega
            have := HG.out
            rw [e] at this; exact this
          obtain ⟨aq, cq, rfl, hq⟩ : ∃ aq cq, q = .slice aq N cq ∧ (0 < N → ∃ g, aq = some ⟨g, 0, none⟩) := by
            rcases Joins.ownsRow_forms HG2.out.row with ⟨h3, h0⟩ | ⟨g, cap, h3⟩
            · exact ⟨none, 0, by rw [h3, h0], fun hp => by omega⟩
            · exact ⟨some ⟨g, 0, none⟩, cap, h3, fun _ => ⟨g, rfl⟩⟩
          have HQ := Lib.hid hq
          clear hq HG
          go_wp2
          go_loop [7] (fun k => ∃ i : Nat, k = .int .i64 (i : Int) ∧ i ≤ N) (fun k => N - (intOf k).toNat)
          case atStart => exact ⟨0, rfl, Nat.zero_le _⟩
          case round =>
            obtain ⟨k, rfl, hkN⟩ := hrel
            by_cases h3 : k < N
            · obtain ⟨g, rfl⟩ := HNE.out (by omega)
              obtain ⟨gq, rfl⟩ := HQ.out (by omega)
              obtain ⟨l, hl⟩ : ∃ l, ls[k]? = some l := ⟨ls[k]'(by rw [HLN.out]; exact h3), List.getElem?_eq_getElem _⟩
              obtain ⟨u, hu, hou, _⟩ := HG2.out.lss.get hl
              obtain ⟨au, cu, rfl⟩ := own_len hou
              have hls := HSH.out k l hl
              have hul : us[k]? = some (us[k]'(by rw [HG2.out.ulen]; exact h3)) := List.getElem?_eq_getElem _
              obtain ⟨hou2, _⟩ := HG2.out.more k _ l hul hl
              obtain ⟨u2, hu2⟩ : ∃ u2, u2 = us[k]'(by rw [HG2.out.ulen]; exact h3) := ⟨_, rfl⟩
              rw [← hu2] at hul hou2
              obtain ⟨gu2, cu2, rfl⟩ := Joins.ownsRow_form hou2 (by simp)
              have c0 := HG2.out.lss.cell hu
              have c1 : wr.cell? ⟨gq, k, none⟩ = some (.slice (some ⟨gu2, 0, none⟩) (l.length + 1) cu2) := by
                have := World.ownsRow.cellAt HG2.out.row k (by omega)
                rw [hul, List.length_append, List.length_singleton] at this
                exact this
              have HO1 := Lib.hid hou
              have HO2 := Lib.hid hou2
              have HLL := Lib.hid hl
              have k0 : (0 : Int) ≤ (k : Int) := Int.natCast_nonneg _
              have k1 : (k : Int) < (N : Int) := by omega
              clear hl hu hou hul hou2 hu2
              go_wp2
              go_loop [8] (fun q => ∃ i : Nat, q = .int .i64 (i : Int) ∧ i ≤ l.length + 1) (fun q => l.length + 1 - (intOf q).toNat)
              case atStart => exact ⟨0, rfl, Nat.zero_le _⟩
              case round =>
                obtain ⟨i, rfl, hil⟩ := hrel
                by_cases h4 : i < l.length + 1
                · have c2 : wr.cell? ⟨gu2, i, none⟩ = some (.int .i64 (-100 - (k : Int))) := by
                    have h5 := HO2.out
                    have h6 := OwnInts.cell (j := i) h5 (by rw [List.length_append, List.length_singleton]; exact h4)
                    rw [Nat.zero_add] at h6
                    rw [h6]
                    by_cases h7 : i < l.length
                    · rw [at_push_old h7, HMK.out.full HLL.out h7]; rfl
                    · have e : i = l.length := by omega
                      rw [e, at_push_new]; rfl
                  have hnn : ((-100 - (k : Int)) != (-100 - (k : Int))) = false := by simp
                  by_cases h5 : i < l.length
                  · obtain ⟨gu, c3, hg2⟩ := Joins.ownsRow_form HO1.out (by omega)
                    simp only [Value.slice.injEq] at hg2
                    obtain ⟨rfl, _, rfl⟩ := hg2
                    have c4 : wr.cell? ⟨gu, i, none⟩ = some (.int .i64 (-100 - (k : Int))) := by
                      have h6 := OwnInts.cell (j := i) HO1.out h5
                      rw [Nat.zero_add] at h6
                      rw [h6, HMK.out.full HLL.out h5]; rfl
                    have hd : decide (i < l.length) = true := decide_eq_true h5
                    go_wp2
                    go_round
                    case rel => exact ⟨i + 1, by go_num, by omega⟩
                    case measure => simp only [intOf]; omega
                  · have hd : decide (i < l.length) = false := decide_eq_false h5
                    go_wp2
                    go_round
                    case rel => exact ⟨i + 1, by go_num, by omega⟩
                    case measure => simp only [intOf]; omega
                · go_wp2
                  go_round
                  case rel => exact ⟨k + 1, by go_num, by omega⟩
                  case measure => simp only [intOf]; omega
            · go_wp2
              go_ret
              exact ⟨rfl, HG2.out.turned⟩

end Go.Proofs.Ytlandkindbmbfaa
