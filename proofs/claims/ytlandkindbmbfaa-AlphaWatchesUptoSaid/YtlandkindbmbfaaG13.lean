/-
  Texts of this seat, one behind the other: V2. Conditions: those that each of them states.
-/
import Derived.Test.YtlandkindbmbfaaG12
/-
  The walks of a watched net's Len, there, Rows and Undo, and what a row does to it: as of a net that nobody watches. Conditions: the numbers are ints, the lists within the form's own reach.
-/
namespace Go.Proofs.Ytlandkindbmbfaa.Wa
open Go.RowKit Plain
variable [Inhabited WVals]

section
variable {w : World} {G : Nat → Nat} {X n : Nat} {mv : Value} {ms : List Nat} {ss : List Shp} {ls : Nat → List Int}
theorem len_any (h : MNet w G X mv ms ss ls n) : Calls Try.prog 37 #[.pointer (some ⟨X, 0, none⟩)] w fun e w' => e = .returned (.int .i64 (n : Int)) ∧ w = w' := by
  have c1 := h.c1
  clear h
  go_enter Try.func37, Try.ntmps37
  go_wp2
  go_ret
  exact ⟨rfl, rfl⟩
theorem there_any (h : MNet w G X mv ms ss ls n) (m : Int) : Calls Try.prog 58 #[.pointer (some ⟨X, 0, none⟩), .int .i64 m] w fun e w' => e = .returned (.bool (thereB m ss.length)) ∧ w = w' := by
  have c0 := h.c0
  obtain ⟨a, c, rfl, _⟩ := h.form
  clear h
  by_cases h0 : 0 ≤ m
  · by_cases h1 : m < (ss.length : Int)
    · have HR := Lib.hid (show thereB m ss.length = true from decide_eq_true ⟨h0, h1⟩)
      go_enter Try.func58, Try.ntmps58
      go_wp2
      go_ret
      exact ⟨ret_bool HR.out.symm, rfl⟩
    · have HR := Lib.hid (show thereB m ss.length = false from decide_eq_false (fun h => h1 h.2))
      go_enter Try.func58, Try.ntmps58
      go_wp2
      go_ret
      exact ⟨ret_bool HR.out.symm, rfl⟩
  · have HR := Lib.hid (show thereB m ss.length = false from decide_eq_false (fun h => h0 h.1))
    go_enter Try.func58, Try.ntmps58
    go_wp2
    go_ret
    exact ⟨ret_bool HR.out.symm, rfl⟩
set_option maxRecDepth 100000 in
theorem rows_no (h : MNet w G X mv ms ss ls n) (m : Int) (hm : thereB m ss.length = false) : Calls Try.prog 48 #[.pointer (some ⟨X, 0, none⟩), .int .i64 m] w (TupIs [] 2 w) := by
  have HT := Lib.hid (there_any h m)
  rw [hm] at HT
  clear h hm
  go_enter Try.func48, Try.ntmps48
  go_wp2_with fail
  refine HT.out.mono ?_
  rintro e w' ⟨rfl, rfl⟩
  go_wp2
  go_ret2
  exact ⟨_, rfl, OwnInts.nil _ _, Below.refl _ _⟩
set_option maxRecDepth 100000 in
theorem rows_yes (h : MNet w G X mv ms ss ls n) {m : Nat} {l : List Int} (hm : m < ss.length) (hl : ls m = l) (hn : l.length ≤ 17592186044400) :
    Calls Try.prog 48 #[.pointer (some ⟨X, 0, none⟩), .int .i64 (m : Int)] w (TupIs l 0 w) := by
  obtain ⟨i3, qi, q0, q1, q2⟩ := info_parts Try.info3
  have HT := Lib.hid (there_any h (m : Int))
  have ht : thereB (m : Int) ss.length = true := decide_eq_true (by omega)
  rw [ht] at HT
  obtain ⟨b, hb⟩ : ∃ b, ms[m]? = some b := ⟨ms[m]'(by rw [h.mlen]; exact hm), List.getElem?_eq_getElem _⟩
  obtain ⟨a, c, rfl, hg⟩ := h.form
  obtain ⟨g, rfl⟩ := hg (fun e => by rw [e] at hm; simp at hm)
  have k0 := (h.alloc (.cells #[] 3)).c0
  have k1 := (h.alloc (.cells #[] 3)).ptr hb
  obtain ⟨fv, rv, _, r1, _, _, _, ro, _, _⟩ := ((h.alloc (.cells #[] 3)).mem m b ss[m] (List.getElem?_eq_getElem hm) hb).parts
  rw [hl] at ro
  have RO := Lib.hid ro
  clear h hb ht ro hg
  rcases Joins.ownsRow_forms RO.out with ⟨rfl, h0⟩ | ⟨gr, cap, rfl⟩
  · go_enter Try.func48, Try.ntmps48
    go_wp2_with fail
    refine HT.out.mono ?_
    rintro e w' ⟨rfl, rfl⟩
    obtain rfl := List.length_eq_zero_iff.1 h0
    go_wp2_with (at_builtin; refine wpList_append_own_none rfl _ _ 25 rfl w.heap.size 3 i3 1 Try.underlying25 qi (.slice (some ⟨w.heap.size, 0, none⟩) 0 0) 0 [] rfl (World.ownsRow_made w #[] 0 (Nat.le_refl _) (by decide) rfl) rfl ?_)
    go_ret2
    exact ⟨_, rfl, World.ownsRow_made w #[] 0 (Nat.le_refl _) (by decide) rfl, up_alloc _ _⟩
  · have HNW := Lib.hid (RO.out.at.news)
    go_enter Try.func48, Try.ntmps48
    go_wp2_with fail
    refine HT.out.mono ?_
    rintro e w' ⟨rfl, rfl⟩
    go_wp2_with (at_builtin; refine wpList_append_own _ rfl _ _ 25 rfl w.heap.size 3 i3 (.int .i64 0) 1 8 Try.underlying25 qi q0 q1 q2 rfl (by decide) (.slice (some ⟨w.heap.size, 0, none⟩) 0 0) 0 [] rfl (World.ownsRow_made w #[] 0 (Nat.le_refl _) (by decide) rfl) ⟨gr, 0, none⟩ l.length cap (lits l) rfl (by rw [lits_length, Nat.mul_one]) HNW.out (lits_one _) (by unfold maxLen; omega) (by omega) (by simp) ?_; intro v' w1 hown' hgrow _)
    go_ret2
    refine ⟨v', rfl, by unfold OwnInts; simpa only [Nat.zero_add, List.nil_append] using hown', ((Below.refl _ _).alloc (Nat.le_refl _) _).grown hgrow (by simp) (fun k hk => ?_)⟩
    simp [Value.ownBlock] at hk; omega
end

structure AddInv (w : World) (G : Nat → Nat) (X : Nat) (mv : Value) (ms : List Nat) (ss : List Shp) (p : Int) (row : List Int) (ls : Nat → List Int) (n i k : Nat) (o : Value) (G' : Nat → Nat) (wr : World) : Prop where
  net : MNet wr G' X mv ms ss (fun j => if j < i then addLs ss p row n ls j else ls j) (n + 1)
  tags : ∀ k, k < w.heap.size → G' k = G k
  turned : Turned G w wr
  own : OwnInts wr w.heap.size o (idx (fitF p row) (ss.take k))
  otag : ∀ k, o.ownBlock = some k → G' k = 0

section
variable {w wr w1 : World} {G G' : Nat → Nat} {X n i k b : Nat} {mv o o' rv rv' fv : Value} {ms : List Nat} {ss : List Shp} {p : Int} {row l : List Int} {ls : Nat → List Int} {s : Shp}
theorem AddInv.start (h : MNet w G X mv ms ss ls n) : AddInv w G X mv ms ss p row ls n 0 0 (.slice none 0 0) G (w.setCell ⟨X, 1, none⟩ (.int .i64 ((n : Int) + 1))) :=
  ⟨(h.count (n + 1)).congr (fun _ _ => rfl), fun _ _ => rfl, Turned.of_set (show 2 ≤ G X by rw [h.tag]; decide), OwnInts.nil _ _, fun k hk => by cases hk⟩
theorem AddInv.skip (h : AddInv w G X mv ms ss p row ls n i i o G' wr) (hs : ss[i]? = some s) (hf : fitF p row s = false) : AddInv w G X mv ms ss p row ls n (i + 1) (i + 1) o G' wr :=
  ⟨h.net.congr (fun j _ => by
    by_cases h1 : j < i
    · rw [if_pos h1, if_pos (by omega)]
    · rw [if_neg h1]
      by_cases h2 : j = i
      · subst h2; rw [if_pos (by omega), addLs_no hs hf]
      · rw [if_neg (by omega)]), h.tags, h.turned, by rw [idx_no hs hf]; exact h.own, h.otag⟩
/-- The memory number i has taken the row. -/
theorem AddInv.mid (h : AddInv w G X mv ms ss p row ls n i k o G' wr) (hs : ss[i]? = some s) (hm : ms[i]? = some b) (hrb : wr.heap[b]? = some (.cells #[fv, rv, wvOf i] 105 (0, 0))) (hfn : FnIs wr G' s fv)
    (rt : ∀ k, rv.ownBlock = some k → G' k = 2 * i + 4) (hl : l = ls i) {ob : Obj} (hown : w1.ownsRow 0 3 1 rv' (l.length + 1) (lits l ++ [.int .i64 (n : Int)])) (hg : (wr.alloc ob).grownBy w1 rv.ownBlock)
    (hat : rv'.ownBlock = rv.ownBlock ∨ rv'.ownBlock = some (wr.alloc ob).heap.size) (hf : fitF p row s = true) :
    ∃ G2, AddInv w G X mv ms ss p row ls n (i + 1) k o G2 (w1.setCell ⟨b, 1, none⟩ rv') := by
  have hsz : wr.heap.size < w1.heap.size := by have := hg.size; simp at this; omega
  have hblk : ∀ k, k < wr.heap.size → some k ≠ rv.ownBlock → w1.heap[k]? = wr.heap[k]? := fun k hk hne => (hg.block k (by simp; omega) hne).trans (Below.heap_alloc _ _ _ hk)
  have hnew : ∀ k, rv'.ownBlock = some k → G' k = 2 * i + 4 ∨ wr.heap.size ≤ k ∧ G' k = 0 ∧ k < w1.heap.size := by
    intro k hk
    rcases hat with e | e
    · left; exact rt k (by rw [← e]; exact hk)
    · right
      rw [e] at hk
      have hk2 : k = (wr.alloc ob).heap.size := (Option.some.inj hk).symm
      have hk3 : wr.heap.size ≤ k := by rw [hk2]; simp
      refine ⟨hk3, h.net.zero k hk3, ?_⟩
      exact (World.ownsRow.lt hown k (by rw [e, hk2])).2
  have gb : G' b = 2 * i + 3 := (h.net.mem i b s hs hm).1
  refine ⟨fun k => if rv'.ownBlock = some k then 2 * i + 4 else G' k, ?_, ?_, ?_, ?_, ?_⟩
  · have hp := h.net.put (w1 := w1) (G' := fun k => if rv'.ownBlock = some k then 2 * i + 4 else G' k) (rv' := rv') (l' := l ++ [(n : Int)]) hs hm hrb hfn (fun k h0 h1 => hblk k (h.net.lt h0) (fun e => h1 (rt k e.symm)))
      (fun k h0 => by
        show (if rv'.ownBlock = some k then 2 * i + 4 else G' k) = G' k
        split
        · rename_i e; rcases hnew k e with h2 | ⟨_, h2, _⟩
          · exact h2.symm
          · exact absurd h2 h0
        · rfl)
      (fun k hk => by
        show (if rv'.ownBlock = some k then 2 * i + 4 else G' k) = 0
        rw [if_neg (fun e => by have := (World.ownsRow.lt hown k e).2; omega)]
        exact h.net.zero k (by omega))
      (by unfold OwnInts; rw [lits_snoc, List.length_append, List.length_singleton]; exact hown) (fun k hk => if_pos hk)
    refine hp.congr (fun j _ => ?_)
    by_cases h1 : j = i
    · subst h1; rw [if_pos rfl, if_pos (by omega), addLs_yes hs hf, hl]
    · rw [if_neg h1]
      by_cases h2 : j < i
      · rw [if_pos h2, if_pos (by omega)]
      · rw [if_neg h2, if_neg (by omega)]
  · intro k hk
    show (if rv'.ownBlock = some k then 2 * i + 4 else G' k) = G k
    have hk2 : k < wr.heap.size := Nat.lt_of_lt_of_le hk h.turned.size
    split
    · rename_i e
      rcases hnew k e with h2 | ⟨h2, _⟩
      · rw [← h2]; exact h.tags k hk
      · omega
    · exact h.tags k hk
  · have t1 : Turned G' wr w1 := ⟨hg.os, hg.tape, hg.output, by omega, fun k hk hk2 => hblk k hk (fun e => by have := rt k e.symm; omega)⟩
    have t2 : Turned G' w1 (w1.setCell ⟨b, 1, none⟩ rv') := Turned.of_set (show 2 ≤ G' b by omega)
    exact h.turned.trans (t1.trans t2 (fun _ _ => rfl)) h.tags
  · refine row_keep h.own (fun k hk => ?_)
    have h0 := h.otag k hk
    have hlt := (World.ownsRow.lt h.own k hk).2
    rw [Below.heap_setCell _ _ _ _ (fun e => by rw [e] at h0; simp only at h0; omega)]
    exact hblk k hlt (fun e => by have := rt k e.symm; omega)
  · intro k hk
    have h0 := h.otag k hk
    have hlt := (World.ownsRow.lt h.own k hk).2
    show (if rv'.ownBlock = some k then 2 * i + 4 else G' k) = 0
    rw [if_neg (fun e => by rcases hnew k e with h2 | ⟨h2, _⟩ <;> omega)]
    exact h0
/-- .. and its number is told. -/
theorem AddInv.tell (h : AddInv w G X mv ms ss p row ls n (i + 1) i o G' wr) (hs : ss[i]? = some s) (hf : fitF p row s = true) {ob : Obj} {t : List Int} (ht : t = idx (fitF p row) (ss.take i))
    (hown : w1.ownsRow w.heap.size 3 1 o' (t.length + 1) (lits t ++ [.int .i64 (i : Int)])) (hg : (wr.alloc ob).grownBy w1 o.ownBlock)
    (hat : o'.ownBlock = o.ownBlock ∨ o'.ownBlock = some (wr.alloc ob).heap.size) : AddInv w G X mv ms ss p row ls n (i + 1) (i + 1) o' G' w1 := by
  have hsz : wr.heap.size < w1.heap.size := by have := hg.size; simp at this; omega
  have hblk : ∀ k, k < wr.heap.size → some k ≠ o.ownBlock → w1.heap[k]? = wr.heap[k]? := fun k hk hne => (hg.block k (by simp; omega) hne).trans (Below.heap_alloc _ _ _ hk)
  refine ⟨h.net.keep (by omega) (fun k hk => hblk k (h.net.lt hk) (fun e => hk (h.otag k e.symm))), h.tags, ?_, ?_, ?_⟩
  · have ht := h.turned
    exact ⟨hg.os.trans ht.os, hg.tape.trans ht.tape, hg.output.trans ht.output, by have := ht.size; omega, fun k hk hk2 =>
      (hblk k (Nat.lt_of_lt_of_le hk ht.size) (fun e => by have := (World.ownsRow.lt h.own k e.symm).1; omega)).trans (ht.block k hk hk2)⟩
  · rw [idx_yes hs hf, ← ht]
    unfold OwnInts; rw [lits_snoc, List.length_append, List.length_singleton]; exact hown
  · intro k hk
    rcases hat with e | e
    · exact h.otag k (by rw [← e]; exact hk)
    · rw [e] at hk
      have hk2 : k = (wr.alloc ob).heap.size := (Option.some.inj hk).symm
      exact h.net.zero k (by rw [hk2]; simp)
end

section
variable {w : World} {G : Nat → Nat} {X n : Nat} {mv : Value} {ms : List Nat} {ss : List Shp} {ls : Nat → List Int}
theorem undo_no (h : MNet w G X mv ms ss ls n) (m : Int) (hm : m < 0 ∨ (n : Int) < m) : Calls Try.prog 46 #[.pointer (some ⟨X, 0, none⟩), .int .i64 m] w fun e w' => e = .returned (.int .i64 2) ∧ w = w' := by
  have c1 := h.c1
  clear h
  by_cases h0 : m < 0
  · clear hm
    go_enter Try.func46, Try.ntmps46
    go_wp2
    go_ret
    exact ⟨rfl, rfl⟩
  · have h1 : (n : Int) < m := by omega
    clear hm
    go_enter Try.func46, Try.ntmps46
    go_wp2
    go_ret
    exact ⟨rfl, rfl⟩
/-- The last row of a memory goes. -/
theorem pop_put {A T : Nat → List Int} {i b r K gr cr m n2 : Nat} {s : Shp} {l : List Int} {fv : Value} {x : Int} (h : MNet w G X mv ms ss (undoIn A T ls i r) n2) (hi : ss[i]? = some s) (hm : ms[i]? = some b)
    (hrb : w.heap[b]? = some (.cells #[fv, .slice (some ⟨gr, 0, none⟩) l.length cr, wvOf i] 105 (0, 0))) (hf : FnIs w G s fv) (ho : OwnInts w 0 (.slice (some ⟨gr, 0, none⟩) l.length cr) l)
    (ht : ∀ k, (Value.slice (some ⟨gr, 0, none⟩) l.length cr).ownBlock = some k → G k = 2 * i + 4) (hl : l = A i ++ (T i).take r) (hx : x = at' l K) (hK : l.length = K + 1) (h2 : (m : Int) ≤ x) (hA : ∀ x ∈ A i, x < (m : Int)) (hr : r ≤ (T i).length) :
    ∃ r', r' ≤ (T i).length ∧ ∀ u : World, u.heap = w.heap → MNet (u.setCell ⟨b, 1, none⟩ (.slice (some ⟨gr, 0, none⟩) K cr)) G X mv ms ss (undoIn A T ls i r') n2 := by
  match r with
  | 0 =>
    exfalso
    rw [List.take_zero, List.append_nil] at hl
    have := hA _ (at_mem (l := A i) (k := K) (by rw [← hl]; omega))
    rw [← hl, ← hx] at this
    omega
  | r + 1 =>
    refine ⟨r, by omega, fun u hu => ?_⟩
    have e1 : l = (A i ++ (T i).take r) ++ [at' (T i) r] := by
      rw [hl, List.append_assoc, List.take_add_one]
      unfold at'
      rw [List.getElem?_eq_getElem (show r < (T i).length by omega)]; rfl
    have e2 : (A i ++ (T i).take r).length = K := by
      have := congrArg List.length e1
      rw [List.length_append, List.length_singleton] at this
      omega
    have ho2 : w.ownsRow 0 3 1 (.slice (some ⟨gr, 0, none⟩) (K + 1) cr) (K + 1) (lits (A i ++ (T i).take r) ++ [.int .i64 (at' (T i) r)]) := by
      have := ho
      unfold OwnInts at this
      rw [hK] at this
      rw [← lits_snoc, ← e1]; exact this
    have ho3 := prefix_own ho2 (by rw [lits_length, e2, Nat.mul_one])
    have hp := h.put (w1 := u) (G' := G) (rv' := .slice (some ⟨gr, 0, none⟩) K cr) (l' := A i ++ (T i).take r) hi hm hrb hf (fun k _ _ => by rw [hu]) (fun k _ => rfl) (fun k hk => h.zero k (by rw [← hu]; exact hk))
      (by unfold OwnInts; rw [e2]; exact row_keep ho3 (fun k _ => by rw [hu])) (fun k hk => ht k hk)
    refine hp.congr (fun j _ => ?_)
    unfold undoIn
    by_cases hj : j = i
    · subst hj; rw [if_pos rfl, if_neg (by omega), if_pos rfl]
    · rw [if_neg hj]
      split
      · rfl
      · rfl
set_option maxRecDepth 100000 in
set_option maxHeartbeats 3200000 in
theorem undo_yes (h : MNet w G X mv ms ss ls n) {m : Nat} (hm : m ≤ n) (hss : ss.length ≤ 4398046510976) (A T : Nat → List Int) (hl : ∀ i, i < ss.length → ls i = A i ++ T i)
    (hA : ∀ i, i < ss.length → ∀ x ∈ A i, x < (m : Int)) (hT : ∀ i, i < ss.length → ∀ x ∈ T i, (m : Int) ≤ x) (hb : ∀ i, i < ss.length → (ls i).length ≤ 17592186044400) :
    Calls Try.prog 46 #[.pointer (some ⟨X, 0, none⟩), .int .i64 (m : Int)] w fun e w' => e = .returned (.int .i64 0) ∧ MNet w' G X mv ms ss A m ∧ Turned G w w' := by
  have c1 := h.c1
  have f1 := h.f1
  have h0 := Lib.hid (h.count m)
  have ht := Lib.hid (Turned.of_set (w := w) (G := G) (a := ⟨X, 1, none⟩) (u := .int .i64 (m : Int)) (show 2 ≤ G X by rw [h.tag]; decide))
  obtain ⟨a, c, rfl, hg⟩ := h.form
  have HG := Lib.hid hg
  have HL := hl
  have HA := Lib.hid hA
  have HT := Lib.hid hT
  have HB := Lib.hid hb
  have c0 := h0.out.c0
  clear h hg hA hT hb
  have hd1 : decide (n < m) = false := decide_eq_false (by omega)
  have hd2 : decide ((m : Int) < 0) = false := decide_eq_false (by omega)
  go_enter Try.func46, Try.ntmps46
  go_wp2
  generalize w.setCell ⟨X, 1, none⟩ (.int .i64 (m : Int)) = w0 at h0 ht c0 ⊢
  clear c1 f1 c0
  go_loopw [28] (fun k wr => ∃ i : Nat, k = .int .i64 (i : Int) ∧ i ≤ ss.length ∧ Hid (MNet wr G X (.slice a ss.length c) ms ss (undoLs A ls i) m) ∧ Hid (Turned G w wr)) (fun k _ => ss.length - (intOf k).toNat)
  case atStart => exact ⟨0, rfl, Nat.zero_le _, (h0.out.congr (fun i _ => by simp [undoLs])), ht.out⟩
  case round =>
    obtain ⟨i, rfl, hil, hM, hR⟩ := hrel
    by_cases h1 : i < ss.length
    · obtain ⟨g, rfl⟩ := HG.out (fun e => by rw [e] at h1; simp at h1)
      obtain ⟨b, hb⟩ : ∃ b, ms[i]? = some b := ⟨ms[i]'(by rw [hM.out.mlen]; exact h1), List.getElem?_eq_getElem _⟩
      obtain ⟨s, hs⟩ : ∃ s, ss[i]? = some s := ⟨ss[i]'h1, List.getElem?_eq_getElem h1⟩
      have k1 := hM.out.ptr hb
      have HSI := Lib.hid hs
      have HBI := Lib.hid hb
      have hsplit := HL i h1
      clear hs hb
      go_wp2
      go_loopw [] (fun wr => ∃ r : Nat, r ≤ (T i).length ∧ Hid (MNet wr G X (.slice (some ⟨g, 0, none⟩) ss.length c) ms ss (undoIn A T ls i r) m) ∧ Hid (Turned G w wr)) (fun wr => lenAt wr b)
      case atStart =>
        refine ⟨(T i).length, Nat.le_refl _, hM.out.congr (fun j hj => ?_), hR.out⟩
        unfold undoIn undoLs
        split
        · rfl
        · split
          · rename_i e; subst e; rw [List.take_length, hsplit]
          · rfl
      case round =>
        obtain ⟨r, hr, hM2, hR2⟩ := hrel
        have hmem := hM2.out.mem i b s HSI.out HBI.out
        rw [show undoIn A T ls i r i = A i ++ (T i).take r by simp [undoIn]] at hmem
        obtain ⟨l, hl⟩ : ∃ l, l = A i ++ (T i).take r := ⟨_, rfl⟩
        rw [← hl] at hmem
        obtain ⟨fv, rv, _, r1, _, f1, FN, ro, rt, rb, _⟩ := hmem.parts
        have RO := Lib.hid ro
        have RB := Lib.hid rb
        have RT := Lib.hid rt
        have HLL := Lib.hid hl
        clear ro rb rt hl hmem
        have hexit : A i ++ (T i).take r = A i → MNet wr G X (.slice (some ⟨g, 0, none⟩) ss.length c) ms ss (undoLs A ls (i + 1)) m := fun e => hM2.out.congr (fun j hj => by
          unfold undoIn undoLs
          split
          · rw [if_pos (by omega)]
          · split
            · rename_i e2; subst e2; rw [if_pos (by omega), e]
            · rw [if_neg (by omega)])
        have HX := Lib.hid hexit
        clear hexit
        by_cases h0 : l.length = 0
        · obtain ⟨ar, cr, rfl, _⟩ := RO.out.at
          have HN := Lib.hid (HX.out (by
            have : l = [] := List.length_eq_zero_iff.1 h0
            rw [HLL.out] at this
            have h2 := List.append_eq_nil_iff.1 this
            rw [h2.1, h2.2]; rfl))
          rw [h0] at r1
          go_wp2_with fail
          go_quiet (fail)
          generalize hW : wr.drewN _ = w2
          have H2 := Lib.hid (show MNet w2 G X (.slice (some ⟨g, 0, none⟩) ss.length c) ms ss (undoLs A ls (i + 1)) m by rw [← hW]; exact HN.out.same (by simp))
          have T2 := Lib.hid (show Turned G w w2 by rw [← hW]; exact hR2.out.same rfl rfl rfl rfl)
          clear hW r1 f1
          go_wp2
          go_roundw
          case rel => exact ⟨i + 1, by go_num, by omega, H2.out, T2.out⟩
          case measure => simp only [intOf]; omega
        · obtain ⟨K, hK⟩ : ∃ K, l.length = K + 1 := ⟨l.length - 1, by omega⟩
          obtain ⟨gr, cr, rfl⟩ := Joins.ownsRow_form RO.out (by omega)
          obtain ⟨x, hx⟩ : ∃ x, x = at' l K := ⟨_, rfl⟩
          have cx : wr.cell? ⟨gr, K, none⟩ = some (.int .i64 x) := by
            have := OwnInts.cell RO.out (j := K) (by omega)
            rw [Nat.zero_add] at this
            rw [this, hx]
          have hlb : l.length ≤ 17592186044400 := by
            rw [HLL.out]
            have := HB.out i h1
            rw [hsplit, List.length_append] at this
            rw [List.length_append, List.length_take]; omega
          have hcr : (K : Int) ≤ (cr : Int) := by
            rcases RO.out.2 with ⟨e, _⟩ | ⟨g', cap', cur, e, _, _, hle, _⟩
            · cases e
            · simp only [Value.slice.injEq] at e
              obtain ⟨_, _, rfl⟩ := e
              omega
          rw [hK] at r1 hlb
          have HXX := Lib.hid hx
          have HKK := Lib.hid hK
          clear hx hK h0
          by_cases h2 : x < (m : Int)
          · have HN := Lib.hid (HX.out (by
              match r with
              | 0 => simp
              | r + 1 =>
                exfalso
                have e1 : l.length = (A i).length + (r + 1) := by rw [HLL.out, List.length_append, List.length_take]; omega
                have e2 : K = (A i).length + r := by have := HKK.out; omega
                have e3 : x = at' (T i) r := by rw [HXX.out, HLL.out, e2]; exact at_append_take
                have := HT.out i h1 _ (at_mem (show r < (T i).length by omega))
                omega))
            have hd : decide ((m : Int) ≤ x) = false := decide_eq_false (by omega)
            clear HX
            go_wp2_with fail
            go_quiet (fail)
            generalize hW : wr.drewN _ = w2
            have H2 := Lib.hid (show MNet w2 G X (.slice (some ⟨g, 0, none⟩) ss.length c) ms ss (undoLs A ls (i + 1)) m by rw [← hW]; exact HN.out.same (by simp))
            have T2 := Lib.hid (show Turned G w w2 by rw [← hW]; exact hR2.out.same rfl rfl rfl rfl)
            clear hW r1 f1 cx
            go_wp2
            go_roundw
            case rel => exact ⟨i + 1, by go_num, by omega, H2.out, T2.out⟩
            case measure => simp only [intOf]; omega
          · have hd : decide ((m : Int) ≤ x) = true := decide_eq_true (by omega)
            go_wp2_with fail
            go_quiet (fail)
            generalize hW : wr.drewN _ = w2
            have H2 := Lib.hid (show MNet w2 G X (.slice (some ⟨g, 0, none⟩) ss.length c) ms ss (undoIn A T ls i r) m by rw [← hW]; exact hM2.out.same (by simp))
            have T2 := Lib.hid (show Turned G w w2 by rw [← hW]; exact hR2.out.same rfl rfl rfl rfl)
            have HH := Lib.hid (show w2.heap = wr.heap by rw [← hW]; rfl)
            have HW2 := Lib.hid (pop_put H2.out HSI.out HBI.out (by rw [HH.out]; exact RB.out) (FN.keep (G' := G) (fun k hk => ⟨by rw [HH.out], hk⟩)) (show OwnInts w2 0 _ l from row_keep RO.out (fun k _ => by rw [HH.out])) RT.out HLL.out HXX.out HKK.out h2 (HA.out i h1) hr)
            have L1 := Lib.hid (show lenAt wr b = K + 1 by unfold lenAt; rw [r1])
            have L2 := Lib.hid (fun (u : World) (e : u.heap = w2.heap) => (show lenAt (u.setCell ⟨b, 1, none⟩ (.slice (some ⟨gr, 0, none⟩) K cr)) b = K from lenAt_set (by rw [e, HH.out]; exact RB.out)))
            have T3 := Lib.hid (fun (u : World) (hu : Turned G w u) => (show Turned G w (u.setCell ⟨b, 1, none⟩ (.slice (some ⟨gr, 0, none⟩) K cr)) from hu.trans (G' := G) (Turned.of_set (a := ⟨b, 1, none⟩) (show 2 ≤ G b by rw [(H2.out.mem i b s HSI.out HBI.out).1]; omega)) (fun _ _ => rfl)))
            have r2 : w2.cell? ⟨b, 1, none⟩ = some (.slice (some ⟨gr, 0, none⟩) (K + 1) cr) := by rw [← hW]; exact r1
            have f2 : w2.frozen? ⟨b, 1, none⟩ = false := by rw [← hW]; exact f1
            clear hW r1 f1 cx
            go_wp2_with fail
            go_region
            go_roundw
            case rel =>
              obtain ⟨r', hr', hN⟩ := HW2.out
              (repeat apply Exists.intro)
              exact ⟨⟨r', hr', (hN w2 rfl).same rfl, (T3.out w2 T2.out).same rfl rfl rfl rfl⟩, rfl⟩
            case measure =>
              rw [L1.out]
              exact Nat.lt_of_le_of_lt (Nat.le_of_eq (L2.out w2 rfl)) (Nat.lt_succ_self _)
    · have e : i = ss.length := by omega
      subst e
      go_wp2
      go_ret
      exact ⟨rfl, hM.out.congr (fun j hj => by simp [undoLs, hj]), hR.out⟩
end

end Go.Proofs.Ytlandkindbmbfaa.Wa
