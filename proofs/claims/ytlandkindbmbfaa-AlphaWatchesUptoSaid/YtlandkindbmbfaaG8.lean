/-
  Texts of this seat, one behind the other: W19, K8, W21, Plain7, Plain10, K9. Conditions: those that each of them states.
-/
import Derived.Test.YtlandkindbmbfaaG7
import Derived.Test.YtlandkindbmbfaaG6
/-
  The walks of a net's Len, there and Rows, and of the look for a number below zero: they turn nothing, and answer as the plain law says. Conditions: the numbers are ints, the lists within the form's own reach.
-/
namespace Go.Proofs.Ytlandkindbmbfaa
open Go.RowKit Plain

section
variable {w : World} {G : Nat → Nat} {X n : Nat} {mv : Value} {ms : List Nat} {ss : List Shp} {ls : Nat → List Int}

theorem len_any (h : MNet w G X mv ms ss ls n) : Calls Try.prog 37 #[.pointer (some ⟨X, 0, none⟩)] w fun e w' => e = .returned (.int .i64 (n : Int)) ∧ w = w' := by
  have c1 := h.c1
  clear h
  go_enter Try.func37, Try.ntmps37
  go_wp2
  go_ret
  exact ⟨rfl, rfl⟩

def thereB (m : Int) (k : Nat) : Bool := decide (0 ≤ m ∧ m < (k : Int))
theorem there_any (h : MNet w G X mv ms ss ls n) (m : Int) : Calls Try.prog 58 #[.pointer (some ⟨X, 0, none⟩), .int .i64 m] w fun e w' => e = .returned (.bool (thereB m ss.length)) ∧ w = w' := by
  have c0 := h.c0
  obtain ⟨a, c, rfl, _⟩ := h.form
  clear h
  by_cases h0 : 0 ≤ m
  · by_cases h1 : m < (ss.length : Int)
    · have HR := Lib.hid (show thereB m ss.length = true from decide_eq_true ⟨h0, h1⟩)
      go_enter Try.func58, Try.ntmps58
      go_wp2
      go_ret
      exact ⟨ret_bool HR.out.symm, rfl⟩
    · have HR := Lib.hid (show thereB m ss.length = false from decide_eq_false (fun h => h1 h.2))
      go_enter Try.func58, Try.ntmps58
      go_wp2
      go_ret
      exact ⟨ret_bool HR.out.symm, rfl⟩
  · have HR := Lib.hid (show thereB m ss.length = false from decide_eq_false (fun h => h0 h.1))
    go_enter Try.func58, Try.ntmps58
    go_wp2
    go_ret
    exact ⟨ret_bool HR.out.symm, rfl⟩

theorem neg_any (x : Int) (w : World) : Calls Try.prog 60 #[.int .i64 x] w fun e w' => e = .returned (.bool (decide (x < 0))) ∧ w = w' := by
  go_enter Try.func60, Try.ntmps60
  go_wp2
  go_ret
  exact ⟨rfl, rfl⟩
end

/-- Is there a number below zero? -/
def negB (l : List Int) : Bool := l.any fun x => decide (x < 0)
def NotNegTo (l : List Int) (k : Nat) : Prop := ∀ j, j < k → 0 ≤ at' l j
theorem NotNegTo.start (l : List Int) : NotNegTo l 0 := fun j h => by omega
theorem NotNegTo.round {l : List Int} {k : Nat} (h : NotNegTo l k) (hk : 0 ≤ at' l k) : NotNegTo l (k + 1) := fun j hj => by
  by_cases e : j = k
  · subst e; exact hk
  · exact h j (by omega)
theorem negB_no {l : List Int} (h : NotNegTo l l.length) : negB l = false := by
  unfold negB
  rw [Bool.eq_false_iff]
  intro e
  obtain ⟨x, hx, hx2⟩ := List.any_eq_true.1 e
  obtain ⟨j, hj, rfl⟩ := List.getElem_of_mem hx
  have := h j hj
  unfold at' at this
  rw [List.getElem?_eq_getElem hj] at this
  simp at hx2 this
  omega
theorem negB_yes {l : List Int} {i : Nat} (hi : i < l.length) (h : at' l i < 0) : negB l = true := by
  unfold negB
  refine List.any_eq_true.2 ⟨l[i], List.getElem_mem hi, ?_⟩
  unfold at' at h
  rw [List.getElem?_eq_getElem hi] at h
  simpa using h

def NegIs (l : List Int) (w : World) (e : Ending) (w' : World) : Prop := ∃ k : Int, e = .returned (.int .i64 k) ∧ decide (0 ≤ k) = negB l ∧ -1 ≤ k ∧ k ≤ 9223372036854775807 ∧ w = w'

set_option maxRecDepth 100000 in
set_option maxHeartbeats 1600000 in
theorem indexNeg_any (l : List Int) (v : Value) (w : World) (hv : IntsAt w w.heap.size v l) (hl : l.length ≤ 35184372088832) :
    Calls Try.prog 68 #[v, .func (.func 60) #[] #[]] w (NegIs l w) := by
  obtain ⟨a, ca, rfl, ha⟩ := hv
  have HA := Lib.hid ha
  clear ha
  go_enter Try.func68, Try.ntmps68
  go_wp2
  go_loop [8] (fun k => ∃ i : Nat, k = .int .i64 (i : Int) ∧ i ≤ l.length ∧ Hid (NotNegTo l i)) (fun k => l.length - (intOf k).toNat)
  case atStart => exact ⟨0, rfl, Nat.zero_le _, NotNegTo.start _⟩
  case round =>
    obtain ⟨i, rfl, hil, hE⟩ := hrel
    by_cases h1 : i < l.length
    · obtain ⟨g, off, rfl, hg, hc⟩ := HA.out.resolve_left (fun e => by rw [e] at h1; simp at h1)
      obtain ⟨x, hx⟩ : ∃ x, x = at' l i := ⟨_, rfl⟩
      have c0 : w.cell? ⟨g, off + i, none⟩ = some (.int .i64 x) := by rw [hx]; exact hc i h1
      have HX := Lib.hid hx
      clear hc hx hg
      go_wp2_with fail
      refine (neg_any x w).mono ?_
      rintro e w' ⟨rfl, rfl⟩
      by_cases h2 : x < 0
      · have HR := Lib.hid (negB_yes h1 (by rw [← HX.out]; exact h2))
        have hd : decide (x < 0) = true := decide_eq_true h2
        clear hE
        go_wp2
        go_ret
        exact ⟨(i : Int), rfl, by rw [HR.out]; simp, by omega, by omega, rfl⟩
      · have HE := Lib.hid (hE.out.round (by rw [← HX.out]; omega))
        have hd : decide (x < 0) = false := decide_eq_false h2
        clear hE
        go_wp2
        go_round
        case rel => exact ⟨i + 1, by go_num, by omega, HE.out⟩
        case measure => simp only [intOf]; omega
    · have e : i = l.length := by omega
      have HR := Lib.hid (negB_no (by rw [← e]; exact hE.out))
      clear e hE
      go_wp2
      go_ret
      exact ⟨-1, rfl, by rw [HR.out]; rfl, by omega, by omega, rfl⟩

set_option maxRecDepth 100000 in
theorem containsNeg_any (l : List Int) (v : Value) (w : World) (hv : IntsAt w w.heap.size v l) (hl : l.length ≤ 35184372088832) :
    Calls Try.prog 59 #[v, .func (.func 60) #[] #[]] w fun e w' => e = .returned (.bool (negB l)) ∧ w = w' := by
  have HC := Lib.hid (indexNeg_any l v w hv hl)
  obtain ⟨a, ca, rfl, _⟩ := hv
  go_enter Try.func59, Try.ntmps59
  go_wp2_with fail
  refine HC.out.mono ?_
  rintro e w1 ⟨k, rfl, hk, h1, h2, rfl⟩
  have HK := Lib.hid hk
  clear hk HC
  by_cases h0 : 0 ≤ k
  · have HR := Lib.hid (show negB l = true by rw [← HK.out]; exact decide_eq_true h0)
    go_wp2
    go_ret
    exact ⟨ret_bool (by rw [HR.out]), rfl⟩
  · have HR := Lib.hid (show negB l = decide (0 ≤ k) from HK.out.symm)
    go_wp2
    go_ret
    exact ⟨ret_bool (by rw [HR.out]), rfl⟩

/-- What Add and Rows answer: a list and an error's number. -/
def TupIs (l : List Int) (x : Int) (w : World) (e : Ending) (w' : World) : Prop := ∃ v, e = .returned (.tuple #[v, .int .i64 x]) ∧ OwnInts w' w.heap.size v l ∧ Below w.heap.size w w'

section
variable {w : World} {G : Nat → Nat} {X n : Nat} {mv : Value} {ms : List Nat} {ss : List Shp} {ls : Nat → List Int}
set_option maxRecDepth 100000 in
theorem rows_no (h : MNet w G X mv ms ss ls n) (m : Int) (hm : thereB m ss.length = false) : Calls Try.prog 48 #[.pointer (some ⟨X, 0, none⟩), .int .i64 m] w (TupIs [] 2 w) := by
  have HT := Lib.hid (there_any h m)
  rw [hm] at HT
  clear h hm
  go_enter Try.func48, Try.ntmps48
  go_wp2_with fail
  refine HT.out.mono ?_
  rintro e w' ⟨rfl, rfl⟩
  go_wp2
  go_ret2
  exact ⟨_, rfl, OwnInts.nil _ _, Below.refl _ _⟩

set_option maxRecDepth 100000 in
theorem rows_yes (h : MNet w G X mv ms ss ls n) {m : Nat} {l : List Int} (hm : m < ss.length) (hl : ls m = l) (hn : l.length ≤ 17592186044400) :
    Calls Try.prog 48 #[.pointer (some ⟨X, 0, none⟩), .int .i64 (m : Int)] w (TupIs l 0 w) := by
  obtain ⟨i3, qi, q0, q1, q2⟩ := info_parts Try.info3
  have HT := Lib.hid (there_any h (m : Int))
  have ht : thereB (m : Int) ss.length = true := decide_eq_true (by omega)
  rw [ht] at HT
  obtain ⟨b, hb⟩ : ∃ b, ms[m]? = some b := ⟨ms[m]'(by rw [h.mlen]; exact hm), List.getElem?_eq_getElem _⟩
  obtain ⟨a, c, rfl, hg⟩ := h.form
  obtain ⟨g, rfl⟩ := hg (fun e => by rw [e] at hm; simp at hm)
  have k0 := (h.alloc (.cells #[] 3)).c0
  have k1 := (h.alloc (.cells #[] 3)).ptr hb
  obtain ⟨fv, rv, _, r1, _, _, _, ro, _, _⟩ := ((h.alloc (.cells #[] 3)).mem m b ss[m] (List.getElem?_eq_getElem hm) hb).parts
  rw [hl] at ro
  have RO := Lib.hid ro
  clear h hb ht ro hg
  rcases Joins.ownsRow_forms RO.out with ⟨rfl, h0⟩ | ⟨gr, cap, rfl⟩
  · go_enter Try.func48, Try.ntmps48
    go_wp2_with fail
    refine HT.out.mono ?_
    rintro e w' ⟨rfl, rfl⟩
    obtain rfl := List.length_eq_zero_iff.1 h0
    go_wp2_with (at_builtin; refine wpList_append_own_none rfl _ _ 25 rfl w.heap.size 3 i3 1 Try.underlying25 qi (.slice (some ⟨w.heap.size, 0, none⟩) 0 0) 0 [] rfl (World.ownsRow_made w #[] 0 (Nat.le_refl _) (by decide) rfl) rfl ?_)
    go_ret2
    exact ⟨_, rfl, World.ownsRow_made w #[] 0 (Nat.le_refl _) (by decide) rfl, up_alloc _ _⟩
  · have HNW := Lib.hid (RO.out.at.news)
    go_enter Try.func48, Try.ntmps48
    go_wp2_with fail
    refine HT.out.mono ?_
    rintro e w' ⟨rfl, rfl⟩
    go_wp2_with (at_builtin; refine wpList_append_own _ rfl _ _ 25 rfl w.heap.size 3 i3 (.int .i64 0) 1 8 Try.underlying25 qi q0 q1 q2 rfl (by decide) (.slice (some ⟨w.heap.size, 0, none⟩) 0 0) 0 [] rfl (World.ownsRow_made w #[] 0 (Nat.le_refl _) (by decide) rfl) ⟨gr, 0, none⟩ l.length cap (lits l) rfl (by rw [lits_length, Nat.mul_one]) HNW.out (lits_one _) (by unfold maxLen; omega) (by omega) (by simp) ?_; intro v' w1 hown' hgrow _)
    go_ret2
    refine ⟨v', rfl, by unfold OwnInts; simpa only [Nat.zero_add, List.nil_append] using hown', ((Below.refl _ _).alloc (Nat.le_refl _) _).grown hgrow (by simp) (fun k hk => ?_)⟩
    simp [Value.ownBlock] at hk; omega
end

end Go.Proofs.Ytlandkindbmbfaa
/-
  A net that takes a row, in the middle of the call: which memories took it so far, and what was told so far. No condition beyond those that each lemma states.
-/
namespace Go.Proofs.Ytlandkindbmbfaa
open Go.RowKit Plain

def fitF (p : Int) (row : List Int) (s : Shp) : Bool := fitsB s p row
/-- The memories behind a row with the number n. -/
def addLs (ss : List Shp) (p : Int) (row : List Int) (n : Nat) (ls : Nat → List Int) : Nat → List Int := fun j =>
  match ss[j]? with
  | some s => if fitF p row s = true then ls j ++ [(n : Int)] else ls j
  | none => ls j
theorem addLs_yes {ss : List Shp} {p : Int} {row : List Int} {n : Nat} {ls : Nat → List Int} {j : Nat} {s : Shp} (h : ss[j]? = some s) (hf : fitF p row s = true) : addLs ss p row n ls j = ls j ++ [(n : Int)] := by
  unfold addLs; rw [h]; simp [hf]
theorem addLs_no {ss : List Shp} {p : Int} {row : List Int} {n : Nat} {ls : Nat → List Int} {j : Nat} {s : Shp} (h : ss[j]? = some s) (hf : fitF p row s = false) : addLs ss p row n ls j = ls j := by
  unfold addLs; rw [h]; simp [hf]

theorem IntsAt.turned {w w' : World} {G : Nat → Nat} {u : Value} {l : List Int} (h : IntsAt w w.heap.size u l) (ht : Turned G w w') (hu : l ≠ [] → ∀ k, u.ownBlock = some k → G k < 2) : IntsAt w' w'.heap.size u l := by
  obtain ⟨a, cap, rfl, h⟩ := h
  refine ⟨a, cap, rfl, ?_⟩
  by_cases hl : l = []
  · exact .inl hl
  · obtain ⟨g, off, rfl, hg, hc⟩ := h.resolve_left hl
    exact .inr ⟨g, off, rfl, Nat.lt_of_lt_of_le hg ht.size, fun j hj => (World.cell?_of_block (ht.block g hg (hu hl g rfl))).trans (hc j hj)⟩

structure AddInv (w : World) (G : Nat → Nat) (X : Nat) (mv : Value) (ms : List Nat) (ss : List Shp) (p : Int) (row : List Int) (ls : Nat → List Int) (n i k : Nat) (o : Value) (G' : Nat → Nat) (wr : World) : Prop where
  net : MNet wr G' X mv ms ss (fun j => if j < i then addLs ss p row n ls j else ls j) (n + 1)
  tags : ∀ k, k < w.heap.size → G' k = G k
  turned : Turned G w wr
  own : OwnInts wr w.heap.size o (idx (fitF p row) (ss.take k))
  otag : ∀ k, o.ownBlock = some k → G' k = 0

section
variable {w wr w1 : World} {G G' : Nat → Nat} {X n i k b : Nat} {mv o o' rv rv' fv : Value} {ms : List Nat} {ss : List Shp} {p : Int} {row l : List Int} {ls : Nat → List Int} {s : Shp}

theorem AddInv.start (h : MNet w G X mv ms ss ls n) : AddInv w G X mv ms ss p row ls n 0 0 (.slice none 0 0) G (w.setCell ⟨X, 1, none⟩ (.int .i64 ((n : Int) + 1))) :=
  ⟨(h.count (n + 1)).congr (fun _ _ => rfl), fun _ _ => rfl, Turned.of_set (show 2 ≤ G X by rw [h.tag]; decide), OwnInts.nil _ _, fun k hk => by cases hk⟩
theorem AddInv.skip (h : AddInv w G X mv ms ss p row ls n i i o G' wr) (hs : ss[i]? = some s) (hf : fitF p row s = false) : AddInv w G X mv ms ss p row ls n (i + 1) (i + 1) o G' wr :=
  ⟨h.net.congr (fun j _ => by
    by_cases h1 : j < i
    · rw [if_pos h1, if_pos (by omega)]
    · rw [if_neg h1]
      by_cases h2 : j = i
      · subst h2; rw [if_pos (by omega), addLs_no hs hf]
      · rw [if_neg (by omega)]), h.tags, h.turned, by rw [idx_no hs hf]; exact h.own, h.otag⟩

/-- The memory number i has taken the row. -/
theorem AddInv.mid (h : AddInv w G X mv ms ss p row ls n i k o G' wr) (hs : ss[i]? = some s) (hm : ms[i]? = some b) (hrb : wr.heap[b]? = some (.cells #[fv, rv, .slice none 0 0] 105 (0, 0))) (hfn : FnIs wr G' s fv)
    (rt : ∀ k, rv.ownBlock = some k → G' k = 2 * i + 4) (hl : l = ls i) {ob : Obj} (hown : w1.ownsRow 0 3 1 rv' (l.length + 1) (lits l ++ [.int .i64 (n : Int)])) (hg : (wr.alloc ob).grownBy w1 rv.ownBlock)
    (hat : rv'.ownBlock = rv.ownBlock ∨ rv'.ownBlock = some (wr.alloc ob).heap.size) (hf : fitF p row s = true) :
    ∃ G2, AddInv w G X mv ms ss p row ls n (i + 1) k o G2 (w1.setCell ⟨b, 1, none⟩ rv') := by
  have hsz : wr.heap.size < w1.heap.size := by have := hg.size; simp at this; omega
  have hblk : ∀ k, k < wr.heap.size → some k ≠ rv.ownBlock → w1.heap[k]? = wr.heap[k]? := fun k hk hne => (hg.block k (by simp; omega) hne).trans (Below.heap_alloc _ _ _ hk)
  have hnew : ∀ k, rv'.ownBlock = some k → G' k = 2 * i + 4 ∨ wr.heap.size ≤ k ∧ G' k = 0 ∧ k < w1.heap.size := by
    intro k hk
    rcases hat with e | e
    · left; exact rt k (by rw [← e]; exact hk)
    · right
      rw [e] at hk
      have hk2 : k = (wr.alloc ob).heap.size := (Option.some.inj hk).symm
      have hk3 : wr.heap.size ≤ k := by rw [hk2]; simp
      refine ⟨hk3, h.net.zero k hk3, ?_⟩
      exact (World.ownsRow.lt hown k (by rw [e, hk2])).2
  have gb : G' b = 2 * i + 3 := (h.net.mem i b s hs hm).1
  refine ⟨fun k => if rv'.ownBlock = some k then 2 * i + 4 else G' k, ?_, ?_, ?_, ?_, ?_⟩
  · have hp := h.net.put (w1 := w1) (G' := fun k => if rv'.ownBlock = some k then 2 * i + 4 else G' k) (rv' := rv') (l' := l ++ [(n : Int)]) hs hm hrb hfn (fun k h0 h1 => hblk k (h.net.lt h0) (fun e => h1 (rt k e.symm)))
      (fun k h0 => by
        show (if rv'.ownBlock = some k then 2 * i + 4 else G' k) = G' k
        split
        · rename_i e; rcases hnew k e with h2 | ⟨_, h2, _⟩
          · exact h2.symm
          · exact absurd h2 h0
        · rfl)
      (fun k hk => by
        show (if rv'.ownBlock = some k then 2 * i + 4 else G' k) = 0
        rw [if_neg (fun e => by have := (World.ownsRow.lt hown k e).2; omega)]
        exact h.net.zero k (by omega))
      (by unfold OwnInts; rw [lits_snoc, List.length_append, List.length_singleton]; exact hown) (fun k hk => if_pos hk)
    refine hp.congr (fun j _ => ?_)
    by_cases h1 : j = i
    · subst h1; rw [if_pos rfl, if_pos (by omega), addLs_yes hs hf, hl]
    · rw [if_neg h1]
      by_cases h2 : j < i
      · rw [if_pos h2, if_pos (by omega)]
      · rw [if_neg h2, if_neg (by omega)]
  · intro k hk
    show (if rv'.ownBlock = some k then 2 * i + 4 else G' k) = G k
    have hk2 : k < wr.heap.size := Nat.lt_of_lt_of_le hk h.turned.size
    split
    · rename_i e
      rcases hnew k e with h2 | ⟨h2, _⟩
      · rw [← h2]; exact h.tags k hk
      · omega
    · exact h.tags k hk
  · have t1 : Turned G' wr w1 := ⟨hg.os, hg.tape, hg.output, by omega, fun k hk hk2 => hblk k hk (fun e => by have := rt k e.symm; omega)⟩
    have t2 : Turned G' w1 (w1.setCell ⟨b, 1, none⟩ rv') := Turned.of_set (show 2 ≤ G' b by omega)
    exact h.turned.trans (t1.trans t2 (fun _ _ => rfl)) h.tags
  · refine row_keep h.own (fun k hk => ?_)
    have h0 := h.otag k hk
    have hlt := (World.ownsRow.lt h.own k hk).2
    rw [Below.heap_setCell _ _ _ _ (fun e => by rw [e] at h0; simp only at h0; omega)]
    exact hblk k hlt (fun e => by have := rt k e.symm; omega)
  · intro k hk
    have h0 := h.otag k hk
    have hlt := (World.ownsRow.lt h.own k hk).2
    show (if rv'.ownBlock = some k then 2 * i + 4 else G' k) = 0
    rw [if_neg (fun e => by rcases hnew k e with h2 | ⟨h2, _⟩ <;> omega)]
    exact h0

/-- .. and its number is told. -/
theorem AddInv.tell (h : AddInv w G X mv ms ss p row ls n (i + 1) i o G' wr) (hs : ss[i]? = some s) (hf : fitF p row s = true) {ob : Obj} {t : List Int} (ht : t = idx (fitF p row) (ss.take i))
    (hown : w1.ownsRow w.heap.size 3 1 o' (t.length + 1) (lits t ++ [.int .i64 (i : Int)])) (hg : (wr.alloc ob).grownBy w1 o.ownBlock)
    (hat : o'.ownBlock = o.ownBlock ∨ o'.ownBlock = some (wr.alloc ob).heap.size) : AddInv w G X mv ms ss p row ls n (i + 1) (i + 1) o' G' w1 := by
  have hsz : wr.heap.size < w1.heap.size := by have := hg.size; simp at this; omega
  have hblk : ∀ k, k < wr.heap.size → some k ≠ o.ownBlock → w1.heap[k]? = wr.heap[k]? := fun k hk hne => (hg.block k (by simp; omega) hne).trans (Below.heap_alloc _ _ _ hk)
  refine ⟨h.net.keep (by omega) (fun k hk => hblk k (h.net.lt hk) (fun e => hk (h.otag k e.symm))), h.tags, ?_, ?_, ?_⟩
  · have ht := h.turned
    exact ⟨hg.os.trans ht.os, hg.tape.trans ht.tape, hg.output.trans ht.output, by have := ht.size; omega, fun k hk hk2 =>
      (hblk k (Nat.lt_of_lt_of_le hk ht.size) (fun e => by have := (World.ownsRow.lt h.own k e.symm).1; omega)).trans (ht.block k hk hk2)⟩
  · rw [idx_yes hs hf, ← ht]
    unfold OwnInts; rw [lits_snoc, List.length_append, List.length_singleton]; exact hown
  · intro k hk
    rcases hat with e | e
    · exact h.otag k (by rw [← e]; exact hk)
    · rw [e] at hk
      have hk2 : k = (wr.alloc ob).heap.size := (Option.some.inj hk).symm
      exact h.net.zero k (by rw [hk2]; simp)
end

end Go.Proofs.Ytlandkindbmbfaa
/-
  The walk of a net's Add, where nobody watches: the row is numbered, the memories that it fits take its number and are told. Conditions: the numbers are ints, the lists within the form's own reach.
-/
namespace Go.Proofs.Ytlandkindbmbfaa
open Go.RowKit Plain

section
variable {w : World} {G : Nat → Nat} {X n : Nat} {mv : Value} {ms : List Nat} {ss : List Shp} {ls : Nat → List Int}

set_option maxRecDepth 100000 in
theorem add_no (p : Int) (row : List Int) (u : Value) (w : World) (hu : IntsAt w w.heap.size u row) (hr : row.length ≤ 35184372088832) (hp : p < 0 ∨ negB row = true) :
    Calls Try.prog 43 #[.pointer (some ⟨X, 0, none⟩), .int .i64 p, u] w (TupIs [] 2 w) := by
  have HC := Lib.hid (containsNeg_any row u w hu hr)
  obtain ⟨a, c, rfl, _⟩ := hu
  by_cases h0 : p < 0
  · clear hp HC
    go_enter Try.func43, Try.ntmps43
    go_wp2
    go_ret2
    exact ⟨_, rfl, OwnInts.nil _ _, Below.refl _ _⟩
  · have hn : negB row = true := hp.resolve_left h0
    rw [hn] at HC
    clear hp hn
    go_enter Try.func43, Try.ntmps43
    go_wp2_with fail
    refine HC.out.mono ?_
    rintro e w' ⟨rfl, rfl⟩
    go_wp2
    go_ret2
    exact ⟨_, rfl, OwnInts.nil _ _, Below.refl _ _⟩

theorem cell_one_at {w : World} {N : Nat} (x : Value) (t : TypeId) (h : N = w.heap.size) : ∀ j u, [x][j]? = some u → (w.alloc (.cells #[x] t)).cell? ((⟨N, 0, none⟩ : Addr).add j) = some u := by
  subst h; exact cell_one_new _ _ _

theorem AddInv.up {wr w1 : World} {G' : Nat → Nat} {p : Int} {row : List Int} {i k : Nat} {o : Value} (h : AddInv w G X mv ms ss p row ls n i k o G' wr) (hb : Below wr.heap.size wr w1) : AddInv w G X mv ms ss p row ls n i k o G' w1 :=
  ⟨h.net.up hb, h.tags, h.turned.trans (Turned.of_below (G := G') hb) h.tags, row_keep h.own (fun k hk => hb.block k (World.ownsRow.lt h.own k hk).2), h.otag⟩

def AddIs (w : World) (G : Nat → Nat) (X : Nat) (mv : Value) (ms : List Nat) (ss : List Shp) (p : Int) (row : List Int) (ls : Nat → List Int) (n : Nat) (e : Ending) (w' : World) : Prop :=
  ∃ v G', e = .returned (.tuple #[v, .int .i64 0]) ∧ AddInv w G X mv ms ss p row ls n ss.length ss.length v G' w'

set_option maxRecDepth 100000 in
set_option maxHeartbeats 3200000 in
theorem add_yes (h : MNet w G X mv ms ss ls n) (hss : ss.length ≤ 4398046510976) (hok : Okays ss) (hva : ∀ s, s ∈ ss → validB s = true) (hn : n < 17592186044400) (hb : ∀ i, i < ss.length → (ls i).length ≤ n)
    (p : Int) (row : List Int) (u : Value) (hu : IntsAt w w.heap.size u row) (hut : row ≠ [] → ∀ k, u.ownBlock = some k → G k < 2) (hr : row.length ≤ 35184372088832) (hp : 0 ≤ p) (hng : negB row = false) :
    Calls Try.prog 43 #[.pointer (some ⟨X, 0, none⟩), .int .i64 p, u] w (AddIs w G X mv ms ss p row ls n) := by
  obtain ⟨i3, qi, q0, q1, q2⟩ := info_parts Try.info3
  have HC := Lib.hid (containsNeg_any row u w hu hr)
  rw [hng] at HC
  obtain ⟨au, cu, rfl, _⟩ := id hu
  have HU := Lib.hid hu
  have HUT := Lib.hid hut
  have HB := Lib.hid hb
  have c1 := h.c1
  have f1 := h.f1
  have I0 := Lib.hid (AddInv.start (p := p) (row := row) h)
  obtain ⟨a, c, rfl, hg⟩ := h.form
  have HG := Lib.hid hg
  have c0 := h.c0
  have hp' : ¬ p < 0 := by omega
  clear h hg hut hu hng hb
  go_enter Try.func43, Try.ntmps43
  go_wp2_with fail
  refine HC.out.mono ?_
  rintro e w' ⟨rfl, rfl⟩
  clear HC
  go_wp2
  generalize w.setCell ⟨X, 1, none⟩ (.int .i64 ((n : Int) + 1)) = w0 at I0 ⊢
  clear c0 c1 f1
  go_loopw [9, 40] (fun v k wr => ∃ (o : Value) (i : Nat) (G' : Nat → Nat), o = v ∧ k = .int .i64 (i : Int) ∧ i ≤ ss.length ∧ Hid (AddInv w G X (.slice a ss.length c) ms ss p row ls n i i o G' wr)) (fun _ k _ => ss.length - (intOf k).toNat)
  case atStart => exact ⟨_, 0, G, rfl, rfl, Nat.zero_le _, I0⟩
  case round =>
    obtain ⟨o, i, G', rfl, rfl, hil, hI⟩ := hrel
    obtain ⟨ov, on, oc, rfl⟩ := OwnInts.form hI.out.own
    by_cases h1 : i < ss.length
    · obtain ⟨g, rfl⟩ := HG.out (fun e => by rw [e] at h1; simp at h1)
      obtain ⟨b, hb⟩ : ∃ b, ms[i]? = some b := ⟨ms[i]'(by rw [hI.out.net.mlen]; exact h1), List.getElem?_eq_getElem _⟩
      obtain ⟨s, hs⟩ : ∃ s, ss[i]? = some s := ⟨ss[i]'h1, List.getElem?_eq_getElem h1⟩
      have k1 := hI.out.net.ptr hb
      have hmem := hI.out.net.mem i b s hs hb
      rw [if_neg (Nat.lt_irrefl i)] at hmem
      obtain ⟨l, hl⟩ : ∃ l, l = ls i := ⟨_, rfl⟩
      rw [← hl] at hmem
      have hln : l.length ≤ n := by rw [hl]; exact HB.out i h1
      have HLL := Lib.hid hl
      obtain ⟨fv, rv, r0, r1, _, f1, FN, ro, rt, rb⟩ := hmem.parts
      obtain ⟨bs, bc, cv, rfl, e0, e1, hcv⟩ := FN.parts
      have HFN := Lib.hid FN
      have RO := Lib.hid ro
      have RB := Lib.hid rb
      have RT := Lib.hid rt
      have HSI := Lib.hid hs
      have HBI := Lib.hid hb
      have hti : (idx (fitF p row) (ss.take i)).length ≤ i := Nat.le_trans (idx_length _) (by rw [List.length_take]; omega)
      obtain ⟨t, ht⟩ : ∃ t, t = idx (fitF p row) (ss.take i) := ⟨_, rfl⟩
      rw [← ht] at hti
      have HTT := Lib.hid ht
      have HT2 := Lib.hid (test2_any s p row (.slice au row.length cu) cv bs bc wr (hva s (List.mem_of_getElem? hs)) (hok s (List.mem_of_getElem? hs)).1 hr (HU.out.turned hI.out.turned HUT.out) hcv e0 e1)
      clear hs hb hl hmem ro rb rt hcv e0 e1 FN ht
      go_wp2_with fail
      refine HT2.out.mono ?_
      rintro e w' ⟨rfl, rfl⟩
      clear HT2
      cases hf : fitsB s p row with
      | false =>
        have HN := Lib.hid (hI.out.skip HSI.out hf)
        clear hf r1 f1 k1
        go_wp2
        go_roundw
        case rel => exact ⟨_, i + 1, G', rfl, by go_num, by omega, HN⟩
        case measure => simp only [intOf]; omega
      | true =>
        have HF := Lib.hid hf
        clear hf
        have hgb : G' b = 2 * i + 3 := (hI.out.net.mem i b s HSI.out HBI.out).1
        have hbl : b < wr.heap.size := hI.out.net.lt (by omega)
        have hrv : some b ≠ rv.ownBlock := fun e => by have := RT.out b e.symm; omega
        have HRV := Lib.hid hrv
        have HBL := Lib.hid hbl
        have ka : (wr.alloc (.cells #[.int .i64 (n : Int)] 3)).cell? ⟨b, 1, none⟩ = some rv := (World.cell?_alloc_past _ _ _ hbl).trans r1
        clear hrv hgb
        go_wp2_with (first
          | ((fail_if_success (have hchk := HMID)); at_builtin; refine wpList_append_own_at _ rfl _ _ 25 rfl 0 3 i3 (.int .i64 0) 1 8 Try.underlying25 qi q0 q1 q2 rfl (by decide) rv l.length (lits l) rfl (World.ownsRow.alloc RO.out (.cells #[.int .i64 (n : Int)] 3)) ⟨wr.heap.size, 0, none⟩ 1 1 [.int .i64 (n : Int)] rfl rfl (cell_one_new _ _ _) (one_i64 _) (by unfold maxLen; omega) (by omega) (by omega) ?_; intro v' w1 hown' hgrow hnl hat; obtain ⟨g', c', rfl⟩ := Joins.ownsRow_form hown' (by omega); have r2 := hgrow.cell ka HRV.out; have f2 : w1.frozen? ⟨b, 1, none⟩ = false := (World.frozen?_of_block ((hgrow.block b (by simp; omega) HRV.out).trans (Below.heap_alloc _ _ _ HBL.out))).trans f1; have HMID := Lib.hid (hI.out.mid HSI.out HBI.out RB.out HFN.out RT.out HLL.out hown' hgrow hat HF.out))
          | (at_builtin; obtain ⟨G2, I2⟩ := HMID.out; have J2 := Lib.hid I2; clear I2; refine wpList_append_own_at _ rfl _ _ 25 rfl w.heap.size 3 i3 (.int .i64 0) 1 8 Try.underlying25 qi q0 q1 q2 rfl (by decide) (.slice ov on oc) t.length (lits t) rfl (World.ownsRow.alloc (by rw [HTT.out]; exact J2.out.own) (.cells #[.int .i64 (i : Int)] 3)) ⟨w1.heap.size, 0, none⟩ 1 1 [.int .i64 (i : Int)] rfl rfl (cell_one_at _ _ (by simp [World.setCell])) (one_i64 _) (by unfold maxLen; omega) (by omega) (by have := J2.out.turned.size; simp at this ⊢; omega) ?_; intro v2 w2 hown2 hgrow2 _ hat2; have HTELL := Lib.hid (J2.out.tell HSI.out HF.out HTT.out hown2 hgrow2 hat2)))
        go_roundw
        case rel => exact ⟨_, i + 1, G2, rfl, by go_num, by omega, HTELL⟩
        case measure => simp only [intOf]; omega
    · obtain rfl : i = ss.length := by omega
      have hl0 : (idx (fitF p row) (ss.take ss.length)).length ≤ ss.length := Nat.le_trans (idx_length _) (by rw [List.length_take]; omega)
      have HBD := Lib.hid (idx_bounds (f := fitF p row) (ss.take ss.length))
      have HLEN : (ss.take ss.length).length = ss.length := by rw [List.take_length]
      have HOW := Lib.hid hI.out.own
      obtain ⟨t, ht⟩ : ∃ t, t = idx (fitF p row) (ss.take ss.length) := ⟨_, rfl⟩
      rw [← ht] at hl0 HBD HOW
      have HC := Lib.hid (clone_any t _ wr (OwnInts.at HOW.out) (OwnInts.nilly HOW.out) (by omega))
      clear ht
      go_wp2_with fail
      refine HC.out.mono ?_
      rintro e w1 ⟨cv, rfl, hcown, hcb⟩
      have HE := Lib.hid (hI.out.up hcb)
      clear HC
      obtain ⟨ca, cc, rfl, hca⟩ : ∃ ca cc, cv = .slice ca t.length cc ∧ (t ≠ [] → ∃ g, ca = some ⟨g, 0, none⟩) := by
        rcases Joins.ownsRow_forms hcown with ⟨rfl, h0⟩ | ⟨g, cap, rfl⟩
        · exact ⟨none, 0, by rw [h0], fun hn => absurd (List.length_eq_zero_iff.1 h0) hn⟩
        · exact ⟨some ⟨g, 0, none⟩, cap, rfl, fun _ => ⟨g, rfl⟩⟩
      have HCA := Lib.hid hca
      have HCO := Lib.hid hcown
      clear hca hcown hcb
      go_wp2
      go_loopw [70] (fun k wr => ∃ j : Nat, k = .int .i64 (j : Int) ∧ j ≤ t.length ∧ wr = w1) (fun k _ => t.length - (intOf k).toNat)
      case atStart => exact ⟨0, rfl, Nat.zero_le _, rfl⟩
      case round =>
        obtain ⟨j, rfl, hj, rfl⟩ := hrel
        by_cases h2 : j < t.length
        · obtain ⟨g', rfl⟩ := HCA.out (fun e => by rw [e] at h2; simp at h2)
          have e1 := OwnInts.cell HCO.out h2
          rw [Nat.zero_add] at e1
          have hb := HBD.out (at' t j) (at_mem h2)
          rw [HLEN] at hb
          obtain ⟨q, hq⟩ := Int.eq_ofNat_of_zero_le hb.1
          rw [hq] at e1 hb
          have hqs : q < ss.length := by omega
          obtain ⟨g, rfl⟩ := HG.out (fun e => by rw [e] at hqs; simp at hqs)
          obtain ⟨b, hb1⟩ : ∃ b, ms[q]? = some b := ⟨ms[q]'(by rw [HE.out.net.mlen]; exact hqs), List.getElem?_eq_getElem _⟩
          have k0 := HE.out.net.c0
          have k1 := HE.out.net.ptr hb1
          obtain ⟨fv, rv, r0, r1, r2, _⟩ := (HE.out.net.mem q b (ss[q]'hqs) (List.getElem?_eq_getElem hqs) hb1).parts
          clear hb hq hb1
          go_wp2
          go_loop [85] (fun k => k = .int .i64 0) (fun _ => 0)
          case atStart => exact rfl
          case round =>
            go_wp2
            go_roundw
            case rel => exact ⟨j + 1, by go_num, by omega, by first | rfl | trivial⟩
            case measure => simp only [intOf]; omega
        · go_wp2
          go_ret2
          exact ⟨_, _, rfl, HE.out⟩
end

end Go.Proofs.Ytlandkindbmbfaa
/-
  Plain laws of patterns: renamed variables, one shape; a number that no variable has; a constant behind, a new variable behind. No program is in sight here; no condition beyond those that each lemma states.
-/
namespace Go.Proofs.Ytlandkindbmbfaa.Plain

/-- A renaming of the variables. -/
def rnm (f : Int → Int) (a : Slt) : Slt := if a.1 then (true, f a.2) else a
theorem findIdx_map {α β : Type} (g : α → β) (p : β → Bool) : ∀ l : List α, (l.map g).findIdx p = l.findIdx (fun a => p (g a))
  | [] => rfl
  | a :: l => by simp [List.findIdx_cons, findIdx_map g p l]
theorem findIdx_congr {α : Type} {p q : α → Bool} : ∀ {l : List α}, (∀ a, a ∈ l → p a = q a) → l.findIdx p = l.findIdx q
  | [], _ => rfl
  | a :: l, h => by
    rw [List.findIdx_cons, List.findIdx_cons, h a (by simp), findIdx_congr (fun b hb => h b (List.mem_cons_of_mem _ hb))]
theorem firstV_rnm {f : Int → Int} {l : List Slt} {n : Int} (hf : ∀ a, a ∈ l → a.1 = true → f a.2 = f n → a.2 = n) : firstV (l.map (rnm f)) (f n) = firstV l n := by
  unfold firstV
  rw [findIdx_map]
  refine findIdx_congr (fun a ha => ?_)
  obtain ⟨b, m⟩ := a
  cases b with
  | false => simp [rnm, isVar]
  | true =>
    have hh := hf _ ha rfl
    show (true && f m == f n) = (true && m == n)
    rw [Bool.true_and, Bool.true_and]
    by_cases e : m = n
    · simp [e]
    · have h2 : ¬ f m = f n := fun h => e (hh h)
      rw [beq_false_of_ne h2, beq_false_of_ne e]
theorem shape_rnm {p : Int} {f : Int → Int} {l : List Slt} (hf : ∀ a c, a ∈ l → c ∈ l → a.1 = true → c.1 = true → f a.2 = f c.2 → a.2 = c.2) : shapeB p (l.map (rnm f)) = shapeB p l := by
  unfold shapeB
  have hok : (l.map (rnm f)).all okSlt = l.all okSlt := by
    rw [List.all_map]
    congr 1
    funext a
    obtain ⟨b, n⟩ := a
    cases b <;> rfl
  have hc : (l.map (rnm f)).map (cellOf (l.map (rnm f))) = l.map (cellOf l) := by
    rw [List.map_map]
    refine List.map_congr_left (fun a ha => ?_)
    obtain ⟨b, n⟩ := a
    cases b with
    | false => rfl
    | true =>
      show cellOf (l.map (rnm f)) (true, f n) = cellOf l (true, n)
      show (-1 - (firstV (l.map (rnm f)) (f n) : Int)) = -1 - (firstV l n : Int)
      rw [firstV_rnm (fun c hc h1 h2 => hf c (true, n) hc ha h1 rfl h2)]
  rw [hok, hc]

/-- The numbers of the variables. -/
def vars (l : List Slt) : List Int := (l.filter (fun a => a.1)).map (fun a => a.2)
theorem vars_mem {l : List Slt} {n : Int} : n ∈ vars l ↔ ∃ i : Nat, l[i]? = some (true, n) := by
  unfold vars
  rw [List.mem_map]
  constructor
  · rintro ⟨⟨b, m⟩, ha, rfl⟩
    rw [List.mem_filter] at ha
    obtain ⟨i, hi, e⟩ := List.getElem_of_mem ha.1
    refine ⟨i, ?_⟩
    rw [List.getElem?_eq_getElem hi, e]
    simp only at ha ⊢
    rw [ha.2]
  · rintro ⟨i, hi⟩
    exact ⟨(true, n), List.mem_filter.2 ⟨List.mem_of_getElem? hi, rfl⟩, rfl⟩
theorem vars_len (l : List Slt) : (vars l).length ≤ l.length := by
  unfold vars; rw [List.length_map]; exact List.length_filter_le _ _
/-- The inner loop of unused: is n a variable among the first i? -/
def SeenV (l : List Slt) (n : Int) (i : Nat) (old : Bool) : Prop := old = true ↔ ∃ j : Nat, j < i ∧ l[j]? = some (true, n)
theorem SeenV.start (l : List Slt) (n : Int) : SeenV l n 0 false := ⟨(fun h => nomatch h), fun ⟨j, hj, _⟩ => by omega⟩
theorem SeenV.round {l : List Slt} {n m : Int} {i : Nat} {b old : Bool} (h : SeenV l n i old) (hi : l[i]? = some (b, m)) : SeenV l n (i + 1) (old || (b && m == n)) := by
  unfold SeenV at *
  rw [Bool.or_eq_true, h]
  constructor
  · rintro (⟨j, hj, e⟩ | h2)
    · exact ⟨j, by omega, e⟩
    · simp only [Bool.and_eq_true, beq_iff_eq] at h2
      obtain ⟨rfl, rfl⟩ := h2
      exact ⟨i, by omega, hi⟩
  · rintro ⟨j, hj, e⟩
    by_cases ej : j = i
    · subst ej; rw [hi] at e; simp only [Option.some.injEq, Prod.mk.injEq] at e; right; rw [e.1, e.2]; simp
    · exact .inl ⟨j, by omega, e⟩
theorem SeenV.yes {l : List Slt} {n : Int} (h : SeenV l n l.length true) : n ∈ vars l := by
  obtain ⟨j, _, e⟩ := h.1 rfl
  exact vars_mem.2 ⟨j, e⟩
theorem SeenV.no {l : List Slt} {n : Int} (h : SeenV l n l.length false) : ¬ n ∈ vars l := fun hm => by
  obtain ⟨j, e⟩ := vars_mem.1 hm
  have := h.2 ⟨j, (List.getElem?_eq_some_iff.1 e).1, e⟩
  cases this

/-! ### One slot more -/
theorem firstV_push {l : List Slt} {a : Slt} {n : Int} (h : firstV l n < l.length) : firstV (l ++ [a]) n = firstV l n := by
  have h1 := firstV_at h
  have hp : isVar n (l[firstV l n]'h) = true := List.findIdx_getElem (w := h)
  unfold firstV at *
  rw [List.findIdx_append, if_pos h]
theorem cells_push {l : List Slt} {a : Slt} : (l ++ [a]).map (cellOf (l ++ [a])) = l.map (cellOf l) ++ [cellOf (l ++ [a]) a] := by
  rw [List.map_append]
  congr 1
  refine List.map_congr_left (fun b hb => ?_)
  obtain ⟨c, n⟩ := b
  cases c with
  | false => rfl
  | true =>
    obtain ⟨i, hi, e⟩ := List.getElem_of_mem hb
    have hle : firstV l n ≤ i := firstV_le (by rw [List.getElem?_eq_getElem hi, e])
    simp only [cellOf, if_true]
    rw [firstV_push (by omega)]
theorem firstV_new {l : List Slt} {n : Int} (h : ¬ n ∈ vars l) : firstV (l ++ [(true, n)]) n = l.length := by
  have hle : firstV (l ++ [(true, n)]) n ≤ l.length := firstV_le (by simp)
  rcases Nat.lt_or_ge (firstV (l ++ [(true, n)]) n) l.length with hlt | hge
  · exfalso
    have := firstV_at (l := l ++ [(true, n)]) (n := n) (by simp; omega)
    rw [List.getElem?_append_left hlt] at this
    exact h (vars_mem.2 ⟨_, this⟩)
  · omega
theorem shape_push_const {p : Int} {l : List Slt} {c : Int} (hp : 0 ≤ p) (hl : l.all okSlt = true) (hc : 0 ≤ c) : shapeB p (l ++ [(false, c)]) = ⟨p, (shapeB p l).cells ++ [c]⟩ := by
  rw [shapeB_ok hp hl, shapeB_ok hp (by rw [List.all_append, hl]; simp [okSlt, hc]), cells_push]; rfl
theorem shape_push_var {p : Int} {l : List Slt} {n : Int} (hp : 0 ≤ p) (hl : l.all okSlt = true) (hn : ¬ n ∈ vars l) : shapeB p (l ++ [(true, n)]) = ⟨p, (shapeB p l).cells ++ [-1 - ((shapeB p l).cells.length : Int)]⟩ := by
  rw [shapeB_ok hp hl, shapeB_ok hp (by rw [List.all_append, hl]; simp [okSlt]), cells_push]
  simp only [cellOf, if_true, List.length_map]
  rw [firstV_new hn]

end Go.Proofs.Ytlandkindbmbfaa.Plain
/-
  Plain laws of nets: which lists of shapes make one. No program is in sight here; no condition beyond those that each lemma states.
-/
namespace Go.Proofs.Ytlandkindbmbfaa.Plain

/-- Is there a net of these shapes? -/
def newAt (ss : List Shp) (j : Nat) : Bool := match ss[j]? with
  | some s => validB s && !standsB (ss.take j) s
  | none => true
def newB (ss : List Shp) : Bool := (List.range ss.length).all (newAt ss)
theorem newAt_some {ss : List Shp} {j : Nat} {s : Shp} (h : ss[j]? = some s) : newAt ss j = (validB s && !standsB (ss.take j) s) := by unfold newAt; rw [h]
theorem newB_iff (ss : List Shp) : newB ss = true ↔ ∀ (j : Nat) (s : Shp), ss[j]? = some s → validB s = true ∧ standsB (ss.take j) s = false := by
  unfold newB
  rw [List.all_eq_true]
  constructor
  · intro h j s hs
    have hj : j < ss.length := (List.getElem?_eq_some_iff.1 hs).1
    have := h j (List.mem_range.2 hj)
    rw [newAt_some hs] at this
    simpa using this
  · intro h j hj
    have hj' := List.mem_range.1 hj
    have hs : ss[j]? = some (ss[j]'hj') := List.getElem?_eq_getElem hj'
    rw [newAt_some hs]
    have := h j _ hs
    simp [this.1, this.2]
theorem newB_invalid {ss : List Shp} {i : Nat} {s : Shp} (hs : ss[i]? = some s) (h : validB s = false) : newB ss = false := by
  rw [Bool.eq_false_iff]
  intro e
  have := ((newB_iff ss).1 e i s hs).1
  rw [h] at this; cases this
theorem newB_twice {ss : List Shp} {i : Nat} {s : Shp} (hs : ss[i]? = some s) (h : standsB (ss.take i) s = true) : newB ss = false := by
  rw [Bool.eq_false_iff]
  intro e
  have := ((newB_iff ss).1 e i s hs).2
  rw [h] at this; cases this
theorem newB_valid {ss : List Shp} (h : newB ss = true) : ∀ s, s ∈ ss → validB s = true := by
  intro s hs
  obtain ⟨j, hj, rfl⟩ := List.getElem_of_mem hs
  exact ((newB_iff ss).1 h j _ (List.getElem?_eq_getElem hj)).1
/-- The first i are all right. -/
def NewTo (ss : List Shp) (i : Nat) : Prop := ∀ (j : Nat) (s : Shp), j < i → ss[j]? = some s → validB s = true ∧ standsB (ss.take j) s = false
theorem NewTo.start (ss : List Shp) : NewTo ss 0 := fun j s h => by omega
theorem NewTo.round {ss : List Shp} {i : Nat} {s : Shp} (h : NewTo ss i) (hs : ss[i]? = some s) (hv : validB s = true) (hn : standsB (ss.take i) s = false) : NewTo ss (i + 1) := fun j t hj ht => by
  by_cases e : j = i
  · subst e; rw [hs] at ht; obtain rfl := Option.some.inj ht; exact ⟨hv, hn⟩
  · exact h j t (by omega) ht
theorem NewTo.stop {ss : List Shp} (h : NewTo ss ss.length) : newB ss = true :=
  (newB_iff ss).2 fun j s hs => h j s (List.getElem?_eq_some_iff.1 hs).1 hs
theorem newB_snoc {ss : List Shp} {s : Shp} (h : newB ss = true) (hv : validB s = true) (hn : standsB ss s = false) : newB (ss ++ [s]) = true := by
  refine (newB_iff _).2 fun j t ht => ?_
  by_cases e : j < ss.length
  · rw [List.getElem?_append_left e] at ht
    rw [List.take_append_of_le_length (by omega)]
    exact (newB_iff ss).1 h j t ht
  · have hj : j < (ss ++ [s]).length := (List.getElem?_eq_some_iff.1 ht).1
    rw [List.length_append, List.length_singleton] at hj
    obtain rfl : j = ss.length := by omega
    have e1 : (ss ++ [s])[ss.length]? = some s := by simp
    rw [e1] at ht
    obtain rfl := Option.some.inj ht
    rw [List.take_left]
    exact ⟨hv, hn⟩
theorem newB_nil : newB [] = true := rfl

end Go.Proofs.Ytlandkindbmbfaa.Plain
/-
  A net in the making: one memory more. No condition beyond those that each lemma states.
-/
namespace Go.Proofs.Ytlandkindbmbfaa
open Go.RowKit Plain

/-- A test of the shape s whose blocks lie from lo on, below hi. -/
def FnNew (w : World) (lo hi : Nat) (s : Shp) (fv : Value) : Prop :=
  ∃ (bs bc : Nat) (cv q : Value), fv = .func (.func 64) #[] #[.pointer (some ⟨bs, 0, none⟩), .pointer (some ⟨bc, 0, none⟩)] ∧ (lo ≤ bs ∧ bs < hi) ∧ (lo ≤ bc ∧ bc < hi) ∧
    w.heap[bs]? = some (.cells #[.int .i64 s.pred, q] 27 (0, 0)) ∧ w.heap[bc]? = some (.cells #[cv] 25 (0, 0)) ∧ OwnInts w 0 cv s.cells ∧ ∀ k, cv.ownBlock = some k → lo ≤ k ∧ k < hi

theorem FnNew.of_test {w w' : World} {s : Shp} {v : Value} {e : Ending} (h : TestIs s v w e w') (hv : validB s = true) : ∃ fv, e = .returned fv ∧ FnNew w' w.heap.size w'.heap.size s fv ∧ Below w.heap.size w w' := by
  rcases h with ⟨h0, _⟩ | ⟨_, bc, cv, rfl, hb, h1, h2, h3, h4⟩
  · rw [hv] at h0; cases h0
  · refine ⟨_, rfl, ⟨_, bc, cv, v, rfl, ⟨Nat.le_refl _, ?_⟩, ⟨by omega, ?_⟩, h1, h3, h4.mono (Nat.zero_le _), fun k hk => h4.lt k hk⟩, hb⟩
    · exact lt_of_block h1
    · exact lt_of_block h3
theorem FnNew.up {w w' : World} {lo hi : Nat} {s : Shp} {fv : Value} (h : FnNew w lo hi s fv) (hb : Below hi w w') : FnNew w' lo hi s fv := by
  obtain ⟨bs, bc, cv, q, rfl, h1, h2, h3, h4, h5, h6⟩ := h
  exact ⟨bs, bc, cv, q, rfl, h1, h2, (hb.block bs h1.2).trans h3, (hb.block bc h2.2).trans h4, row_keep h5 (fun k hk => hb.block k (h6 k hk).2), h6⟩

/-- The test of a memory does not lie in the block of pointers. -/
theorem FnIs.apart {w : World} {G : Nat → Nat} {s : Shp} {fv mv : Value} {B n : Nat} {xs : List Value} (h : FnIs w G s fv) (hr : w.ownsRow B 102 1 mv n xs) : FnIs w (fun k => if mv.ownBlock = some k then 0 else G k) s fv := by
  have key : ∀ (k : Nat) (cs : Array Value) (t : TypeId), w.heap[k]? = some (.cells cs t (0, 0)) → t ≠ 102 → mv.ownBlock ≠ some k := by
    intro k cs t hk ht e
    rcases hr.2 with ⟨rfl, _⟩ | ⟨g, cap, cur, rfl, _, hg, _⟩
    · simp [Value.ownBlock] at e
    · have e2 : g = k := by simpa [Value.ownBlock] using e
      subst e2
      rw [hk] at hg
      simp only [Option.some.injEq, Obj.cells.injEq] at hg
      exact ht hg.2.1
  obtain ⟨bs, bc, cv, q, rfl, h1, h2, h3, h4, h5, h6⟩ := h
  refine ⟨bs, bc, cv, q, rfl, ?_, ?_, h3, h4, h5, fun k hk => ?_⟩
  · show (if mv.ownBlock = some bs then 0 else G bs) = 1
    rw [if_neg (key bs _ _ h3 (by decide))]; exact h1
  · show (if mv.ownBlock = some bc then 0 else G bc) = 1
    rw [if_neg (key bc _ _ h4 (by decide))]; exact h2
  · show (if mv.ownBlock = some k then 0 else G k) = 1
    rw [if_neg, h6 k hk]
    intro e
    rcases types_apart h5 hr (by decide) with h7 | h7
    · rw [h7] at hk; cases hk
    · exact h7 (hk.trans e.symm)

structure NewInv (w : World) (X : Nat) (ss : List Shp) (i : Nat) (mv : Value) (ms : List Nat) (G : Nat → Nat) (wr : World) : Prop where
  net : MNet wr G X mv ms (ss.take i) (fun _ => []) 0
  below : Below w.heap.size w wr
  old : ∀ k, k < w.heap.size → G k = 0

section
variable {w wr w1 w2 : World} {X i b : Nat} {ss : List Shp} {s : Shp} {mv v' fv : Value} {ms : List Nat} {G : Nat → Nat}

theorem NewInv.start (w : World) (ss : List Shp) : NewInv w w.heap.size ss 0 (.slice none 0 0) [] (fun k => if k = w.heap.size then 2 else 0) (w.alloc (.cells #[.slice none 0 0, .int .i64 0] 101)) := by
  refine ⟨⟨fun k hk => if_neg ?_, if_pos rfl, heap_alloc_new _ _, World.ownsRow_nil _ _ _ _, fun k hk => ?_, rfl, fun i b s h1 h2 => ?_⟩, up_alloc _ _, fun k hk => if_neg (by omega)⟩
  · have : (w.alloc (.cells #[.slice none 0 0, .int .i64 0] 101)).heap.size = w.heap.size + 1 := by simp
    omega
  · simp [Value.ownBlock] at hk
  · simp at h1

theorem NewInv.up (h : NewInv w X ss i mv ms G wr) (hb : Below wr.heap.size wr w1) : NewInv w X ss i mv ms G w1 := ⟨h.net.up hb, h.below.trans (hb.mono h.below.size), h.old⟩
theorem NewInv.alloc (h : NewInv w X ss i mv ms G wr) (o : Obj) : NewInv w X ss i mv ms G (wr.alloc o) := h.up (up_alloc _ _)

/-- One memory more. -/
theorem NewInv.grown (h : NewInv w X ss i mv ms G wr) (hs : ss[i]? = some s) (hb : Below wr.heap.size wr w1) (hm : w1.heap[b]? = some (.cells #[fv, .slice none 0 0, .slice none 0 0] 105 (0, 0))) (hf : FnNew w1 wr.heap.size b s fv)
    (hg : w1.grownBy w2 mv.ownBlock) (hown : w2.ownsRow 0 102 1 v' (i + 1) (ptrs ms ++ [.pointer (some ⟨b, 0, none⟩)])) (hat : v'.ownBlock = mv.ownBlock ∨ v'.ownBlock = some w1.heap.size) :
    ∃ G', NewInv w X ss (i + 1) v' (ms ++ [b]) G' (w2.setCell ⟨X, 0, none⟩ v') := by
  have hil : i < ss.length := (List.getElem?_eq_some_iff.1 hs).1
  have hlen : (ss.take i).length = i := by rw [List.length_take]; omega
  have hml : ms.length = i := h.net.mlen.trans hlen
  have hbw : wr.heap.size ≤ b := by obtain ⟨bs, _, _, _, _, h1, _⟩ := hf; omega
  have hb1 : b < w1.heap.size := lt_of_block hm
  have hz1 := hb.size
  have hz2 := hg.size
  have hXl : X < wr.heap.size := h.net.lt (by rw [h.net.tag]; decide)
  have hmvX : ∀ k, mv.ownBlock = some k → k ≠ X := fun k hk e => by have := h.net.mtag k hk; rw [e, h.net.tag] at this; cases this
  have hmvl : ∀ k, mv.ownBlock = some k → k < wr.heap.size := fun k hk => h.net.lt (by rw [h.net.mtag k hk]; decide)
  have hX2 : w2.heap[X]? = some (.cells #[mv, .int .i64 ((0 : Nat) : Int)] 101 (0, 0)) :=
    (hg.block X (by omega) (fun e => hmvX X e.symm rfl)).trans ((hb.block X hXl).trans h.net.net)
  have hXn : (w2.setCell ⟨X, 0, none⟩ v').heap[X]? = some (.cells #[v', .int .i64 ((0 : Nat) : Int)] 101 (0, 0)) := by rw [block_setCell hX2]; rfl
  have hzs : (w2.setCell ⟨X, 0, none⟩ v').heap.size = w2.heap.size := by simp [World.setCell]
  have hblk : ∀ k, k < w1.heap.size → k ≠ X → mv.ownBlock ≠ some k → (w2.setCell ⟨X, 0, none⟩ v').heap[k]? = w1.heap[k]? := fun k hk hx hm =>
    (Below.heap_setCell _ _ _ _ hx).trans (hg.block k hk (fun e => hm e.symm))
  have hGnew : ∀ k, wr.heap.size ≤ k → k < b → (fun k => if k < wr.heap.size then G k else if k = b then 2 * i + 3 else if k < w2.heap.size then 1 else 0) k = 1 := fun k h1 h2 => by
    show (if k < wr.heap.size then G k else if k = b then 2 * i + 3 else if k < w2.heap.size then 1 else 0) = 1
    rw [if_neg (by omega), if_neg (by omega), if_pos (by omega)]
  refine ⟨fun k => if k < wr.heap.size then G k else if k = b then 2 * i + 3 else if k < w2.heap.size then 1 else 0, ⟨fun k hk => ?_, ?_, hXn, ?_, fun k hk => ?_, ?_, ?_⟩, ?_, fun k hk => ?_⟩
  · show (if k < wr.heap.size then G k else if k = b then 2 * i + 3 else if k < w2.heap.size then 1 else 0) = 0
    rw [if_neg (by omega), if_neg (by omega), if_neg (by omega)]
  · show (if X < wr.heap.size then G X else _) = 2
    rw [if_pos hXl]; exact h.net.tag
  · rw [ptrs_snoc]
    have e : (ss.take (i + 1)).length = i + 1 := by rw [List.length_take]; omega
    rw [e]
    refine row_keep hown (fun k hk => Below.heap_setCell _ _ _ _ (fun e => ?_))
    simp only at e
    rcases hat with h1 | h1
    · exact hmvX k (h1 ▸ hk) e
    · rw [hk] at h1; have := Option.some.inj h1; omega
  · show (if k < wr.heap.size then G k else if k = b then 2 * i + 3 else if k < w2.heap.size then 1 else 0) = 1
    rcases hat with h1 | h1
    · rw [h1] at hk
      rw [if_pos (hmvl k hk)]; exact h.net.mtag k hk
    · have h2 := (World.ownsRow.lt hown k hk).2
      rw [hk] at h1
      have h3 := Option.some.inj h1
      rw [if_neg (by omega), if_neg (by omega), if_pos h2]
  · rw [List.length_append, List.length_singleton, hml, List.length_take]; omega
  · intro j c t ht hc
    have hj : j < (ss.take (i + 1)).length := (List.getElem?_eq_some_iff.1 ht).1
    rw [List.length_take] at hj
    have ht' : ss[j]? = some t := by rw [List.getElem?_take_of_lt (by omega)] at ht; exact ht
    by_cases e : j < i
    · rw [List.getElem?_append_left (by omega)] at hc
      have hmem := h.net.mem j c t (by rw [List.getElem?_take_of_lt e]; exact ht') hc
      obtain ⟨g0, fv0, rv0, g1, g2, g3, g4⟩ := hmem
      have hcX : c ≠ X := fun e => by rw [e, h.net.tag] at g0; omega
      have hcm : mv.ownBlock ≠ some c := fun e => by have := h.net.mtag c e; omega
      have hcl : c < wr.heap.size := h.net.lt (by omega)
      have hm0 : MemIs wr (fun k => if mv.ownBlock = some k then 0 else G k) t j c [] :=
        ⟨by show (if mv.ownBlock = some c then 0 else G c) = _; rw [if_neg hcm]; exact g0, fv0, rv0, g1, g2.apart h.net.row, g3, fun k hk => by
          show (if mv.ownBlock = some k then 0 else G k) = _
          have := g4 k hk
          rw [if_neg (fun e => by have := h.net.mtag k e; omega)]; exact this⟩
      refine hm0.keep (fun k hk => ?_)
      replace hk : (if mv.ownBlock = some k then 0 else G k) = 1 ∨ (if mv.ownBlock = some k then 0 else G k) = 2 * j + 3 ∨ (if mv.ownBlock = some k then 0 else G k) = 2 * j + 4 := hk
      have hk0 : mv.ownBlock ≠ some k := fun e => by rw [if_pos e] at hk; omega
      rw [if_neg hk0] at hk
      have hkl : k < wr.heap.size := h.net.lt (by omega)
      refine ⟨(hblk k (by omega) (fun e => by rw [e, h.net.tag] at hk; omega) hk0).trans (hb.block k hkl), ?_⟩
      show (if k < wr.heap.size then G k else _) = (if mv.ownBlock = some k then 0 else G k)
      rw [if_pos hkl, if_neg hk0]
    · obtain rfl : j = i := by omega
      rw [hs] at ht'
      obtain rfl := Option.some.inj ht'
      have hcb : c = b := by
        have : (ms ++ [b])[j]? = some b := by rw [← hml]; simp
        rw [this] at hc; exact (Option.some.inj hc).symm
      subst hcb
      obtain ⟨bs, bc, cv, q, rfl, h1, h2, h3, h4, h5, h6⟩ := hf
      have ho : ∀ k, wr.heap.size ≤ k → k < w1.heap.size → (w2.setCell ⟨X, 0, none⟩ v').heap[k]? = w1.heap[k]? := fun k hk1 hk2 => hblk k hk2 (by omega) (fun e => by have := hmvl k e; omega)
      refine ⟨?_, _, _, (ho c hbw hb1).trans hm, ⟨bs, bc, cv, q, rfl, hGnew bs h1.1 h1.2, hGnew bc h2.1 h2.2, (ho bs h1.1 (by omega)).trans h3, (ho bc h2.1 (by omega)).trans h4, row_keep h5 (fun k hk => ho k (h6 k hk).1 (by have := (h6 k hk).2; omega)), fun k hk => hGnew k (h6 k hk).1 (h6 k hk).2⟩, OwnInts.nil _ _, fun k hk => by cases hk⟩
      show (if c < wr.heap.size then G c else if c = c then 2 * j + 3 else if c < w2.heap.size then 1 else 0) = _
      rw [if_neg (by omega), if_pos rfl]
  · have hXo : w.heap.size ≤ X := by
      rcases Nat.lt_or_ge X w.heap.size with h1 | h1
      · have := h.old X h1; rw [h.net.tag] at this; cases this
      · exact h1
    refine Below.setCell (Below.grown (h.below.trans (hb.mono h.below.size)) hg (by have := h.below.size; omega) (fun k hk => ?_)) hXo _
    rcases Nat.lt_or_ge k w.heap.size with h1 | h1
    · have := h.old k h1; rw [h.net.mtag k hk] at this; cases this
    · exact h1
  · show (if k < wr.heap.size then G k else _) = 0
    have := h.below.size
    rw [if_pos (by omega)]; exact h.old k hk
end

def NewIs (ss : List Shp) (w : World) (e : Ending) (w' : World) : Prop :=
  (newB ss = false ∧ e = .returned (.tuple #[.pointer none, .int .i64 2]) ∧ Below w.heap.size w w') ∨
  (newB ss = true ∧ ∃ G X mv ms, e = .returned (.tuple #[.pointer (some ⟨X, 0, none⟩), .int .i64 0]) ∧ MNet w' G X mv ms ss (fun _ => []) 0 ∧ Below w.heap.size w w' ∧ ∀ k, k < w.heap.size → G k = 0)

end Go.Proofs.Ytlandkindbmbfaa
