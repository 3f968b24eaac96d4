/-
  The walks of a net's Len, there and Rows, and of the look for a number below zero: they turn nothing, and answer as the plain law says. Conditions: the numbers are ints, the lists within the form's own reach.
-/
import Derived.Test.YtlandkindbmbfaaK7
namespace Go.Proofs.Ytlandkindbmbfaa
open Go.RowKit Plain

section
variable {w : World} {G : Nat → Nat} {X n : Nat} {mv : Value} {ms : List Nat} {ss : List Shp} {ls : Nat → List Int}

theorem len_any (h : MNet w G X mv ms ss ls n) : Calls Try.prog 37 #[.pointer (some ⟨X, 0, none⟩)] w fun e w' => e = .returned (.int .i64 (n : Int)) ∧ w = w' := by
  have c1 := h.c1
  clear h
  go_enter Try.func37, Try.ntmps37
  go_wp2
  go_ret
  exact ⟨rfl, rfl⟩

def thereB (m : Int) (k : Nat) : Bool := decide (0 ≤ m ∧ m < (k : Int))
theorem there_any (h : MNet w G X mv ms ss ls n) (m : Int) : Calls Try.prog 58 #[.pointer (some ⟨X, 0, none⟩), .int .i64 m] w fun e w' => e = .returned (.bool (thereB m ss.length)) ∧ w = w' := by
  have c0 := h.c0
  obtain ⟨a, c, rfl, _⟩ := h.form
  clear h
  by_cases h0 : 0 ≤ m
  · by_cases h1 : m < (ss.length : Int)
    · have HR := Lib.hid (show thereB m ss.length = true from decide_eq_true ⟨h0, h1⟩)
      go_enter Try.func58, Try.ntmps58
      go_wp2
      go_ret
      exact ⟨ret_bool HR.out.symm, rfl⟩
    · have HR := Lib.hid (show thereB m ss.length = false from decide_eq_false (fun h => h1 h.2))
      go_enter Try.func58, Try.ntmps58
      go_wp2
      go_ret
      exact ⟨ret_bool HR.out.symm, rfl⟩
  · have HR := Lib.hid (show thereB m ss.length = false from decide_eq_false (fun h => h0 h.1))
    go_enter Try.func58, Try.ntmps58
    go_wp2
    go_ret
    exact ⟨ret_bool HR.out.symm, rfl⟩

theorem neg_any (x : Int) (w : World) : Calls Try.prog 60 #[.int .i64 x] w fun e w' => e = .returned (.bool (decide (x < 0))) ∧ w = w' := by
  go_enter Try.func60, Try.ntmps60
  go_wp2
  go_ret
  exact ⟨rfl, rfl⟩
end

/-- Is there a number below zero? -/
def negB (l : List Int) : Bool := l.any fun x => decide (x < 0)
def NotNegTo (l : List Int) (k : Nat) : Prop := ∀ j, j < k → 0 ≤ at' l j
theorem NotNegTo.start (l : List Int) : NotNegTo l 0 := fun j h => by omega
theorem NotNegTo.round {l : List Int} {k : Nat} (h : NotNegTo l k) (hk : 0 ≤ at' l k) : NotNegTo l (k + 1) := fun j hj => by
  by_cases e : j = k
  · subst e; exact hk
  · exact h j (by omega)
theorem negB_no {l : List Int} (h : NotNegTo l l.length) : negB l = false := by
  unfold negB
  rw [Bool.eq_false_iff]
  intro e
  obtain ⟨x, hx, hx2⟩ := List.any_eq_true.1 e
  obtain ⟨j, hj, rfl⟩ := List.getElem_of_mem hx
  have := h j hj
  unfold at' at this
  rw [List.getElem?_eq_getElem hj] at this
  simp at hx2 this
  omega
theorem negB_yes {l : List Int} {i : Nat} (hi : i < l.length) (h : at' l i < 0) : negB l = true := by
  unfold negB
  refine List.any_eq_true.2 ⟨l[i], List.getElem_mem hi, ?_⟩
  unfold at' at h
  rw [List.getElem?_eq_getElem hi] at h
  simpa using h

def NegIs (l : List Int) (w : World) (e : Ending) (w' : World) : Prop := ∃ k : Int, e = .returned (.int .i64 k) ∧ decide (0 ≤ k) = negB l ∧ -1 ≤ k ∧ k ≤ 9223372036854775807 ∧ w = w'

set_option maxRecDepth 100000 in
set_option maxHeartbeats 1600000 in
theorem indexNeg_any (l : List Int) (v : Value) (w : World) (hv : IntsAt w w.heap.size v l) (hl : l.length ≤ 35184372088832) :
    Calls Try.prog 68 #[v, .func (.func 60) #[] #[]] w (NegIs l w) := by
  obtain ⟨a, ca, rfl, ha⟩ := hv
  have HA := Lib.hid ha
  clear ha
  go_enter Try.func68, Try.ntmps68
  go_wp2
  go_loop [8] (fun k => ∃ i : Nat, k = .int .i64 (i : Int) ∧ i ≤ l.length ∧ Hid (NotNegTo l i)) (fun k => l.length - (intOf k).toNat)
  case atStart => exact ⟨0, rfl, Nat.zero_le _, NotNegTo.start _⟩
  case round =>
    obtain ⟨i, rfl, hil, hE⟩ := hrel
    by_cases h1 : i < l.length
    · obtain ⟨g, off, rfl, hg, hc⟩ := HA.out.resolve_left (fun e => by rw [e] at h1; simp at h1)
      obtain ⟨x, hx⟩ : ∃ x, x = at' l i := ⟨_, rfl⟩
      have c0 : w.cell? ⟨g, off + i, none⟩ = some (.int .i64 x) := by rw [hx]; exact hc i h1
      have HX := Lib.hid hx
      clear hc hx hg
      go_wp2_with fail
      refine (neg_any x w).mono ?_
      rintro e w' ⟨rfl, rfl⟩
      by_cases h2 : x < 0
      · have HR := Lib.hid (negB_yes h1 (by rw [← HX.out]; exact h2))
        have hd : decide (x < 0) = true := decide_eq_true h2
        clear hE
        go_wp2
        go_ret
        exact ⟨(i : Int), rfl, by rw [HR.out]; simp, by omega, by omega, rfl⟩
      · have HE := Lib.hid (hE.out.round (by rw [← HX.out]; omega))
        have hd : decide (x < 0) = false := decide_eq_false h2
        clear hE
        go_wp2
        go_round
        case rel => exact ⟨i + 1, by go_num, by omega, HE.out⟩
        case measure => simp only [intOf]; omega
    · have e : i = l.length := by omega
      have HR := Lib.hid (negB_no (by rw [← e]; exact hE.out))
      clear e hE
      go_wp2
      go_ret
      exact ⟨-1, rfl, by rw [HR.out]; rfl, by omega, by omega, rfl⟩

set_option maxRecDepth 100000 in
theorem containsNeg_any (l : List Int) (v : Value) (w : World) (hv : IntsAt w w.heap.size v l) (hl : l.length ≤ 35184372088832) :
    Calls Try.prog 59 #[v, .func (.func 60) #[] #[]] w fun e w' => e = .returned (.bool (negB l)) ∧ w = w' := by
  have HC := Lib.hid (indexNeg_any l v w hv hl)
  obtain ⟨a, ca, rfl, _⟩ := hv
  go_enter Try.func59, Try.ntmps59
  go_wp2_with fail
  refine HC.out.mono ?_
  rintro e w1 ⟨k, rfl, hk, h1, h2, rfl⟩
  have HK := Lib.hid hk
  clear hk HC
  by_cases h0 : 0 ≤ k
  · have HR := Lib.hid (show negB l = true by rw [← HK.out]; exact decide_eq_true h0)
    go_wp2
    go_ret
    exact ⟨ret_bool (by rw [HR.out]), rfl⟩
  · have HR := Lib.hid (show negB l = decide (0 ≤ k) from HK.out.symm)
    go_wp2
    go_ret
    exact ⟨ret_bool (by rw [HR.out]), rfl⟩

/-- What Add and Rows answer: a list and an error's number. -/
def TupIs (l : List Int) (x : Int) (w : World) (e : Ending) (w' : World) : Prop := ∃ v, e = .returned (.tuple #[v, .int .i64 x]) ∧ OwnInts w' w.heap.size v l ∧ Below w.heap.size w w'

section
variable {w : World} {G : Nat → Nat} {X n : Nat} {mv : Value} {ms : List Nat} {ss : List Shp} {ls : Nat → List Int}
set_option maxRecDepth 100000 in
theorem rows_no (h : MNet w G X mv ms ss ls n) (m : Int) (hm : thereB m ss.length = false) : Calls Try.prog 48 #[.pointer (some ⟨X, 0, none⟩), .int .i64 m] w (TupIs [] 2 w) := by
  have HT := Lib.hid (there_any h m)
  rw [hm] at HT
  clear h hm
  go_enter Try.func48, Try.ntmps48
  go_wp2_with fail
  refine HT.out.mono ?_
  rintro e w' ⟨rfl, rfl⟩
  go_wp2
  go_ret2
  exact ⟨_, rfl, OwnInts.nil _ _, Below.refl _ _⟩

set_option maxRecDepth 100000 in
theorem rows_yes (h : MNet w G X mv ms ss ls n) {m : Nat} {l : List Int} (hm : m < ss.length) (hl : ls m = l) (hn : l.length ≤ 17592186044400) :
    Calls Try.prog 48 #[.pointer (some ⟨X, 0, none⟩), .int .i64 (m : Int)] w (TupIs l 0 w) := by
  obtain ⟨i3, qi, q0, q1, q2⟩ := info_parts Try.info3
  have HT := Lib.hid (there_any h (m : Int))
  have ht : thereB (m : Int) ss.length = true := decide_eq_true (by omega)
  rw [ht] at HT
  obtain ⟨b, hb⟩ : ∃ b, ms[m]? = some b := ⟨ms[m]'(by rw [h.mlen]; exact hm), List.getElem?_eq_getElem _⟩
  obtain ⟨a, c, rfl, hg⟩ := h.form
  obtain ⟨g, rfl⟩ := hg (fun e => by rw [e] at hm; simp at hm)
  have k0 := (h.alloc (.cells #[] 3)).c0
  have k1 := (h.alloc (.cells #[] 3)).ptr hb
  obtain ⟨fv, rv, _, r1, _, _, _, ro, _, _⟩ := ((h.alloc (.cells #[] 3)).mem m b ss[m] (List.getElem?_eq_getElem hm) hb).parts
  rw [hl] at ro
  have RO := Lib.hid ro
  clear h hb ht ro hg
  rcases Joins.ownsRow_forms RO.out with ⟨rfl, h0⟩ | ⟨gr, cap, rfl⟩
  · go_enter Try.func48, Try.ntmps48
    go_wp2_with fail
    refine HT.out.mono ?_
    rintro e w' ⟨rfl, rfl⟩
    obtain rfl := List.length_eq_zero_iff.1 h0
    go_wp2_with (at_builtin; refine wpList_append_own_none rfl _ _ 25 rfl w.heap.size 3 i3 1 Try.underlying25 qi (.slice (some ⟨w.heap.size, 0, none⟩) 0 0) 0 [] rfl (World.ownsRow_made w #[] 0 (Nat.le_refl _) (by decide) rfl) rfl ?_)
    go_ret2
    exact ⟨_, rfl, World.ownsRow_made w #[] 0 (Nat.le_refl _) (by decide) rfl, up_alloc _ _⟩
  · have HNW := Lib.hid (RO.out.at.news)
    go_enter Try.func48, Try.ntmps48
    go_wp2_with fail
    refine HT.out.mono ?_
    rintro e w' ⟨rfl, rfl⟩
    go_wp2_with (at_builtin; refine wpList_append_own _ rfl _ _ 25 rfl w.heap.size 3 i3 (.int .i64 0) 1 8 Try.underlying25 qi q0 q1 q2 rfl (by decide) (.slice (some ⟨w.heap.size, 0, none⟩) 0 0) 0 [] rfl (World.ownsRow_made w #[] 0 (Nat.le_refl _) (by decide) rfl) ⟨gr, 0, none⟩ l.length cap (lits l) rfl (by rw [lits_length, Nat.mul_one]) HNW.out (lits_one _) (by unfold maxLen; omega) (by omega) (by simp) ?_; intro v' w1 hown' hgrow _)
    go_ret2
    refine ⟨v', rfl, by unfold OwnInts; simpa only [Nat.zero_add, List.nil_append] using hown', ((Below.refl _ _).alloc (Nat.le_refl _) _).grown hgrow (by simp) (fun k hk => ?_)⟩
    simp [Value.ownBlock] at hk; omega
end

end Go.Proofs.Ytlandkindbmbfaa
