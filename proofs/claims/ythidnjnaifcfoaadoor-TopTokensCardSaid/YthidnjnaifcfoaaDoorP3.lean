/-
  Gaps apart, tokens alone: in plain Lean. No program in sight.
-/
import Derived.Test.YthidnjnaifcfoaaDoorP2
namespace Go.Proofs.YthidnjnaifcfoaaDoor
namespace Pl

/-- A gap ends where a gap has nothing to go over; what it went over is a gap and nothing else. -/
theorem gap_split : ∀ (k : Nat) (m : Md) (r rest : List UInt8), r.length ≤ k → gap m r = .inl rest → gap .out rest = .inl rest ∧ ∃ u, r = u ++ rest ∧ gap m u = .inl [] := by
  intro k
  induction k with
  | zero =>
    intro m r rest hk h
    have hr : r = [] := List.length_eq_zero_iff.1 (by omega)
    subst hr
    cases m with
    | out => rw [gap] at h; cases h; exact ⟨by rw [gap], [], rfl, by rw [gap]⟩
    | line => rw [gap] at h; cases h; exact ⟨by rw [gap], [], rfl, by rw [gap]⟩
    | block d st => rw [gap] at h; cases h
  | succ k ih =>
    intro m r rest hk h
    cases m with
    | out =>
      match r, hk, h with
      | [], _, h => rw [gap] at h; cases h; exact ⟨by rw [gap], [], rfl, by rw [gap]⟩
      | [a], _, h =>
        by_cases h1 : isB a = true
        · rw [gap, if_pos h1, gap] at h
          cases h
          exact ⟨by rw [gap], [a], rfl, by rw [gap, if_pos h1, gap]⟩
        by_cases h2 : a.toNat = 37
        · rw [gap, if_neg h1, if_pos h2, gap] at h
          cases h
          exact ⟨by rw [gap], [a], rfl, by rw [gap, if_neg h1, if_pos h2, gap]⟩
        · rw [gap, if_neg h1, if_neg h2] at h
          cases h
          exact ⟨by rw [gap, if_neg h1, if_neg h2], [], rfl, by rw [gap]⟩
      | a :: b :: r, hk, h =>
        by_cases h1 : isB a = true
        · rw [gap, if_pos h1] at h
          obtain ⟨e1, u, e2, e3⟩ := ih .out (b :: r) rest (by simp at hk ⊢; omega) h
          refine ⟨e1, a :: u, by rw [e2]; rfl, ?_⟩
          cases u with
          | nil => rw [gap, if_pos h1]; exact e3
          | cons c u => rw [gap, if_pos h1]; exact e3
        by_cases h2 : a.toNat = 37
        · rw [gap, if_neg h1, if_pos h2] at h
          obtain ⟨e1, u, e2, e3⟩ := ih .line (b :: r) rest (by simp at hk ⊢; omega) h
          refine ⟨e1, a :: u, by rw [e2]; rfl, ?_⟩
          cases u with
          | nil => rw [gap, if_neg h1, if_pos h2]; exact e3
          | cons c u => rw [gap, if_neg h1, if_pos h2]; exact e3
        by_cases h3 : a.toNat = 47 ∧ b.toNat = 42
        · rw [gap, if_neg h1, if_neg h2, if_pos h3] at h
          obtain ⟨e1, u, e2, e3⟩ := ih (.block 1 (a :: b :: r)) r rest (by simp at hk ⊢; omega) h
          refine ⟨e1, a :: b :: u, by rw [e2]; rfl, ?_⟩
          rw [gap, if_neg h1, if_neg h2, if_pos h3]
          have key : ∀ (k : Nat) (d : Nat) (st st' u : List UInt8), u.length ≤ k → gap (.block d st) u = .inl [] → gap (.block d st') u = .inl [] := by
            intro k
            induction k with
            | zero =>
              intro d st st' u hk h
              have hr : u = [] := List.length_eq_zero_iff.1 (by omega)
              subst hr
              rw [gap] at h; cases h
            | succ k ih =>
              intro d st st' u hk h
              match u, hk, h with
              | [], _, h => rw [gap] at h; cases h
              | [_], _, h => rw [gap] at h; cases h
              | a :: b :: u, hk, h =>
                rw [gap] at h ⊢
                split
                · rename_i c; rw [if_pos c] at h; exact ih _ _ _ _ (by simp at hk; omega) h
                · rename_i c; rw [if_neg c] at h
                  split
                  · rename_i c; rw [if_pos c] at h
                    split
                    · rename_i c; rw [if_pos c] at h; exact h
                    · rename_i c; rw [if_neg c] at h; exact ih _ _ _ _ (by simp at hk; omega) h
                  · rename_i c; rw [if_neg c] at h; exact ih _ _ _ _ (by simp at hk ⊢; omega) h
          exact key u.length 1 _ _ u (Nat.le_refl _) e3
        · rw [gap, if_neg h1, if_neg h2, if_neg h3] at h
          cases h
          exact ⟨by rw [gap, if_neg h1, if_neg h2, if_neg h3], [], rfl, by rw [gap]⟩
    | line =>
      match r, hk, h with
      | [], _, h => rw [gap] at h; cases h; exact ⟨by rw [gap], [], rfl, by rw [gap]⟩
      | a :: r, hk, h =>
        by_cases h1 : a.toNat = 10
        · rw [gap, if_pos h1] at h
          obtain ⟨e1, u, e2, e3⟩ := ih .out r rest (by simp at hk; omega) h
          exact ⟨e1, a :: u, by rw [e2]; rfl, by rw [gap, if_pos h1]; exact e3⟩
        · rw [gap, if_neg h1] at h
          obtain ⟨e1, u, e2, e3⟩ := ih .line r rest (by simp at hk; omega) h
          exact ⟨e1, a :: u, by rw [e2]; rfl, by rw [gap, if_neg h1]; exact e3⟩
    | block d st =>
      match r, hk, h with
      | [], _, h => rw [gap] at h; cases h
      | [_], _, h => rw [gap] at h; cases h
      | a :: b :: r, hk, h =>
        by_cases h1 : a.toNat = 47 ∧ b.toNat = 42
        · rw [gap, if_pos h1] at h
          obtain ⟨e1, u, e2, e3⟩ := ih _ r rest (by simp at hk; omega) h
          exact ⟨e1, a :: b :: u, by rw [e2]; rfl, by rw [gap, if_pos h1]; exact e3⟩
        by_cases h2 : a.toNat = 42 ∧ b.toNat = 47
        · by_cases h3 : d = 1
          · rw [gap, if_neg h1, if_pos h2, if_pos h3] at h
            obtain ⟨e1, u, e2, e3⟩ := ih _ r rest (by simp at hk; omega) h
            exact ⟨e1, a :: b :: u, by rw [e2]; rfl, by rw [gap, if_neg h1, if_pos h2, if_pos h3]; exact e3⟩
          · rw [gap, if_neg h1, if_pos h2, if_neg h3] at h
            obtain ⟨e1, u, e2, e3⟩ := ih _ r rest (by simp at hk; omega) h
            exact ⟨e1, a :: b :: u, by rw [e2]; rfl, by rw [gap, if_neg h1, if_pos h2, if_neg h3]; exact e3⟩
        · rw [gap, if_neg h1, if_neg h2] at h
          obtain ⟨e1, u, e2, e3⟩ := ih (.block d st) (b :: r) rest (by simp at hk ⊢; omega) h
          cases u with
          | nil =>
            rw [gap] at e3; cases e3
          | cons c u =>
            rw [List.cons_append, List.cons.injEq] at e2
            obtain ⟨rfl, e2⟩ := e2
            exact ⟨e1, a :: b :: u, by rw [e2]; rfl, by rw [gap, if_neg h1, if_neg h2]; exact e3⟩

theorem take_while (p : UInt8 → Bool) : ∀ f : List UInt8, f.take (f.takeWhile p).length = f.takeWhile p
  | [] => rfl
  | c :: r => by
    rw [List.takeWhile_cons]
    split
    · rw [List.length_cons, List.take_succ_cons, take_while p r]
    · rfl

inductive TokOk : List UInt8 → Nat → Nat → List UInt8 → Int → Prop
  | int (w f : List UInt8) (v : Int) : (w = f ∨ ∃ c, w = c :: f ∧ c.toNat = 45) → f ≠ [] → f.all isD = true → intV w = some v → TokOk w 3 0 [] v
  | no (w : List UInt8) : w.map (·.toNat) = [110, 111, 116] → TokOk w 10 0 [] 0
  | name (c : UInt8) (r : List UInt8) : (c :: r).all isW = true → (c :: r).length ≤ 64 → (c :: r).map (·.toNat) ≠ [110, 111, 116] → isL c = true → TokOk (c :: r) 1 0 (c :: r) 0
  | var (c : UInt8) (r : List UInt8) : (c :: r).all isW = true → (c :: r).length ≤ 64 → isL c = false → isD c = false → TokOk (c :: r) 2 0 (c :: r) 0
  | text (c : UInt8) (w t : List UInt8) : c.toNat = 34 → txt [] w = .ok t [] → t.length ≤ 255 → TokOk (c :: w) 4 0 t 0
  | sign (w : List UInt8) (p : List Nat) (kind op : Nat) : (p, kind, op) ∈ signs → w.map (·.toNat) = p → TokOk w kind op [] 0
/-- A token is as long as it can be. -/
def Munch (kind op : Nat) (rest : List UInt8) : Prop :=
  (kind ≤ 3 ∨ kind = 10 → hdNot isW rest) ∧ (kind = 11 ∧ (op = 3 ∨ op = 5) → hdNot (fun c => decide (c.toNat = 61)) rest)

theorem pre_split {p : List Nat} {r : List UInt8} (h : pre p r = true) : r = r.take p.length ++ r.drop p.length ∧ (r.take p.length).map (·.toNat) = p := ⟨(List.take_append_drop _ _).symm, of_decide_eq_true h⟩

theorem next_tok {r : List UInt8} {kind op : Nat} {text rest : List UInt8} {int : Int} (h : next r = .tok kind op text int rest) : ∃ w, r = w ++ rest ∧ w ≠ [] ∧ TokOk w kind op text int ∧ Munch kind op rest := by
  cases r with
  | nil => rw [next] at h; cases h
  | cons c r =>
    have hint : ∀ (f : List UInt8) (hf : (c :: r) = f ∨ (c :: r) = c :: f ∧ c.toNat = 45) (h1 : ∃ d f', f = d :: f' ∧ isD d = true), nextInt (c :: r) f = .tok kind op text int rest → ∃ w, c :: r = w ++ rest ∧ w ≠ [] ∧ TokOk w kind op text int ∧ Munch kind op rest := by
      intro f hf ⟨d, f', hd1, hd2⟩ h
      unfold nextInt at h
      split at h
      · rename_i hall
        split at h
        · rename_i v hv
          cases h
          have hsp := while_split isW f
          have htw : f.takeWhile isW ≠ [] := by
            rw [hd1, List.takeWhile_cons, if_pos (by unfold isW; rw [hd2]; rfl)]; simp
          refine ⟨(c :: r).take ((c :: r).length - (f.dropWhile isW).length), ?_, ?_, ?_, fun _ => while_hd isW f, fun h => by omega⟩
          · rcases hf with e | ⟨e, _⟩
            · rw [e]
              have : f.take (f.length - (f.dropWhile isW).length) = f.takeWhile isW := by
                have h5 : f.length - (f.dropWhile isW).length = (f.takeWhile isW).length := by
                  have := congrArg List.length hsp
                  rw [List.length_append] at this; omega
                rw [h5]; exact take_while isW f
              rw [this]; exact hsp
            · rw [e]
              have : (c :: f).take ((c :: f).length - (f.dropWhile isW).length) = c :: f.takeWhile isW := by
                have h5 : (c :: f).length - (f.dropWhile isW).length = (f.takeWhile isW).length + 1 := by
                  have := congrArg List.length hsp
                  rw [List.length_append] at this; simp; omega
                rw [h5, List.take_succ_cons, take_while isW f]
              rw [this, List.cons_append, ← hsp]
          · have h5 := congrArg List.length hsp
            rw [List.length_append] at h5
            have h6 : 0 < (f.takeWhile isW).length := by
              rcases hh : f.takeWhile isW with _ | ⟨x, y⟩
              · exact absurd hh htw
              · simp
            intro e
            have h7 := congrArg List.length e
            rw [List.length_take] at h7
            have h8 : f.length ≤ (c :: r).length := by rcases hf with e | ⟨e, _⟩ <;> rw [e] <;> simp
            simp at h7 h8
            omega
          · refine TokOk.int _ (f.takeWhile isW) _ ?_ htw hall hv
            rcases hf with e | ⟨e, e2⟩
            · left
              rw [e]
              have h5 : f.length - (f.dropWhile isW).length = (f.takeWhile isW).length := by
                have := congrArg List.length hsp
                rw [List.length_append] at this; omega
              rw [h5]; exact take_while isW f
            · right
              refine ⟨c, ?_, e2⟩
              rw [e]
              have h5 : (c :: f).length - (f.dropWhile isW).length = (f.takeWhile isW).length + 1 := by
                have := congrArg List.length hsp
                rw [List.length_append] at this; simp; omega
              rw [h5, List.take_succ_cons, take_while isW f]
        · cases h
      · cases h
    unfold next at h
    simp only at h
    by_cases h1 : isD c = true
    · rw [if_pos h1] at h
      exact hint (c :: r) (.inl rfl) ⟨c, r, rfl, h1⟩ h
    rw [if_neg h1] at h
    by_cases h2 : c.toNat = 45 ∧ hdP isD r = true
    · rw [if_pos h2] at h
      cases r with
      | nil => exact absurd h2.2 (by simp [hdP])
      | cons d r => exact hint (d :: r) (.inr ⟨rfl, h2.1⟩) ⟨d, r, rfl, h2.2⟩ h
    · rw [if_neg h2] at h
      by_cases h3 : isW c = true
      · rw [if_pos h3] at h
        unfold nextWord at h
        have hsp := while_split isW (c :: r)
        have htw : (c :: r).takeWhile isW = c :: r.takeWhile isW := by rw [List.takeWhile_cons, if_pos h3]
        have hall := while_all isW (c :: r)
        have hhd := while_hd isW (c :: r)
        split at h
        · cases h
        · rename_i h4
          split at h
          · rename_i h5
            cases h
            exact ⟨_, hsp, by rw [htw]; simp, TokOk.no _ h5, fun _ => hhd, fun h => by omega⟩
          · rename_i h5
            rw [htw] at h4 h5 hall hsp
            split at h
            · rename_i h6
              cases h
              refine ⟨_, hsp, by simp, ?_, fun _ => hhd, fun h => by omega⟩
              rw [htw]
              exact TokOk.name c _ hall (by omega) h5 h6
            · rename_i h6
              cases h
              refine ⟨_, hsp, by simp, ?_, fun _ => hhd, fun h => by omega⟩
              rw [htw]
              exact TokOk.var c _ hall (by omega) (by simpa [hdP] using h6) (by simpa using h1)
      · rw [if_neg h3] at h
        by_cases h4 : c.toNat = 34
        · rw [if_pos h4] at h
          unfold nextText at h
          cases he : txt [] r with
          | quote => rw [he] at h; cases h
          | esc x => rw [he] at h; cases h
          | long => rw [he] at h; cases h
          | ok t rs =>
            rw [he] at h
            cases h
            obtain ⟨u, hu1, hu2, hu3⟩ := txt_split r.length [] r _ _ (Nat.le_refl _) he (by simp)
            exact ⟨c :: u, by rw [hu1]; rfl, by simp, TokOk.text c u _ h4 hu2 hu3, fun h => by omega, fun h => by omega⟩
        · rw [if_neg h4] at h
          unfold nextSign at h
          split at h
          · rename_i p kd o hf
            cases h
            have hm := List.mem_of_find?_eq_some hf
            have hp : pre p (c :: r) = true := by simpa using List.find?_some hf
            obtain ⟨hs1, hs2⟩ := pre_split hp
            refine ⟨_, hs1, ?_, TokOk.sign _ p _ _ hm hs2, ?_, ?_⟩
            · intro e
              rw [e] at hs2
              simp only [List.map_nil] at hs2
              subst hs2
              simp [signs] at hm
            · intro hk
              simp only [signs, List.mem_cons, Prod.mk.injEq, List.not_mem_nil, or_false] at hm
              omega
            · rintro ⟨hk, ho⟩
              simp only [signs, List.mem_cons, Prod.mk.injEq, List.not_mem_nil, or_false] at hm
              have hp2 : (p = [60] ∧ op = 3) ∨ (p = [62] ∧ op = 5) := by
                rcases hm with h | h | h | h | h | h | h | h | h | h | h <;> obtain ⟨e1, e2, e3⟩ := h <;> first | exact .inl ⟨e1, e3⟩ | exact .inr ⟨e1, e3⟩ | (exfalso; omega)
              have hlen : p.length = 1 := by rcases hp2 with ⟨e, _⟩ | ⟨e, _⟩ <;> rw [e] <;> rfl
              rw [hlen] at hs2 ⊢
              simp only [List.take_succ_cons, List.take_zero, List.map_cons, List.map_nil] at hs2
              simp only [List.drop_succ_cons, List.drop_zero]
              cases r with
              | nil => trivial
              | cons d r =>
                show decide (d.toNat = 61) = false
                rw [decide_eq_false_iff_not]
                intro hd
                rcases hp2 with ⟨e1, e2⟩ | ⟨e1, e2⟩
                · rw [e1] at hs2
                  have hc : c.toNat = 60 := by simpa using hs2
                  have hf2 : signs.find? (fun s => pre s.1 (c :: d :: r)) = some ([60, 61], 11, 4) := by simp [signs, List.find?, pre, hc, hd]
                  rw [hf2] at hf
                  simp at hf
                  omega
                · rw [e1] at hs2
                  have hc : c.toNat = 62 := by simpa using hs2
                  have hf2 : signs.find? (fun s => pre s.1 (c :: d :: r)) = some ([62, 61], 11, 6) := by simp [signs, List.find?, pre, hc, hd]
                  rw [hf2] at hf
                  simp at hf
                  omega
          · cases h

/-- A token alone is that token. -/
theorem tok_self {w text : List UInt8} {kind op : Nat} {int : Int} (h : TokOk w kind op text int) : gap .out w = .inl w ∧ next w = .tok kind op text int [] := by
  have hgap : ∀ (c : UInt8) (r : List UInt8), isB c = false → c.toNat ≠ 37 → c.toNat ≠ 47 → gap .out (c :: r) = .inl (c :: r) := fun c r h1 h2 h3 => by
    cases r with
    | nil => rw [gap, if_neg (by simp [h1]), if_neg h2]
    | cons d r => rw [gap, if_neg (by simp [h1]), if_neg h2, if_neg (fun h => h3 h.1)]
  have hw : ∀ c : UInt8, isW c = true → isB c = false ∧ c.toNat ≠ 37 ∧ c.toNat ≠ 47 := fun c h => by
    simp only [isW, isD, isU, isL, isB, Bool.or_eq_true, Bool.and_eq_true, decide_eq_true_eq, Bool.or_eq_false_iff, decide_eq_false_iff_not] at h ⊢
    omega
  have hall : ∀ f : List UInt8, f.all isD = true → f.all isW = true := fun f h => by
    rw [List.all_eq_true] at h ⊢
    intro x hx
    unfold isW
    rw [h x hx]; rfl
  cases h with
  | int w f v h1 h2 h3 h4 =>
    obtain ⟨d, f', hf⟩ : ∃ d f', f = d :: f' := by
      cases f with
      | nil => exact absurd rfl h2
      | cons d f' => exact ⟨d, f', rfl⟩
    subst hf
    have hd : isD d = true := by rw [List.all_cons, Bool.and_eq_true] at h3; exact h3.1
    have hd2 : isW d = true := by unfold isW; rw [hd]; rfl
    obtain ⟨e1, e2⟩ := while_self (hall _ h3)
    rcases h1 with rfl | ⟨c, rfl, hc⟩
    · obtain ⟨a1, a2, a3⟩ := hw d hd2
      refine ⟨hgap _ _ a1 a2 a3, ?_⟩
      unfold next
      simp only
      rw [if_pos hd]
      unfold nextInt
      rw [e1, e2, if_pos h3]
      simp only [List.length_nil, Nat.sub_zero, List.take_length, h4]
    · refine ⟨hgap _ _ (by simp [isB, hc]) (by omega) (by omega), ?_⟩
      unfold next
      simp only
      have hnd : isD c = false := by simp [isD, hc]
      rw [if_neg (by simp [hnd]), if_pos ⟨hc, hd⟩]
      unfold nextInt
      rw [e1, e2, if_pos h3]
      simp only [List.length_nil, Nat.sub_zero, List.take_length, h4]
  | no w h1 =>
    match w, h1 with
    | [a, b, c], h1 =>
      simp only [List.map_cons, List.map_nil, List.cons.injEq, and_true] at h1
      obtain ⟨ha, hb, hc⟩ := h1
      have wa : isW a = true := by simp [isW, isL, ha]
      have wb : isW b = true := by simp [isW, isL, hb]
      have wc : isW c = true := by simp [isW, isL, hc]
      obtain ⟨a1, a2, a3⟩ := hw a wa
      refine ⟨hgap _ _ a1 a2 a3, ?_⟩
      unfold next
      simp only
      have hnd : isD a = false := by simp [isD, ha]
      rw [if_neg (by simp [hnd]), if_neg (by omega), if_pos wa]
      obtain ⟨e1, e2⟩ := while_self (p := isW) (w := [a, b, c]) (by simp [wa, wb, wc])
      unfold nextWord
      rw [e1, e2, if_neg (by simp), if_pos (by simp [ha, hb, hc])]
    | [], h1 => simp at h1
    | [_], h1 => simp at h1
    | [_, _], h1 => simp at h1
    | _ :: _ :: _ :: _ :: _, h1 => simp at h1
  | name c r h1 h2 h3 h4 =>
    have wc : isW c = true := by rw [List.all_cons, Bool.and_eq_true] at h1; exact h1.1
    obtain ⟨a1, a2, a3⟩ := hw c wc
    refine ⟨hgap _ _ a1 a2 a3, ?_⟩
    have hl : 97 ≤ c.toNat := by unfold isL at h4; simp at h4; exact h4.1
    unfold next
    simp only
    rw [if_neg (by simp [isD]; omega), if_neg (by omega), if_pos wc]
    obtain ⟨e1, e2⟩ := while_self h1
    unfold nextWord
    rw [e1, e2, if_neg (by omega), if_neg h3, if_pos (show hdP isL (c :: r) = true from h4)]
  | var c r h1 h2 h3 h4 =>
    have wc : isW c = true := by rw [List.all_cons, Bool.and_eq_true] at h1; exact h1.1
    obtain ⟨a1, a2, a3⟩ := hw c wc
    refine ⟨hgap _ _ a1 a2 a3, ?_⟩
    unfold next
    simp only
    have hu : c.toNat ≠ 45 := by
      simp only [isW, isD, isU, isL, Bool.or_eq_true, Bool.and_eq_true, decide_eq_true_eq] at wc; omega
    rw [if_neg (by simp [h4]), if_neg (fun h => hu h.1), if_pos wc]
    obtain ⟨e1, e2⟩ := while_self h1
    unfold nextWord
    rw [e1, e2, if_neg (by omega), if_neg ?_, if_neg (show ¬ hdP isL (c :: r) = true by show ¬ isL c = true; simp [h3])]
    intro hm
    simp only [List.map_cons, List.cons.injEq] at hm
    simp [isL, hm.1] at h3
  | text c w t h1 h2 h3 =>
    refine ⟨hgap _ _ (by simp [isB, h1]) (by omega) (by omega), ?_⟩
    unfold next
    simp only
    rw [if_neg (by simp [isD, h1]), if_neg (by omega), if_neg (by simp [isW, isD, isU, isL, h1]), if_pos h1]
    unfold nextText
    rw [h2]
  | sign w p kind op h1 h2 =>
    simp only [signs, List.mem_cons, Prod.mk.injEq, List.not_mem_nil, or_false] at h1
    have two : ∀ x y : Nat, p = [x, y] → ∃ a b, w = [a, b] ∧ a.toNat = x ∧ b.toNat = y := fun x y hp => by
      subst hp
      match w, h2 with
      | [a, b], h2 => simp at h2; exact ⟨a, b, rfl, h2.1, h2.2⟩
      | [], h2 => simp at h2
      | [_], h2 => simp at h2
      | _ :: _ :: _ :: _, h2 => simp at h2
    have one : ∀ x : Nat, p = [x] → ∃ a, w = [a] ∧ a.toNat = x := fun x hp => by
      subst hp
      match w, h2 with
      | [a], h2 => simp at h2; exact ⟨a, rfl, h2⟩
      | [], h2 => simp at h2
      | _ :: _ :: _, h2 => simp at h2
    rcases h1 with h | h | h | h | h | h | h | h | h | h | h <;> obtain ⟨rfl, rfl, rfl⟩ := h
    all_goals first
      | (obtain ⟨a, b, rfl, ha, hb⟩ := two _ _ rfl
         refine ⟨hgap _ _ (by simp [isB, ha]) (by omega) (by omega), ?_⟩
         unfold next
         simp only
         rw [if_neg (by simp [isD, ha]), if_neg (by rintro ⟨h, _⟩; omega), if_neg (by simp [isW, isD, isU, isL, ha]), if_neg (by omega)]
         unfold nextSign
         simp [signs, List.find?, pre, ha, hb])
      | (obtain ⟨a, rfl, ha⟩ := one _ rfl
         refine ⟨hgap _ _ (by simp [isB, ha]) (by omega) (by omega), ?_⟩
         unfold next
         simp only
         rw [if_neg (by simp [isD, ha]), if_neg (by rintro ⟨h, _⟩; omega), if_neg (by simp [isW, isD, isU, isL, ha]), if_neg (by omega)]
         unfold nextSign
         simp [signs, List.find?, pre, ha])

end Pl
end Go.Proofs.YthidnjnaifcfoaaDoor
