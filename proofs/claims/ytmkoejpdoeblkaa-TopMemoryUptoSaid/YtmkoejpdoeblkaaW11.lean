/-
  The walks of store.New and of a store's Copy. Conditions: the lists within the form's own reach.
-/
import Derived.Test.YtmkoejpdoeblkaaW10
namespace Go.Proofs.Ytmkoejpdoeblkaa
open Go.RowKit Pl

def NewOk (A : List Int) (w : World) (e : Ending) (w' : World) : Prop :=
  Below w.heap.size w w' ∧ ((okA A = false ∧ e = .returned (.tuple #[.pointer none, .int .i64 2])) ∨
    (okA A = true ∧ ∃ X G V, e = .returned (.tuple #[.pointer (some ⟨X, 0, none⟩), .int .i64 0]) ∧ StoreAt G X A [] [] V w' ∧ V.N = 0 ∧ V.lv = .slice none 0 0 ∧ ∀ k, G k ≠ .out → w.heap.size ≤ k))
def okTo (A : List Int) (i : Nat) : Prop := ∀ j, j < i → 0 ≤ at' A j ∧ at' A j ≤ 8
theorem okTo.full {A : List Int} (h : okTo A A.length) (hl : A.length ≤ 128) : okA A = true := by
  unfold okA
  rw [Bool.and_eq_true, List.all_eq_true]
  refine ⟨decide_eq_true hl, fun a ha => ?_⟩
  obtain ⟨j, hj, rfl⟩ := List.getElem_of_mem ha
  have := h j hj
  rw [at_eq hj] at this
  exact decide_eq_true this
theorem okA_not {A : List Int} {i : Nat} {x : Int} (hx : x = at' A i) (hi : i < A.length) (h : x < 0 ∨ 8 < x) : okA A = false := by
  refine Bool.eq_false_iff.2 (fun e => ?_)
  have := okA_at e i
  omega
theorem okA_long {A : List Int} (h : ¬ A.length ≤ 128) : okA A = false := by
  unfold okA
  rw [decide_eq_false h]; rfl
open Classical in
noncomputable def newG (b : Nat) (u : Value) : Nat → Rl := fun k => if k = b + 3 then .st else if k = b then .num else if k = b + 1 then .of else if k = b + 2 then .whr else if u.ownBlock = some k then .imm else .out
theorem newG_st (b : Nat) (u : Value) : newG b u (b + 3) = .st := by simp [newG]
theorem newG_num (b : Nat) (u : Value) : newG b u b = .num := by simp [newG]
theorem newG_of (b : Nat) (u : Value) : newG b u (b + 1) = .of := by simp [newG]
theorem newG_whr (b : Nat) (u : Value) : newG b u (b + 2) = .whr := by simp [newG]
theorem newG_imm {b k : Nat} {u : Value} (h : u.ownBlock = some k) (hk : k < b) : newG b u k = .imm := by
  unfold newG
  rw [if_neg (by omega), if_neg (by omega), if_neg (by omega), if_neg (by omega), if_pos h]
theorem newG_out {b k : Nat} {u : Value} (h : u.ownBlock ≠ some k) (hk : k < b ∨ b + 4 ≤ k) : newG b u k = .out := by
  unfold newG
  rw [if_neg (by omega), if_neg (by omega), if_neg (by omega), if_neg (by omega), if_neg h]
theorem store_new {w : World} {A : List Int} {av : Value} {b B : Nat} (hb : w.heap.size = b) (hB : B ≤ b) (ha : OwnInts w B av A) (hA : okA A = true) (W : World)
    (hW : W = (((w.alloc (.map #[] 0)).alloc (.map #[] 0)).alloc (.map #[] 0)).alloc (.cells #[av, .slice none 0 0, .slice none 0 0, .map (some b), .map (some (b + 1)), .map (some (b + 2)), .int .i64 0, .slice none 0 0] 53)) :
    StoreAt (newG b av) (b + 3) A [] [] ⟨av, .slice none 0 0, .slice none 0 0, b, b + 1, b + 2, 0, .slice none 0 0⟩ W ∧ ∀ k, newG b av k ≠ .out → B ≤ k := by
  obtain ⟨w1, hw1⟩ : ∃ w1, w1 = w.alloc (.map #[] 0) := ⟨_, rfl⟩
  obtain ⟨w2, hw2⟩ : ∃ w2, w2 = w1.alloc (.map #[] 0) := ⟨_, rfl⟩
  obtain ⟨w3, hw3⟩ : ∃ w3, w3 = w2.alloc (.map #[] 0) := ⟨_, rfl⟩
  rw [← hw1, ← hw2, ← hw3] at hW
  have z1 : w1.heap.size = b + 1 := by rw [hw1]; simp [hb]
  have z2 : w2.heap.size = b + 2 := by rw [hw2]; simp [z1]
  have z3 : w3.heap.size = b + 3 := by rw [hw3]; simp [z2]
  have m1 := MapAt.made w 58
  have m2 := MapAt.made w1 3
  have m3 := MapAt.made w2 72
  rw [← hw1, hb] at m1
  rw [← hw2, z1] at m2
  rw [← hw3, z2] at m3
  have e3 : ∀ k, k < b + 3 → W.heap[k]? = w3.heap[k]? := fun k hk => by rw [hW]; exact Below.heap_alloc _ _ _ (by omega)
  have e2 : ∀ k, k < b + 2 → w3.heap[k]? = w2.heap[k]? := fun k hk => by rw [hw3]; exact Below.heap_alloc _ _ _ (by omega)
  have e1 : ∀ k, k < b + 1 → w2.heap[k]? = w1.heap[k]? := fun k hk => by rw [hw2]; exact Below.heap_alloc _ _ _ (by omega)
  have M1 : MapAt 58 W b 0 (fun _ => none) := m1.same ((e3 b (by omega)).trans ((e2 b (by omega)).trans (e1 b (by omega))))
  have M2 : MapAt 3 W (b + 1) 0 (fun _ => none) := m2.same ((e3 (b + 1) (by omega)).trans (e2 (b + 1) (by omega)))
  have M3 : MapAt 72 W (b + 2) 0 (fun _ => none) := m3.same (e3 (b + 2) (by omega))
  have hblk : W.heap[b + 3]? = some (.cells #[av, .slice none 0 0, .slice none 0 0, .map (some b), .map (some (b + 1)), .map (some (b + 2)), .int .i64 0, .slice none 0 0] 53) := by
    rw [hW, ← z3]; exact heap_alloc_new _ _
  have hbel : Below w.heap.size w W := by
    rw [hW, hw3, hw2, hw1]
    exact ((((Below.refl _ _).alloc (Nat.le_refl _) _).alloc (by simp) _).alloc (by simp; omega) _).alloc (by simp; omega) _
  have haW := ha.below hbel
  have hzW : W.heap.size = b + 4 := by rw [hW]; simp [z3]
  refine ⟨⟨hblk, newG_st _ _, ⟨ownsRow_low haW (Nat.zero_le _), fun k hk => newG_imm hk (by rw [← hb]; exact (ha.lt k hk).2)⟩, ⟨[], [], rfl, rfl, World.ownsRow_nil _ _ _ _, (fun k h => by cases h), fun j r u h => by simp at h⟩,
    ⟨World.ownsRow_nil _ _ _ _, (fun k h => by cases h), by simp, fun j r h => by simp at h⟩, ⟨newG_num _ _, _, M1, fun r _ _ => rfl⟩, ⟨_, M2, newG_of _ _, fun p _ => OwnD.nil _ _⟩, ⟨_, M3, newG_whr _ _, fun x _ => OwnD.nil _ _⟩, by simp, (fun r h => by simp at h), List.nodup_nil, fun k hk => ?_, hA⟩, fun k hk => ?_⟩
  · exact newG_out (fun e => by have := (ha.lt k e).2; omega) (.inr (by omega))
  · refine Decidable.byContradiction fun hn => hk (newG_out (fun e => hn (ha.lt k e).1) (.inl (by omega)))

set_option maxRecDepth 100000 in
set_option maxHeartbeats 3200000 in
theorem new_any (A : List Int) (v : Value) (w : World) (hv : IntsIn w All v A) (hl : A.length ≤ 1048576) : Calls Try.prog 4 #[v] w (NewOk A w) := by
  have hmm := @run_makeMap Try.prog
  obtain ⟨a, c, rfl, hfa⟩ := hv.form
  have HV := Lib.hid hv
  have HFA := Lib.hid hfa
  clear hv hfa
  by_cases h1 : A.length ≤ 128
  · have hd : decide ((A.length : Int) > 128) = false := decide_eq_false (by omega)
    have hd' : ¬ 128 < A.length := by omega
    go_enter Try.func4, Try.ntmps4
    go_wp2
    clear hd hd'
    go_loop [11] (fun k => ∃ i : Nat, k = .int .i64 (i : Int) ∧ i ≤ A.length ∧ Hid (okTo A i)) (fun k => A.length - (intOf k).toNat)
    case atStart => exact ⟨0, rfl, Nat.zero_le _, Lib.hid (fun j hj => by omega)⟩
    case round =>
      obtain ⟨i, rfl, hil, hE⟩ := hrel
      by_cases h2 : i < A.length
      · obtain ⟨g, off, rfl⟩ := HFA.out (fun e => by rw [e] at h2; simp at h2)
        obtain ⟨x, hx⟩ : ∃ x, x = at' A i := ⟨_, rfl⟩
        have hc : w.cell? ⟨g, off + i, none⟩ = some (.int .i64 x) := by rw [hx]; exact HV.out.at h2
        by_cases h3 : x < 0
        · have hd : decide (x < 0) = true := decide_eq_true h3
          have HR := Lib.hid (okA_not hx h2 (.inl h3))
          clear h3 hx
          go_wp2
          go_ret2
          exact ⟨Below.refl _ _, .inl ⟨HR.out, rfl⟩⟩
        · have hd : decide (x < 0) = false := decide_eq_false h3
          by_cases h4 : x > 8
          · have hd2 : decide (x > 8) = true := decide_eq_true h4
            have HR := Lib.hid (okA_not hx h2 (.inr h4))
            clear h3 h4 hx
            go_wp2
            go_ret2
            exact ⟨Below.refl _ _, .inl ⟨HR.out, rfl⟩⟩
          · have hd2 : decide (x > 8) = false := decide_eq_false h4
            have HE : Hid (okTo A (i + 1)) := Lib.hid (fun j hj => by
              by_cases e : j = i
              · subst e; rw [← hx]; omega
              · exact hE.out j (by omega))
            clear h3 h4 hx
            go_wp2
            go_round
            case rel => exact ⟨i + 1, by go_num, by omega, HE⟩
            case measure => simp only [intOf]; omega
      · have e : i = A.length := by omega
        have HA := Lib.hid (okTo.full (by have := hE.out; rw [e] at this; exact this) h1)
        clear e hE
        go_wp2_with fail
        refine (clone_any A _ _ HV.out (by omega)).mono ?_
        rintro e w3 ⟨av, rfl, ho, hb⟩
        obtain ⟨a3, n3, c3, rfl⟩ := ho.form
        have HO := Lib.hid ho
        have HB := Lib.hid hb
        clear ho hb
        go_wp2
        go_ret2
        obtain ⟨h5, h6⟩ := store_new (b := w3.heap.size) rfl HB.out.size HO.out HA.out _ rfl
        refine ⟨?_, .inr ⟨HA.out, w3.heap.size + 3, _, _, rfl, h5, rfl, rfl, h6⟩⟩
        have hs := HB.out.size
        exact HB.out.trans (((((Below.refl _ _).alloc hs _).alloc (by simp; omega) _).alloc (by simp; omega) _).alloc (by simp; omega) _)
  · have hd : decide ((A.length : Int) > 128) = true := decide_eq_true (by omega)
    have hd' : 128 < A.length := by omega
    have HR := Lib.hid (okA_long h1)
    clear h1
    go_enter Try.func4, Try.ntmps4
    go_wp2
    go_ret2
    exact ⟨Below.refl _ _, .inl ⟨HR.out, rfl⟩⟩
end Go.Proofs.Ytmkoejpdoeblkaa
