/-
  The walks of the table's All: an iterator over its ids and constants. Conditions: the table as it stands.
-/
import Derived.Test.YtijmogehmcjopaaDoorW21
import Derived.RangeFuncBox
import Derived.RangeFuncLeaves
import Derived.Shelf.Abstract
import Derived.WalkKit
import Derived.OwnWalkIn
import Derived.TacticsInMore
import Derived.LoopNIn
import Derived.LoopIn
namespace Go.Proofs.YtijmogehmcjopaaDoor
open Go.RowKit Go.Shelf Ct
attribute [local go_sem] Oper.semAt_some

def cn0 : Cn := ⟨0, 0, []⟩
def upto (ids : List Cn) (k : Nat) : List (Nat × Cn) := (List.range k).map fun j => (j, ids.getD j cn0)
theorem upto_succ (ids : List Cn) (k : Nat) : upto ids (k + 1) = upto ids k ++ [(k, ids.getD k cn0)] := by simp [upto, List.range_succ]
theorem upto_length (ids : List Cn) (k : Nat) : (upto ids k).length = k := by simp [upto]
/-- What a round keeps: what lay ahead of n₀, and block b2. -/
def Kp (n₀ b2 : Nat) (W W' : World) : Prop := Below n₀ W W' ∧ W'.heap[b2]? = W.heap[b2]?
theorem Kp.refl (n₀ b2 : Nat) (W : World) : Kp n₀ b2 W W := ⟨Below.refl _ _, rfl⟩
theorem Kp.trans {n₀ b2 : Nat} {A B C : World} (h : Kp n₀ b2 A B) (k : Kp n₀ b2 B C) : Kp n₀ b2 A C := ⟨h.1.trans k.1, k.2.trans h.2⟩
def encA (x : Nat × Cn) : Array Value := #[.int .i64 (x.1 : Int), cnV x.2]

set_option maxRecDepth 100000 in
set_option maxHeartbeats 3200000 in
theorem all1_in (n : Nat) (hn : 3 ≤ n) (l b2 n₀ : Nat) {D X M : Nat} {v : Value} {ids : List Cn} (J Jx : List (Nat × Cn) → World → Prop)
    (hY : ∀ pre x W, J pre W → pre.length < ids.length → YieldAt Fence.wide (n - 1) Tryd.prog l (encA x) W fun e W' =>
      (e = .returned (.bool true) ∧ J (pre ++ [x]) W' ∧ Kp n₀ b2 W W') ∨ (e = .returned (.bool false) ∧ Jx (pre ++ [x]) W'))
    (W : World) (hBs : W.heap[b2]? = some (.cells #[.pointer (some ⟨X, 0, none⟩)] 47)) (hT : ∀ W', Below n₀ W W' → Tbl D X M v ids W') (h0 : J [] W) (hlen : ids.length ≤ 65536) :
    CallsIn Fence.wide n Tryd.prog 49 #[.func (.yield l) #[] #[], .pointer (some ⟨b2, 0, none⟩)] W fun e W' => (∃ v, e = .returned v) ∧
      ((∃ ys, ys = upto ids ids.length ∧ J ys W') ∨ (∃ pre, (∃ k, k ≤ ids.length ∧ pre = upto ids k) ∧ Jx pre W')) := by
  have hb0 : W.cell? ⟨b2, 0, none⟩ = some (.pointer (some ⟨X, 0, none⟩)) := by simp [World.cell?, hBs]
  have hlen12 : ∀ W', Below n₀ W W' → CallsIn Fence.wide (n - 1) Tryd.prog 12 #[.pointer (some ⟨X, 0, none⟩)] W' fun e w' => e = .returned (.int .i64 (ids.length : Int)) ∧ w' = W' := fun W' h => callsIn_wide.2 (len_any (hT W' h))
  refine callsIn_of_wp Tryd.func49 rfl trivial ?_ rfl
  simp only [Tryd.ntmps49, List.size_toArray, List.length_cons, List.length_nil, Nat.reduceAdd, Nat.reduceSub, Array.replicate_succ, Array.replicate_zero, List.push_toArray, List.append_toArray, List.nil_append, List.cons_append]
  have hl0 := hlen12 W (Below.refl _ _)
  gi_wp2_with (refine ⟨trivial, fun _ => by omega, hl0.mono ?_⟩; rintro e w' ⟨rfl, hw⟩; rw [hw]; clear hw)
  obtain ⟨len, hlenE⟩ : ∃ len, len = ids.length := ⟨_, rfl⟩
  have HL := Lib.hid hlenE
  rw [← hlenE] at hY hlen12 hlen ⊢
  clear hl0 hlenE
  gi_loopw [6] (fun i wr => ∃ k : Nat, k ≤ len ∧ i = .int .i64 (k : Int) ∧ J (upto ids k) wr ∧ Hid (Kp n₀ b2 W wr)) (fun i _ => len - (intOf i).toNat)
  case atStart => exact ⟨0, Nat.zero_le _, rfl, h0, Lib.hid (Kp.refl _ _ _)⟩
  case round =>
    obtain ⟨k, hk, rfl, hJs, hnx⟩ := hrel
    by_cases hlt : k < len
    · obtain ⟨c, hc⟩ : ∃ c, c = ids.getD k cn0 := ⟨_, rfl⟩
      obtain ⟨fn, tmps, assign, body, hy, hR⟩ := hY _ (k, c) wr hJs (by rw [upto_length]; exact hlt)
      simp only [encA, cnV] at hy
      have hTw := hT wr hnx.out.1
      have hbx : wr.cell? ⟨b2, 0, none⟩ = some (.pointer (some ⟨X, 0, none⟩)) := (World.cell?_of_block hnx.out.2).trans hb0
      obtain ⟨d0, d1, _, _⟩ := two_cells hTw.blk
      obtain ⟨g, cap, rfl⟩ := Joins.ownsRow_form hTw.own (by have := HL.out; omega)
      have hki : k < ids.length := by have := HL.out; omega
      obtain ⟨e0, e1, e2⟩ := cn_cells hTw.own hki
      have hcg : ids[k] = c := by rw [hc, List.getD_eq_getElem?_getD, List.getElem?_eq_getElem hki]; rfl
      rw [hcg] at e0 e1 e2
      rw [← HL.out] at d0
      have hI : (k : Int) < (len : Int) := by omega
      have hI0 : (0 : Int) ≤ (k : Int) := by omega
      have hw1 : IntKind.i64.wrap ((k : Int) + 1) = (k : Int) + 1 := by rw [IntKind.wrap_i64]; omega
      have hl1 := hlen12 wr hnx.out.1
      have HC := Lib.hid hc
      clear hTw hki hcg hc
      gi_wp2_with (refine ⟨trivial, fun _ => by omega, hl1.mono ?_⟩; rintro e w' ⟨rfl, hw⟩; rw [hw]; clear hw)
      refine ⟨fun _ => by omega, hR.mono ?_⟩
      have hsuc : upto ids k ++ [(k, c)] = upto ids (k + 1) := by rw [upto_succ, HC.out]
      rintro e W3 (⟨rfl, hJ3, hk3⟩ | ⟨rfl, hJx3⟩)
      · rw [hsuc] at hJ3
        clear hsuc hR hy
        have HK3 := Lib.hid hk3
        clear hk3
        gi_wp2
        go_roundw
        case rel => exact ⟨k + 1, by omega, by go_num, hJ3, Lib.hid (hnx.out.trans HK3.out)⟩
        case measure => simp only [intOf]; omega
      · rw [hsuc] at hJx3
        clear hsuc hR hy
        gi_wp2
        refine bodyPost_ret (results_none rfl _ _ _) rfl ?_
        exact ⟨⟨_, rfl⟩, .inr ⟨_, ⟨k + 1, by have := HL.out; omega, rfl⟩, hJx3⟩⟩
    · obtain rfl : k = len := by omega
      gi_wp2
      go_end0
      exact ⟨⟨_, rfl⟩, .inl ⟨_, rfl, by rw [← HL.out]; exact hJs⟩⟩

set_option maxRecDepth 100000 in
set_option maxHeartbeats 1000000 in
theorem all_in (n X : Nat) (w : World) :
    CallsIn Fence.wide n Tryd.prog 32 #[.pointer (some ⟨X, 0, none⟩)] w fun e w' => e = .returned (.func (.func 49) #[] #[.pointer (some ⟨w.heap.size, 0, none⟩)]) ∧ w' = w.alloc (.cells #[.pointer (some ⟨X, 0, none⟩)] 47) := by
  refine callsIn_of_wp Tryd.func32 rfl trivial ?_ rfl
  simp only [Tryd.ntmps32, List.size_toArray, List.length_cons, List.length_nil, Nat.reduceAdd, Nat.reduceSub, Array.replicate_succ, Array.replicate_zero, List.push_toArray, List.append_toArray, List.nil_append, List.cons_append]
  gi_wp2
  go_ret
  exact ⟨rfl, rfl⟩

theorem all_stops (n : Nat) (hn : 3 ≤ n) (b2 n₀ : Nat) {D X M : Nat} {v : Value} {ids : List Cn} (w : World) (hb2 : b2 < w.heap.size) (hn₀ : n₀ ≤ w.heap.size)
    (hc : w.heap[b2]? = some (.cells #[.pointer (some ⟨X, 0, none⟩)] 47)) (hT : ∀ W', Below n₀ w W' → Tbl D X M v ids W') (hlen : ids.length ≤ 65536) :
    SeqStopsK Fence.wide n Tryd.prog 49 #[.pointer (some ⟨b2, 0, none⟩)] encA (Kp n₀ b2) (fun ys => ys = upto ids ids.length) (fun pre => ∃ k, k ≤ ids.length ∧ pre = upto ids k) ids.length w := fun l J Jx W hW _ _ hY h0 =>
  all1_in n hn l b2 n₀ J Jx hY W ((hW.block b2 hb2).trans hc) (fun W' h => hT W' ((hW.mono hn₀).trans h)) h0 hlen
end Go.Proofs.YtijmogehmcjopaaDoor
