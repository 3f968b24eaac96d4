/-
  The walks of the meters' methods: bound.Meter's over a free lock, edictref09.Meter's plain: each answers and turns its own block as the plain meter does. Conditions: the lock is free, what is used is at most the limit.
-/
import Derived.Test.YtfhmcgpohpkjgaaL1
import Derived.StillTailTactics
import Derived.Conc.MuLone
import Derived.Conc.MuData
import Derived.OneCell
namespace Go.Proofs.Ytfhmcgpohpkjgaa
open Go.RowKit Plain
open Go.MuLone

abbrev Try.muLink : Go.Conc.Locks.MuLink := { lock := 48, unlock := 49, ilock := 50, iunlock := 51, lockSlow := 56, unlockSlow := 59, disable := 52, enable := 54, acquire := 55, relMerge := 57, cas32 := 53, add32 := 58, tMutex := 89, tIMutex := 87, tPMutex := 95, tPIMutex := 96, tPI32 := 98, tUP := 100, tNoCopy := 84, tU32 := 85 }
theorem Try.muLib : Go.Conc.Locks.MuLib Try.prog Try.muLink :=
  ⟨Try.func48, Try.func49, Try.func50, Try.func51, Try.func52, Try.func54, Try.func55, Try.func57, Try.func53, Try.func58, Try.underlying87, Try.runUnderlying87, Try.sizeOf87, Try.isAgg87, Try.zeroValue87, Try.underlying89, Try.runUnderlying89, Try.sizeOf89, Try.isAgg89, Try.zeroValue89, Try.underlying95, Try.runUnderlying95, Try.sizeOf95, Try.isAgg95, Try.zeroValue95, Try.underlying96, Try.runUnderlying96, Try.sizeOf96, Try.isAgg96, Try.zeroValue96, Try.underlying98, Try.runUnderlying98, Try.sizeOf98, Try.isAgg98, Try.zeroValue98, Try.underlying100, Try.runUnderlying100, Try.sizeOf100, Try.isAgg100, Try.zeroValue100, Try.underlying84, Try.runUnderlying84, Try.sizeOf84, Try.isAgg84, Try.zeroValue84, Try.underlying21, Try.runUnderlying21, Try.sizeOf21, Try.isAgg21, Try.zeroValue21, (by kernel_rfl)⟩

/-- Block b is a meter whose lock is free: r is left, u is used. -/
def MeterAt (w : World) (b : Nat) (r u : Nat) : Prop := w.heap[b]? = some (.cells #[.int .i32 0, .int .u32 0, .int .u64 ((u + r : Nat) : Int), .int .u64 (u : Int)] 91 (0, 0))
/-- All but block b stands as it was. -/
structure Apart (b : Nat) (w w' : World) : Prop where
  os : w'.os = w.os
  tape : w'.tape = w.tape
  output : w'.output = w.output
  size : w'.heap.size = w.heap.size
  block : ∀ k, k ≠ b → w'.heap[k]? = w.heap[k]?
theorem Apart.refl (b : Nat) (w : World) : Apart b w w := ⟨rfl, rfl, rfl, rfl, fun _ _ => rfl⟩
theorem Apart.setCell {b : Nat} {w w' : World} (h : Apart b w w') (o : Nat) (v : Value) : Apart b w (w'.setCell ⟨b, o, none⟩ v) :=
  ⟨h.os, h.tape, h.output, by rw [← h.size]; simp [World.setCell], fun k hk => (Below.heap_setCell _ _ _ _ hk).trans (h.block k hk)⟩
theorem Apart.below {b B : Nat} {a w w' : World} (h : Apart b w w') (hb : Below B a w) (hB : B ≤ b) : Below B a w' :=
  hb.trans ⟨h.os, h.tape, h.output, by rw [h.size]; exact Nat.le_refl _, fun k hk => h.block k (by omega)⟩

theorem block_setCell {w : World} {b o : Nat} {cs : Array Value} {t : TypeId} {f : Nat × Nat} {u : Value} (h : w.heap[b]? = some (.cells cs t f)) : (w.setCell ⟨b, o, none⟩ u).heap[b]? = some (.cells (cs.set! o u) t f) := by
  have hlt := lt_of_block h
  have h' : w.heap[b] = .cells cs t f := by simpa [Array.getElem?_eq_getElem hlt] using h
  show (w.heap.modify b _)[b]? = _
  rw [Array.getElem?_eq_getElem (by simpa using hlt), Array.getElem_modify_self, h']
  simp [Array.set!_eq_setIfInBounds]

/-- The same with the lock taken. -/
def HeldAt (w : World) (b : Nat) (r u : Nat) : Prop := w.heap[b]? = some (.cells #[.int .i32 1, .int .u32 0, .int .u64 ((u + r : Nat) : Int), .int .u64 (u : Int)] 91 (0, 0))
theorem HeldAt.c0 {w : World} {b r u : Nat} (h : HeldAt w b r u) : w.cell? ⟨b, 0, none⟩ = some (.int .i32 1) := by unfold HeldAt at h; simp [World.cell?, h]
theorem HeldAt.c2 {w : World} {b r u : Nat} (h : HeldAt w b r u) : w.cell? ⟨b, 2, none⟩ = some (.int .u64 ((u + r : Nat) : Int)) := by unfold HeldAt at h; simp [World.cell?, h]
theorem HeldAt.c3 {w : World} {b r u : Nat} (h : HeldAt w b r u) : w.cell? ⟨b, 3, none⟩ = some (.int .u64 (u : Int)) := by unfold HeldAt at h; simp [World.cell?, h]
theorem HeldAt.f (o : Nat) {w : World} {b r u : Nat} (h : HeldAt w b r u) : w.frozen? ⟨b, o, none⟩ = false := by unfold HeldAt at h; simp [World.frozen?, h]
theorem MeterAt.c0 {w : World} {b r u : Nat} (h : MeterAt w b r u) : w.cell? ⟨b, 0, none⟩ = some (.int .i32 0) := by unfold MeterAt at h; simp [World.cell?, h]
theorem MeterAt.f (o : Nat) {w : World} {b r u : Nat} (h : MeterAt w b r u) : w.frozen? ⟨b, o, none⟩ = false := by unfold MeterAt at h; simp [World.frozen?, h]
theorem MeterAt.held {w : World} {b r u : Nat} (h : MeterAt w b r u) : HeldAt (w.setCell ⟨b, 0, none⟩ (.int .i32 1)) b r u := block_setCell (o := 0) h
theorem HeldAt.free {w : World} {b r u : Nat} (h : HeldAt w b r u) : MeterAt (w.setCell ⟨b, 0, none⟩ (.int .i32 0)) b r u := block_setCell (o := 0) h
theorem HeldAt.heap {w w' : World} {b r u : Nat} (h : HeldAt w b r u) (e : w'.heap = w.heap) : HeldAt w' b r u := by unfold HeldAt at *; rw [e]; exact h
theorem Apart.drewN {b : Nat} {w w' : World} (h : Apart b w w') (n : Nat) : Apart b w (w'.drewN n) := ⟨h.os, h.tape, h.output, h.size, h.block⟩
theorem HeldAt.set {w : World} {b r u r' u' : Nat} {x : Int} (h : HeldAt w b r u) (e : u' + r' = u + r) (hx : x = (u' : Int)) : HeldAt (w.setCell ⟨b, 3, none⟩ (.int .u64 x)) b r' u' := by
  have := block_setCell (o := 3) (u := .int .u64 x) h
  unfold HeldAt; rw [this, e, ← hx]; rfl

def MeterPost (v : Value) (b r u : Nat) (w : World) (e : Ending) (w' : World) : Prop := e = .returned v ∧ MeterAt w' b r u ∧ Apart b w w'

theorem used_any (b r u : Nat) (w : World) (h : MeterAt w b r u) :
    Calls Try.prog 36 #[.pointer (some ⟨b, 0, none⟩)] w (MeterPost (.int .u64 (u : Int)) b r u w) := by
  have h0 := h.c0
  have f0 := h.f 0
  have H := Lib.hid h
  clear h
  go_enter_defers Try.func36, Try.ntmps36
  go_wp2_with fail
  refine (lock_free Try.muLib ⟨b, 0, none⟩ _ h0 f0).mono ?_
  rintro e w1 ⟨rfl, hw1⟩
  have B1 := Lib.hid (show HeldAt w1 b r u by rw [hw1]; exact H.out.held)
  have A1 := Lib.hid (show Apart b w w1 by rw [hw1]; exact (Apart.refl b w).setCell 0 _)
  clear hw1 h0 f0
  have h2 := B1.out.c2
  have h3 := B1.out.c3
  go_wp2
  refine leaves_cons (f := 49) (args := #[.pointer (some ⟨b, 0, none⟩)]) (by simp) (by simp [go_sem]) ?_
  refine (unlock_deferred Try.muLib ⟨b, 0, none⟩ .returning _ B1.out.c0 (B1.out.f 0)).mono ?_
  rintro e u' w'' ⟨rfl, rfl, rfl⟩
  exact ⟨_, results_tmp rfl _ _ _, rfl, B1.out.free, A1.out.setCell 0 _⟩

theorem left_any (b r u : Nat) (hr : u + r < 18446744073709551616) (w : World) (h : MeterAt w b r u) :
    Calls Try.prog 38 #[.pointer (some ⟨b, 0, none⟩)] w (MeterPost (.int .u64 (r : Int)) b r u w) := by
  have h0 := h.c0
  have f0 := h.f 0
  have H := Lib.hid h
  clear h
  go_enter_defers Try.func38, Try.ntmps38
  go_wp2_with fail
  refine (lock_free Try.muLib ⟨b, 0, none⟩ _ h0 f0).mono ?_
  rintro e w1 ⟨rfl, hw1⟩
  have B1 := Lib.hid (show HeldAt w1 b r u by rw [hw1]; exact H.out.held)
  have A1 := Lib.hid (show Apart b w w1 by rw [hw1]; exact (Apart.refl b w).setCell 0 _)
  clear hw1 h0 f0
  have h2 := B1.out.c2
  have h3 := B1.out.c3
  go_wp2_with fail
  go_quiet (fail)
  generalize hW : w1.drewN _ = w2
  have B2 := Lib.hid (show HeldAt w2 b r u by rw [← hW]; exact B1.out.heap rfl)
  have A2 := Lib.hid (show Apart b w w2 by rw [← hW]; exact A1.out.drewN _)
  clear hW h2 h3
  go_wp2
  refine leaves_cons (f := 49) (args := #[.pointer (some ⟨b, 0, none⟩)]) (by simp) (by simp [go_sem]) ?_
  refine (unlock_deferred Try.muLib ⟨b, 0, none⟩ .returning _ B2.out.c0 (B2.out.f 0)).mono ?_
  rintro e u' w'' ⟨rfl, rfl, rfl⟩
  exact ⟨_, results_tmp rfl _ _ _, by show Ending.returned (.int .u64 ((u : Int) + (r : Int) - (u : Int))) = _; rw [show (u : Int) + (r : Int) - (u : Int) = (r : Int) by omega], B2.out.free, A2.out.setCell 0 _⟩

theorem spend_no (b r u n : Nat) (hr : u + r < 18446744073709551616) (hn : r < n) (w : World) (h : MeterAt w b r u) :
    Calls Try.prog 32 #[.pointer (some ⟨b, 0, none⟩), .int .u64 (n : Int)] w (MeterPost (.bool false) b r u w) := by
  have h0 := h.c0
  have f0 := h.f 0
  have H := Lib.hid h
  clear h
  go_enter_defers Try.func32, Try.ntmps32
  go_wp2_with fail
  refine (lock_free Try.muLib ⟨b, 0, none⟩ _ h0 f0).mono ?_
  rintro e w1 ⟨rfl, hw1⟩
  have B1 := Lib.hid (show HeldAt w1 b r u by rw [hw1]; exact H.out.held)
  have A1 := Lib.hid (show Apart b w w1 by rw [hw1]; exact (Apart.refl b w).setCell 0 _)
  clear hw1 h0 f0
  have h2 := B1.out.c2
  have h3 := B1.out.c3
  go_wp2_with fail
  go_quiet (fail)
  generalize hW : w1.drewN _ = w2
  have B2 := Lib.hid (show HeldAt w2 b r u by rw [← hW]; exact B1.out.heap rfl)
  have A2 := Lib.hid (show Apart b w w2 by rw [← hW]; exact A1.out.drewN _)
  clear hW h2 h3
  go_wp2
  refine leaves_cons (f := 49) (args := #[.pointer (some ⟨b, 0, none⟩)]) (by simp) (by simp [go_sem]) ?_
  refine (unlock_deferred Try.muLib ⟨b, 0, none⟩ .returning _ B2.out.c0 (B2.out.f 0)).mono ?_
  rintro e u' w'' ⟨rfl, rfl, rfl⟩
  exact ⟨_, results_tmp rfl _ _ _, rfl, B2.out.free, A2.out.setCell 0 _⟩

theorem spend_yes (b r u n : Nat) (hr : u + r < 18446744073709551616) (hn : n ≤ r) (w : World) (h : MeterAt w b r u) :
    Calls Try.prog 32 #[.pointer (some ⟨b, 0, none⟩), .int .u64 (n : Int)] w (MeterPost (.bool true) b (r - n) (u + n) w) := by
  have h0 := h.c0
  have f0 := h.f 0
  have H := Lib.hid h
  clear h
  go_enter_defers Try.func32, Try.ntmps32
  go_wp2_with fail
  refine (lock_free Try.muLib ⟨b, 0, none⟩ _ h0 f0).mono ?_
  rintro e w1 ⟨rfl, hw1⟩
  have B1 := Lib.hid (show HeldAt w1 b r u by rw [hw1]; exact H.out.held)
  have A1 := Lib.hid (show Apart b w w1 by rw [hw1]; exact (Apart.refl b w).setCell 0 _)
  clear hw1 h0 f0
  have h2 := B1.out.c2
  have h3 := B1.out.c3
  go_wp2_with fail
  go_quiet (fail)
  generalize hW : w1.drewN _ = w2
  have B2 := Lib.hid (show HeldAt w2 b r u by rw [← hW]; exact B1.out.heap rfl)
  have A2 := Lib.hid (show Apart b w w2 by rw [← hW]; exact A1.out.drewN _)
  clear hW h2 h3
  have h3 := B2.out.c3
  have f3 := B2.out.f 3
  go_wp2
  have B3 := Lib.hid (B2.out.set (r' := r - n) (u' := u + n) (x := (u : Int) + (n : Int)) (by omega) (by omega))
  have A3 := Lib.hid (A2.out.setCell 3 (.int .u64 ((u : Int) + (n : Int))))
  refine leaves_cons (f := 49) (args := #[.pointer (some ⟨b, 0, none⟩)]) (by simp) (by simp [go_sem]) ?_
  refine (unlock_deferred Try.muLib ⟨b, 0, none⟩ .returning _ B3.out.c0 (B3.out.f 0)).mono ?_
  rintro e u' w'' ⟨rfl, rfl, rfl⟩
  exact ⟨_, results_tmp rfl _ _ _, rfl, B3.out.free, A3.out.setCell 0 _⟩

set_option maxRecDepth 100000 in
set_option maxHeartbeats 1600000 in
theorem refund_all (b r u n : Nat) (hr : u + r < 18446744073709551616) (hn : u < n) (w : World) (h : MeterAt w b r u) :
    Calls Try.prog 34 #[.pointer (some ⟨b, 0, none⟩), .int .u64 (n : Int)] w (MeterPost (.tuple #[]) b (r + u) 0 w) := by
  have h0 := h.c0
  have f0 := h.f 0
  have H := Lib.hid h
  clear h
  go_enter_defers Try.func34, Try.ntmps34
  go_wp2_with fail
  refine (lock_free Try.muLib ⟨b, 0, none⟩ _ h0 f0).mono ?_
  rintro e w1 ⟨rfl, hw1⟩
  have B1 := Lib.hid (show HeldAt w1 b r u by rw [hw1]; exact H.out.held)
  have A1 := Lib.hid (show Apart b w w1 by rw [hw1]; exact (Apart.refl b w).setCell 0 _)
  clear hw1 h0 f0
  have h2 := B1.out.c2
  have h3 := B1.out.c3
  go_wp2_with fail
  go_still_tail 13, (by kernel_rfl)
  change wpList _ _ _ _ _ w1.drew
  generalize hW : w1.drew = w2
  have B2 := Lib.hid (show HeldAt w2 b r u by rw [← hW]; exact B1.out.heap rfl)
  have A2 := Lib.hid (show Apart b w w2 by rw [← hW]; exact A1.out.drewN 1)
  clear hW h2 h3
  have h3 := B2.out.c3
  have f3 := B2.out.f 3
  go_wp2
  have B3 := Lib.hid (B2.out.set (r' := r + u) (u' := 0) (x := 0) (by omega) (by omega))
  have A3 := Lib.hid (A2.out.setCell 3 (.int .u64 (0)))
  refine leaves_cons (f := 49) (args := #[.pointer (some ⟨b, 0, none⟩)]) (by simp) (by simp [go_sem]) ?_
  refine (unlock_deferred Try.muLib ⟨b, 0, none⟩ .returning _ B3.out.c0 (B3.out.f 0)).mono ?_
  rintro e u' w'' ⟨rfl, rfl, rfl⟩
  exact ⟨_, results_none rfl _ _ _, rfl, B3.out.free, A3.out.setCell 0 _⟩

set_option maxRecDepth 100000 in
set_option maxHeartbeats 1600000 in
theorem refund_some (b r u n : Nat) (hr : u + r < 18446744073709551616) (hn : n ≤ u) (w : World) (h : MeterAt w b r u) :
    Calls Try.prog 34 #[.pointer (some ⟨b, 0, none⟩), .int .u64 (n : Int)] w (MeterPost (.tuple #[]) b (r + n) (u - n) w) := by
  have h0 := h.c0
  have f0 := h.f 0
  have H := Lib.hid h
  clear h
  go_enter_defers Try.func34, Try.ntmps34
  go_wp2_with fail
  refine (lock_free Try.muLib ⟨b, 0, none⟩ _ h0 f0).mono ?_
  rintro e w1 ⟨rfl, hw1⟩
  have B1 := Lib.hid (show HeldAt w1 b r u by rw [hw1]; exact H.out.held)
  have A1 := Lib.hid (show Apart b w w1 by rw [hw1]; exact (Apart.refl b w).setCell 0 _)
  clear hw1 h0 f0
  have h2 := B1.out.c2
  have h3 := B1.out.c3
  go_wp2_with fail
  go_still_tail 13, (by kernel_rfl)
  change wpList _ _ _ _ _ w1.drew
  generalize hW : w1.drew = w2
  have B2 := Lib.hid (show HeldAt w2 b r u by rw [← hW]; exact B1.out.heap rfl)
  have A2 := Lib.hid (show Apart b w w2 by rw [← hW]; exact A1.out.drewN 1)
  clear hW h2 h3
  have h3 := B2.out.c3
  have f3 := B2.out.f 3
  go_wp2
  have B3 := Lib.hid (B2.out.set (r' := r + n) (u' := u - n) (x := (u : Int) - (n : Int)) (by omega) (by omega))
  have A3 := Lib.hid (A2.out.setCell 3 (.int .u64 ((u : Int) - (n : Int))))
  refine leaves_cons (f := 49) (args := #[.pointer (some ⟨b, 0, none⟩)]) (by simp) (by simp [go_sem]) ?_
  refine (unlock_deferred Try.muLib ⟨b, 0, none⟩ .returning _ B3.out.c0 (B3.out.f 0)).mono ?_
  rintro e u' w'' ⟨rfl, rfl, rfl⟩
  exact ⟨_, results_none rfl _ _ _, rfl, B3.out.free, A3.out.setCell 0 _⟩

theorem refund_any (b r u n : Nat) (hr : u + r < 18446744073709551616) (w : World) (h : MeterAt w b r u) :
    Calls Try.prog 34 #[.pointer (some ⟨b, 0, none⟩), .int .u64 (n : Int)] w (MeterPost (.tuple #[]) b (r + min n u) (u - min n u) w) := by
  by_cases hn : u < n
  · have := refund_all b r u n hr hn w h
    rw [Nat.min_eq_right (Nat.le_of_lt hn), Nat.sub_self]; exact this
  · have := refund_some b r u n hr (by omega) w h
    rw [Nat.min_eq_left (by omega)]; exact this

end Go.Proofs.Ytfhmcgpohpkjgaa
