/-
  The walks of the document's meter, of a nil meter and of NewMeter. Condition: what is used is at most the limit.
-/
import Derived.Test.YtfhmcgpohpkjgaaM1
namespace Go.Proofs.Ytfhmcgpohpkjgaa
open Go.RowKit Plain
open Go.MuLone

/-! ### The document's meter; a nil one; a new one -/
def RefAt (w : World) (b : Nat) (r u : Nat) : Prop := w.heap[b]? = some (.cells #[.int .u64 ((u + r : Nat) : Int), .int .u64 (u : Int)] 93 (0, 0))
theorem RefAt.c0 {w : World} {b r u : Nat} (h : RefAt w b r u) : w.cell? ⟨b, 0, none⟩ = some (.int .u64 ((u + r : Nat) : Int)) := by unfold RefAt at h; simp [World.cell?, h]
theorem RefAt.c1 {w : World} {b r u : Nat} (h : RefAt w b r u) : w.cell? ⟨b, 1, none⟩ = some (.int .u64 (u : Int)) := by unfold RefAt at h; simp [World.cell?, h]
theorem RefAt.f (o : Nat) {w : World} {b r u : Nat} (h : RefAt w b r u) : w.frozen? ⟨b, o, none⟩ = false := by unfold RefAt at h; simp [World.frozen?, h]
theorem RefAt.heap {w w' : World} {b r u : Nat} (h : RefAt w b r u) (e : w'.heap = w.heap) : RefAt w' b r u := by unfold RefAt at *; rw [e]; exact h
theorem RefAt.set {w : World} {b r u r' u' : Nat} {x : Int} (h : RefAt w b r u) (e : u' + r' = u + r) (hx : x = (u' : Int)) : RefAt (w.setCell ⟨b, 1, none⟩ (.int .u64 x)) b r' u' := by
  have := block_setCell (o := 1) (u := .int .u64 x) h
  unfold RefAt; rw [this, e, ← hx]; rfl
def RefPost (v : Value) (b r u : Nat) (w : World) (e : Ending) (w' : World) : Prop := e = .returned v ∧ RefAt w' b r u ∧ Apart b w w'

theorem new_any (n : Nat) (w : World) : Calls Try.prog 29 #[.int .u64 (n : Int)] w fun e w' =>
    e = .returned (.pointer (some ⟨w.heap.size, 0, none⟩)) ∧ MeterAt w' w.heap.size n 0 ∧ Below w.heap.size w w' ∧ w'.heap.size = w.heap.size + 1 := by
  go_enter Try.func29, Try.ntmps29
  go_wp2
  go_ret
  exact ⟨rfl, by unfold MeterAt; rw [heap_alloc_new]; simp, (Below.refl _ _).alloc (Nat.le_refl _) _, by simp⟩
theorem refNew_any (n : Nat) (w : World) : Calls Try.prog 30 #[.int .u64 (n : Int)] w fun e w' =>
    e = .returned (.pointer (some ⟨w.heap.size, 0, none⟩)) ∧ RefAt w' w.heap.size n 0 ∧ Below w.heap.size w w' ∧ w'.heap.size = w.heap.size + 1 := by
  go_enter Try.func30, Try.ntmps30
  go_wp2
  go_ret
  exact ⟨rfl, by unfold RefAt; rw [heap_alloc_new]; simp, (Below.refl _ _).alloc (Nat.le_refl _) _, by simp⟩

theorem refUsed_any (b r u : Nat) (w : World) (h : RefAt w b r u) :
    Calls Try.prog 37 #[.pointer (some ⟨b, 0, none⟩)] w (RefPost (.int .u64 (u : Int)) b r u w) := by
  have h1 := h.c1
  have H := Lib.hid h
  clear h
  go_enter Try.func37, Try.ntmps37
  go_wp2
  go_ret
  exact ⟨rfl, H.out, Apart.refl _ _⟩
theorem refLeft_any (b r u : Nat) (hr : u + r < 18446744073709551616) (w : World) (h : RefAt w b r u) :
    Calls Try.prog 39 #[.pointer (some ⟨b, 0, none⟩)] w (RefPost (.int .u64 (r : Int)) b r u w) := by
  have h0 := h.c0
  have h1 := h.c1
  have H := Lib.hid h
  clear h
  go_enter Try.func39, Try.ntmps39
  go_wp2_with fail
  go_quiet (fail)
  generalize hW : w.drewN _ = w2
  have B2 := Lib.hid (show RefAt w2 b r u by rw [← hW]; exact H.out.heap rfl)
  have A2 := Lib.hid (show Apart b w w2 by rw [← hW]; exact (Apart.refl b w).drewN _)
  clear hW h0 h1
  go_wp2
  go_ret
  exact ⟨by show Ending.returned (.int .u64 ((u : Int) + (r : Int) - (u : Int))) = _; rw [show (u : Int) + (r : Int) - (u : Int) = (r : Int) by omega], B2.out, A2.out⟩
theorem refSpend_no (b r u n : Nat) (hr : u + r < 18446744073709551616) (hn : r < n) (w : World) (h : RefAt w b r u) :
    Calls Try.prog 33 #[.pointer (some ⟨b, 0, none⟩), .int .u64 (n : Int)] w (RefPost (.bool false) b r u w) := by
  have h0 := h.c0
  have h1 := h.c1
  have H := Lib.hid h
  clear h
  go_enter Try.func33, Try.ntmps33
  go_wp2_with fail
  go_quiet (fail)
  generalize hW : w.drewN _ = w2
  have B2 := Lib.hid (show RefAt w2 b r u by rw [← hW]; exact H.out.heap rfl)
  have A2 := Lib.hid (show Apart b w w2 by rw [← hW]; exact (Apart.refl b w).drewN _)
  clear hW h0 h1
  go_wp2
  go_ret
  exact ⟨rfl, B2.out, A2.out⟩
theorem refSpend_yes (b r u n : Nat) (hr : u + r < 18446744073709551616) (hn : n ≤ r) (w : World) (h : RefAt w b r u) :
    Calls Try.prog 33 #[.pointer (some ⟨b, 0, none⟩), .int .u64 (n : Int)] w (RefPost (.bool true) b (r - n) (u + n) w) := by
  have h0 := h.c0
  have h1 := h.c1
  have H := Lib.hid h
  clear h
  go_enter Try.func33, Try.ntmps33
  go_wp2_with fail
  go_quiet (fail)
  generalize hW : w.drewN _ = w2
  have B2 := Lib.hid (show RefAt w2 b r u by rw [← hW]; exact H.out.heap rfl)
  have A2 := Lib.hid (show Apart b w w2 by rw [← hW]; exact (Apart.refl b w).drewN _)
  clear hW h0 h1
  have h1 := B2.out.c1
  have f1 := B2.out.f 1
  go_wp2
  go_ret
  exact ⟨rfl, B2.out.set (by omega) (by omega), A2.out.setCell 1 _⟩
theorem refRefund_any (b r u n : Nat) (hr : u + r < 18446744073709551616) (w : World) (h : RefAt w b r u) :
    Calls Try.prog 35 #[.pointer (some ⟨b, 0, none⟩), .int .u64 (n : Int)] w (RefPost (.tuple #[]) b (r + min n u) (u - min n u) w) := by
  have h1 := h.c1
  have f1 := h.f 1
  have H := Lib.hid h
  clear h
  by_cases hn : u < n
  · rw [Nat.min_eq_right (Nat.le_of_lt hn), Nat.sub_self]
    go_enter Try.func35, Try.ntmps35
    go_wp2
    go_end0
    exact ⟨rfl, H.out.set (by omega) (by simp), (Apart.refl _ _).setCell 1 _⟩
  · rw [Nat.min_eq_left (by omega)]
    go_enter Try.func35, Try.ntmps35
    go_wp2
    go_end0
    exact ⟨rfl, H.out.set (by omega) (by omega), (Apart.refl _ _).setCell 1 _⟩

theorem nil_used (w : World) : Calls Try.prog 36 #[.pointer none] w fun e w' => e = .returned (.int .u64 0) ∧ w = w' := by
  go_enter_defers Try.func36, Try.ntmps36
  go_wp2
  exact ⟨_, results_tmp rfl _ _ _, rfl, rfl⟩
theorem nil_left (w : World) : Calls Try.prog 38 #[.pointer none] w fun e w' => e = .returned (.int .u64 0) ∧ w = w' := by
  go_enter_defers Try.func38, Try.ntmps38
  go_wp2
  exact ⟨_, results_tmp rfl _ _ _, rfl, rfl⟩
theorem nil_spend (n : Nat) (w : World) : Calls Try.prog 32 #[.pointer none, .int .u64 (n : Int)] w fun e w' => e = .returned (.bool false) ∧ w = w' := by
  go_enter_defers Try.func32, Try.ntmps32
  go_wp2
  exact ⟨_, results_tmp rfl _ _ _, rfl, rfl⟩
theorem nil_refund (n : Nat) (w : World) : Calls Try.prog 34 #[.pointer none, .int .u64 (n : Int)] w fun e w' => e = .returned (.tuple #[]) ∧ w = w' := by
  go_enter_defers Try.func34, Try.ntmps34
  go_wp2
  exact ⟨_, results_none rfl _ _ _, rfl, rfl⟩
theorem nil_refUsed (w : World) : Calls Try.prog 37 #[.pointer none] w fun e w' => e = .returned (.int .u64 0) ∧ w = w' := by
  go_enter Try.func37, Try.ntmps37
  go_wp2
  go_ret
  exact ⟨rfl, rfl⟩
theorem nil_refLeft (w : World) : Calls Try.prog 39 #[.pointer none] w fun e w' => e = .returned (.int .u64 0) ∧ w = w' := by
  go_enter Try.func39, Try.ntmps39
  go_wp2
  go_ret
  exact ⟨rfl, rfl⟩
theorem nil_refSpend (n : Nat) (w : World) : Calls Try.prog 33 #[.pointer none, .int .u64 (n : Int)] w fun e w' => e = .returned (.bool false) ∧ w'.heap = w.heap ∧ w'.os = w.os ∧ w'.tape = w.tape ∧ w'.output = w.output := by
  go_enter Try.func33, Try.ntmps33
  go_wp2_with fail
  go_quiet (fail)
  generalize hW : w.drewN _ = w2
  go_wp2
  go_ret
  exact ⟨rfl, by rw [← hW]; rfl, by rw [← hW]; rfl, by rw [← hW]; rfl, by rw [← hW]; rfl⟩
theorem nil_refRefund (n : Nat) (w : World) : Calls Try.prog 35 #[.pointer none, .int .u64 (n : Int)] w fun e w' => e = .returned (.tuple #[]) ∧ w = w' := by
  go_enter Try.func35, Try.ntmps35
  go_wp2
  (try simp only [Exit.inBlock, Exit.then]); refine bodyPost_ret (results_none rfl _ _ _) rfl ?_
  exact ⟨rfl, rfl⟩

end Go.Proofs.Ytfhmcgpohpkjgaa
