/-
  The state of the law BoundMeters: two arrays of three meters each and a nil one, the code's and the document's, which stand alike. No condition beyond those that each lemma states.
-/
import Derived.Test.YtfhmcgpohpkjgaaM2
namespace Go.Proofs.Ytfhmcgpohpkjgaa
open Go.RowKit Plain

def upd (f : Nat → Nat) (k v : Nat) : Nat → Nat := fun i => if i = k then v else f i
theorem upd_same (f : Nat → Nat) (k v : Nat) : upd f k v k = v := by simp [upd]
theorem upd_other (f : Nat → Nat) {k i : Nat} (v : Nat) (h : i ≠ k) : upd f k v i = f i := by simp [upd, h]
abbrev ptr (b : Nat) : Value := .pointer (some ⟨b, 0, none⟩)
theorem types_ne {w : World} {x y : Nat} {a b : Array Value} {t t' : TypeId} {f f' : Nat × Nat} (h1 : w.heap[x]? = some (.cells a t f)) (h2 : w.heap[y]? = some (.cells b t' f')) (ht : t ≠ t') : x ≠ y := by
  intro e; subst e; rw [h1] at h2; simp at h2; exact ht h2.2.1
theorem three {k : Nat} (h : k < 3) : k = 0 ∨ k = 1 ∨ k = 2 := by omega

structure MS (w : World) (M R : Nat) (b c r u : Nat → Nat) (wr : World) : Prop where
  below : Below w.heap.size w wr
  gm : w.heap.size ≤ M
  gr : w.heap.size ≤ R
  gb : ∀ i, i < 3 → w.heap.size ≤ b i
  gc : ∀ i, i < 3 → w.heap.size ≤ c i
  ms : wr.heap[M]? = some (.cells #[ptr (b 0), ptr (b 1), ptr (b 2), .pointer none] 42 (0, 0))
  rs : wr.heap[R]? = some (.cells #[ptr (c 0), ptr (c 1), ptr (c 2), .pointer none] 44 (0, 0))
  m : ∀ i, i < 3 → MeterAt wr (b i) (r i) (u i)
  k : ∀ i, i < 3 → RefAt wr (c i) (r i) (u i)
  bd : ∀ i, i < 3 → u i + r i < 18446744073709551616
  nb : ∀ i j, i < 3 → j < 3 → i ≠ j → b i ≠ b j
  nc : ∀ i j, i < 3 → j < 3 → i ≠ j → c i ≠ c j

section
variable {w wr w2 w3 w4 : World} {M R : Nat} {b c r u : Nat → Nat} {kk : Nat}
theorem MS.cm (h : MS w M R b c r u wr) (hk : kk < 3) : wr.cell? ⟨M, kk, none⟩ = some (ptr (b kk)) := by
  have := h.ms
  rcases three hk with rfl | rfl | rfl <;> simp only [World.cell?, this] <;> rfl
theorem MS.cr (h : MS w M R b c r u wr) (hk : kk < 3) : wr.cell? ⟨R, kk, none⟩ = some (ptr (c kk)) := by
  have := h.rs
  rcases three hk with rfl | rfl | rfl <;> simp only [World.cell?, this] <;> rfl
theorem MS.cm3 (h : MS w M R b c r u wr) : wr.cell? ⟨M, 3, none⟩ = some (.pointer none) := by have := h.ms; simp only [World.cell?, this]; rfl
theorem MS.cr3 (h : MS w M R b c r u wr) : wr.cell? ⟨R, 3, none⟩ = some (.pointer none) := by have := h.rs; simp only [World.cell?, this]; rfl
theorem MS.fm (h : MS w M R b c r u wr) (o : Nat) : wr.frozen? ⟨M, o, none⟩ = false := by have := h.ms; simp [World.frozen?, this]
theorem MS.fr (h : MS w M R b c r u wr) (o : Nat) : wr.frozen? ⟨R, o, none⟩ = false := by have := h.rs; simp [World.frozen?, this]
theorem MS.ltM (h : MS w M R b c r u wr) : M < wr.heap.size := lt_of_block h.ms
theorem MS.ltR (h : MS w M R b c r u wr) : R < wr.heap.size := lt_of_block h.rs
theorem MS.Mb (h : MS w M R b c r u wr) {i : Nat} (hi : i < 3) : M ≠ b i := types_ne h.ms (h.m i hi) (by decide)
theorem MS.Mc (h : MS w M R b c r u wr) {i : Nat} (hi : i < 3) : M ≠ c i := types_ne h.ms (h.k i hi) (by decide)
theorem MS.Rb (h : MS w M R b c r u wr) {i : Nat} (hi : i < 3) : R ≠ b i := types_ne h.rs (h.m i hi) (by decide)
theorem MS.Rc (h : MS w M R b c r u wr) {i : Nat} (hi : i < 3) : R ≠ c i := types_ne h.rs (h.k i hi) (by decide)
theorem MS.bc (h : MS w M R b c r u wr) {i j : Nat} (hi : i < 3) (hj : j < 3) : b i ≠ c j := types_ne (h.m i hi) (h.k j hj) (by decide)
theorem MS.MR (h : MS w M R b c r u wr) : M ≠ R := types_ne h.ms h.rs (by decide)

/-- Nothing of it turns while new blocks are made. -/
theorem MS.up (h : MS w M R b c r u wr) (hb : Below wr.heap.size wr w2) : MS w M R b c r u w2 := by
  have hm := h.ltM
  have hr := h.ltR
  refine ⟨h.below.trans (hb.mono h.below.size), h.gm, h.gr, h.gb, h.gc, (hb.block _ hm).trans h.ms, (hb.block _ hr).trans h.rs, fun i hi => ?_, fun i hi => ?_, h.bd, h.nb, h.nc⟩
  · exact (hb.block _ (lt_of_block (h.m i hi))).trans (h.m i hi)
  · exact (hb.block _ (lt_of_block (h.k i hi))).trans (h.k i hi)
theorem RefAt.apart {w w' : World} {b c r u : Nat} (h : RefAt w b r u) (ha : Apart c w w') (hne : b ≠ c) : RefAt w' b r u := by unfold RefAt at *; rw [ha.block b hne]; exact h
theorem MeterAt.apart' {w w' : World} {b c r u : Nat} (h : MeterAt w b r u) (ha : Apart c w w') (hne : b ≠ c) : MeterAt w' b r u := by unfold MeterAt at *; rw [ha.block b hne]; exact h

/-- Both meters of one place turn alike. -/
theorem MS.turn (h : MS w M R b c r u wr) (hk : kk < 3) {r' u' : Nat} (hm : MeterAt w2 (b kk) r' u') (a1 : Apart (b kk) wr w2) (hr : RefAt w3 (c kk) r' u') (a2 : Apart (c kk) w2 w3) (hbd : u' + r' < 18446744073709551616) :
    MS w M R b c (upd r kk r') (upd u kk u') w3 := by
  refine ⟨a2.below (a1.below h.below (h.gb kk hk)) (h.gc kk hk), h.gm, h.gr, h.gb, h.gc, ?_, ?_, fun i hi => ?_, fun i hi => ?_, fun i hi => ?_, h.nb, h.nc⟩
  · rw [a2.block _ (h.Mc hk), a1.block _ (h.Mb hk)]; exact h.ms
  · rw [a2.block _ (h.Rc hk), a1.block _ (h.Rb hk)]; exact h.rs
  · by_cases e : i = kk
    · subst e; rw [upd_same, upd_same]; exact hm.apart' a2 (h.bc hk hk)
    · rw [upd_other _ _ e, upd_other _ _ e]
      exact ((h.m i hi).apart' a1 (h.nb i kk hi hk e)).apart' a2 (h.bc hi hk)
  · by_cases e : i = kk
    · subst e; rw [upd_same, upd_same]; exact hr
    · rw [upd_other _ _ e, upd_other _ _ e]
      exact ((h.k i hi).apart a1 (fun e2 => h.bc hk hi e2.symm)).apart a2 (h.nc i kk hi hk e)
  · by_cases e : i = kk
    · subst e; rw [upd_same, upd_same]; exact hbd
    · rw [upd_other _ _ e, upd_other _ _ e]; exact h.bd i hi

/-- A new meter in one place of both arrays. -/
theorem MS.fresh (h : MS w M R b c r u wr) (hk : kk < 3) {n : Nat} (hn : n < 18446744073709551616)
    (hm : MeterAt w2 wr.heap.size n 0) (b1 : Below wr.heap.size wr w2)
    {B2 : Nat} (hB2 : B2 = (w2.setCell ⟨M, kk, none⟩ (ptr wr.heap.size)).heap.size) (hr : RefAt w3 B2 n 0) (b2 : Below B2 (w2.setCell ⟨M, kk, none⟩ (ptr wr.heap.size)) w3) :
    MS w M R (upd b kk wr.heap.size) (upd c kk B2) (upd r kk n) (upd u kk 0) (w3.setCell ⟨R, kk, none⟩ (ptr B2)) := by
  have hMl := h.ltM
  have hRl := h.ltR
  have hz2 := b1.size
  have hzs : (w2.setCell ⟨M, kk, none⟩ (ptr wr.heap.size)).heap.size = w2.heap.size := by simp [World.setCell]
  have hw2 : wr.heap.size < w2.heap.size := lt_of_block hm
  have hbi : ∀ i, i < 3 → b i < wr.heap.size := fun i hi => lt_of_block (h.m i hi)
  have hci : ∀ i, i < 3 → c i < wr.heap.size := fun i hi => lt_of_block (h.k i hi)
  have old : ∀ x, x < wr.heap.size → x ≠ M → x ≠ R → (w3.setCell ⟨R, kk, none⟩ (ptr B2)).heap[x]? = wr.heap[x]? := fun x hx h1 h2 => by
    rw [Below.heap_setCell _ _ _ _ h2, b2.block x (by omega), Below.heap_setCell _ _ _ _ h1, b1.block x hx]
  have hws := h.below.size
  refine ⟨?_, h.gm, h.gr, fun i hi => ?_, fun i hi => ?_, ?_, ?_, fun i hi => ?_, fun i hi => ?_, fun i hi => ?_, fun i j hi hj hij => ?_, fun i j hi hj hij => ?_⟩
  · exact ((((h.below.trans (b1.mono hws)).setCell (p := ⟨M, kk, none⟩) h.gm _).trans (b2.mono (by omega))).setCell (p := ⟨R, kk, none⟩) h.gr _)
  · by_cases e : i = kk
    · subst e; rw [upd_same]; exact hws
    · rw [upd_other _ _ e]; exact h.gb i hi
  · by_cases e : i = kk
    · subst e; rw [upd_same]; omega
    · rw [upd_other _ _ e]; exact h.gc i hi
  · rw [Below.heap_setCell _ _ _ _ h.MR, b2.block M (by omega), block_setCell ((b1.block M hMl).trans h.ms)]
    rcases three hk with rfl | rfl | rfl <;> rfl
  · have h1 : (w2.setCell ⟨M, kk, none⟩ (ptr wr.heap.size)).heap[R]? = wr.heap[R]? := by rw [Below.heap_setCell _ _ _ _ (fun e => h.MR e.symm), b1.block R hRl]
    rw [block_setCell ((b2.block R (by omega)).trans (h1.trans h.rs))]
    rcases three hk with rfl | rfl | rfl <;> rfl
  · by_cases e : i = kk
    · subst e; rw [upd_same, upd_same, upd_same]
      unfold MeterAt at *
      rw [Below.heap_setCell _ _ _ _ (show wr.heap.size ≠ R by omega), b2.block _ (by omega), Below.heap_setCell _ _ _ _ (show wr.heap.size ≠ M by omega)]; exact hm
    · rw [upd_other _ _ e, upd_other _ _ e, upd_other _ _ e]
      unfold MeterAt; rw [old _ (hbi i hi) (fun e2 => h.Mb hi e2.symm) (fun e2 => h.Rb hi e2.symm)]; exact h.m i hi
  · by_cases e : i = kk
    · subst e; rw [upd_same, upd_same, upd_same]
      unfold RefAt at *
      rw [Below.heap_setCell _ _ _ _ (show B2 ≠ R by omega)]; exact hr
    · rw [upd_other _ _ e, upd_other _ _ e, upd_other _ _ e]
      unfold RefAt; rw [old _ (hci i hi) (fun e2 => h.Mc hi e2.symm) (fun e2 => h.Rc hi e2.symm)]; exact h.k i hi
  · by_cases e : i = kk
    · subst e; rw [upd_same, upd_same]; omega
    · rw [upd_other _ _ e, upd_other _ _ e]; exact h.bd i hi
  · by_cases e : i = kk
    · subst e; rw [upd_same, upd_other _ _ (fun e => hij e.symm)]; have := hbi j hj; omega
    · by_cases e2 : j = kk
      · subst e2; rw [upd_same, upd_other _ _ e]; have := hbi i hi; omega
      · rw [upd_other _ _ e, upd_other _ _ e2]; exact h.nb i j hi hj hij
  · by_cases e : i = kk
    · subst e; rw [upd_same, upd_other _ _ (fun e => hij e.symm)]; have := hci j hj; omega
    · by_cases e2 : j = kk
      · subst e2; rw [upd_same, upd_other _ _ e]; have := hci i hi; omega
      · rw [upd_other _ _ e, upd_other _ _ e2]; exact h.nc i j hi hj hij
end

end Go.Proofs.Ytfhmcgpohpkjgaa
