/-
  The walks of strings.Builder's WriteByte, Write and WriteString, beside a block that stands. Conditions: at most 1000000 bytes.
-/
import Derived.Test.YtijmogehmcjopaaDoorW10
import Derived.Lib.AppendStr
import Derived.Lib.UnsafeStr
namespace Go.Proofs.YtijmogehmcjopaaDoor
open Go.RowKit Ct

/-- Block b is a builder that holds the bytes l; the block of G, another one, is none of its. -/
structure Bd (G : Option Nat) (B b : Nat) (l : List UInt8) (w : World) : Prop where
  lo : B ≤ b
  gb : ∀ g, G = some g → g ≠ b ∧ g < w.heap.size
  at' : ∃ p v, (p = .pointer none ∨ p = .pointer (some ⟨b, 0, none⟩)) ∧ w.heap[b]? = some (.cells #[p, v] 70 (0, 0)) ∧ w.ownsRow B 5 1 v l.length (Lib.byteCells l) ∧ v.ownBlock ≠ some b ∧ ∀ g, G = some g → v.ownBlock ≠ some g
/-- The block of G is as it was. -/
def Fr (G : Option Nat) (w w' : World) : Prop := ∀ g, G = some g → w'.heap[g]? = w.heap[g]?
theorem Fr.refl {G : Option Nat} {w : World} : Fr G w w := fun _ _ => rfl
theorem Fr.trans {G : Option Nat} {w w' w'' : World} (h : Fr G w w') (k : Fr G w' w'') : Fr G w w'' := fun g e => (k g e).trans (h g e)
theorem heap_lt {w : World} {b : Nat} {o : Obj} (h : w.heap[b]? = some o) : b < w.heap.size := by
  rcases Nat.lt_or_ge b w.heap.size with h' | h'
  · exact h'
  · simp [Array.getElem?_eq_none h'] at h

/-- Behind copyCheck. -/
theorem check_any {G : Option Nat} {B b : Nat} {l : List UInt8} {w : World} (h : Bd G B b l w) :
    Calls Tryd.prog 56 #[.pointer (some ⟨b, 0, none⟩)] w fun e w' => e = .returned (.tuple #[]) ∧ (∃ v, w'.heap[b]? = some (.cells #[.pointer (some ⟨b, 0, none⟩), v] 70 (0, 0)) ∧ w'.ownsRow B 5 1 v l.length (Lib.byteCells l) ∧ v.ownBlock ≠ some b ∧ ∀ g, G = some g → v.ownBlock ≠ some g) ∧ (∀ k, k ≠ b → w'.heap[k]? = w.heap[k]?) ∧ w'.heap.size = w.heap.size ∧ Below B w w' := by
  obtain ⟨p, v, hp, hb, ho, hv1, hv2⟩ := h.at'
  have hsh : w.shape? b = some (70, 2) := by simp [World.shape?, hb]
  rcases hp with rfl | rfl
  · refine (check_fresh b w (by rw [Lib.cell_of_heap hb]; rfl) hsh (by simp [World.frozen?, hb])).mono ?_
    rintro e w' ⟨rfl, rfl⟩
    refine ⟨rfl, ⟨v, by simp [World.setCell, Array.getElem?_modify, hb], ?_, hv1, hv2⟩, fun k hk => Below.heap_setCell _ _ _ _ hk, by simp [World.setCell], (Below.refl B w).setCell (p := ⟨b, 0, none⟩) h.lo _⟩
    exact ho.kept (row := some b) ⟨rfl, rfl, rfl, by simp [World.setCell], fun k _ hk => Below.heap_setCell _ _ _ _ (fun e => hk (by simp [e]))⟩ (Or.inr hv1)
  · refine (check_used b w (by rw [Lib.cell_of_heap hb]; rfl)).mono ?_
    rintro e w' ⟨rfl, rfl⟩
    exact ⟨rfl, ⟨v, hb, ho, hv1, hv2⟩, fun _ _ => rfl, rfl, Below.refl _ _⟩

theorem info5 : (Tryd.prog.info? 5).map (fun i => (i.zero, i.size, i.bytes)) = some (some (.int .u8 0), 1, 1) := by kernel_rfl

/-- The new value that a write stores. -/
theorem Bd.put {G : Option Nat} {B b : Nat} {l : List UInt8} {w : World} {v v' : Value} (hB : B ≤ b) (hb : w.heap[b]? = some (.cells #[.pointer (some ⟨b, 0, none⟩), v] 70 (0, 0))) (ho : w.ownsRow B 5 1 v' l.length (Lib.byteCells l))
    (h1 : v'.ownBlock ≠ some b) (h2 : ∀ g, G = some g → v'.ownBlock ≠ some g) (h3 : ∀ g, G = some g → g ≠ b ∧ g < w.heap.size) : Bd G B b l (w.setCell ⟨b, 1, none⟩ v') := by
  refine ⟨hB, fun g hg => ⟨(h3 g hg).1, by rw [show (w.setCell ⟨b, 1, none⟩ v').heap.size = w.heap.size by simp [World.setCell]]; exact (h3 g hg).2⟩, .pointer (some ⟨b, 0, none⟩), v', .inr rfl, by simp [World.setCell, Array.getElem?_modify, hb], ?_, h1, h2⟩
  exact ho.kept (row := some b) ⟨rfl, rfl, rfl, by simp [World.setCell], fun k _ hk => Below.heap_setCell _ _ _ _ (fun e => hk (by simp [e]))⟩ (Or.inr h1)
theorem ownsRow_form' {w : World} {base e n : Nat} {v : Value} {xs : List Value} (h : w.ownsRow base e 1 v n xs) : ∃ ao cap, v = .slice ao n cap := by
  rcases h.2 with ⟨rfl, rfl⟩ | ⟨g, cap, cur, rfl, _⟩
  · exact ⟨none, 0, rfl⟩
  · exact ⟨_, _, rfl⟩

set_option maxHeartbeats 2000000 in
set_option maxRecDepth 100000 in
theorem writeByte_any {G : Option Nat} {B b : Nat} {l : List UInt8} {w : World} (c : UInt8) (h : Bd G B b l w) (hlen : l.length ≤ 1000000) (hBw : B ≤ w.heap.size) :
    Calls Tryd.prog 36 #[.pointer (some ⟨b, 0, none⟩), .int .u8 (c.toNat : Int)] w fun e w' => e = .returned .nilIface ∧ Bd G B b (l ++ [c]) w' ∧ Fr G w w' ∧ w.heap.size ≤ w'.heap.size ∧ Below B w w' := by
  obtain ⟨i0, hi, hi'⟩ := Option.map_eq_some_iff.1 info5
  simp only [Prod.mk.injEq] at hi'
  obtain ⟨hz0, hz1, hz2⟩ := hi'
  have HC := check_any h
  have HGB := Lib.hid h.gb
  have hBlo := h.lo
  clear h
  go_enter Tryd.func36, Tryd.ntmps36
  go_wp2_with (go_at_call 56; refine HC.mono ?_)
  rintro e w1 ⟨rfl, ⟨v, hbk, hown, hne, hng⟩, hk1, hs1, hb1⟩
  have hG1 : Hid (Fr G w w1) := Lib.hid fun g e => hk1 g ((HGB.out g e).1)
  have hlt : b < w1.heap.size := heap_lt hbk
  have HNG := Lib.hid hng
  have HK := Lib.hid hk1
  have HS := Lib.hid hs1
  clear hng hk1 HC hs1
  have c0 : w1.cell? ⟨b, 0, none⟩ = some (.pointer (some ⟨b, 0, none⟩)) := by rw [Lib.cell_of_heap hbk]; rfl
  have c1 : w1.cell? ⟨b, 1, none⟩ = some v := by rw [Lib.cell_of_heap hbk]; rfl
  go_wp2_with (at_builtin; refine wpList_append_own_at _ rfl _ _ 56 rfl B 5 i0 (.int .u8 0) 1 1 Tryd.underlying56 hi hz0 hz1 hz2 rfl (by decide) v l.length (Lib.byteCells l) rfl (hown.alloc _) ⟨w1.heap.size, 0, none⟩ 1 1 [.int .u8 (c.toNat : Int)] rfl rfl ?c1 ?c2 ?c3 ?c4 ?c5 ?_)
  case c1 =>
    intro j u hj
    match j, hj with
    | 0, hj => simp at hj; subst hj; simp [Addr.add]
  case c2 => intro u hu; simp at hu; subst hu; rfl
  case c3 => unfold maxLen; omega
  case c4 => omega
  case c5 => have := HS.out; simp; omega
  intro v' w2 hown' hgrow _ hat
  have hb2 : w2.heap[b]? = some (.cells #[.pointer (some ⟨b, 0, none⟩), v] 70 (0, 0)) := by
    rw [hgrow.block b (by simp; omega) (fun e => hne e.symm), Lib.alloc_old w1 _ b hlt]
    exact hbk
  have d0 : w2.cell? ⟨b, 0, none⟩ = some (.pointer (some ⟨b, 0, none⟩)) := by rw [Lib.cell_of_heap hb2]; rfl
  have d1 : w2.cell? ⟨b, 1, none⟩ = some v := by rw [Lib.cell_of_heap hb2]; rfl
  have f1 : w2.frozen? ⟨b, 1, none⟩ = false := Lib.frozen_of_heap hb2 1
  have HAT := Lib.hid hat
  have HSZ : Hid (w1.heap.size < w2.heap.size) := Lib.hid (by have := hgrow.size; simp at this; omega)
  obtain ⟨ao, cap, rfl⟩ := ownsRow_form' hown'
  have HO := Lib.hid hown'
  have HGR := Lib.hid hgrow
  have HOW := Lib.hid hown
  have HNE := Lib.hid hne
  have HLT := Lib.hid hlt
  have HB1 := Lib.hid hb1
  clear hat hown' hgrow hown hne hlt hb1
  go_wp2
  go_ret
  have hG2 : Fr G w1 w2 := fun g e => by
    have hlg : g < w1.heap.size := by rw [HS.out]; exact (HGB.out g e).2
    rw [HGR.out.block g (by simp; omega) (fun k => HNG.out g e k.symm), Lib.alloc_old w1 _ g hlg]
  refine ⟨rfl, ?_, ?_, ?_, ?_⟩
  · refine Bd.put hBlo hb2 (by simpa [Lib.byteCells] using HO.out) ?_ ?_ ?_
    · rcases HAT.out with h | h
      · rw [h]; exact HNE.out
      · rw [h]; simp; have := HLT.out; omega
    · intro g e
      rcases HAT.out with h | h
      · rw [h]; exact HNG.out g e
      · rw [h]; simp; have := (HGB.out g e).2; have := HS.out; omega
    · intro g e; refine ⟨(HGB.out g e).1, ?_⟩
      have := (HGB.out g e).2; have := HS.out; have := HSZ.out; omega
  · exact (hG1.out.trans hG2).trans fun g e => Below.heap_setCell _ _ _ _ (HGB.out g e).1
  · have := HS.out; have := HSZ.out; simp [World.setCell]; omega
  · exact ((HB1.out.alloc (by have := HS.out; omega) _).grown HGR.out (by have := HS.out; simp; omega) (fun k hk => (HOW.out.lt k hk).1)).setCell (p := ⟨b, 1, none⟩) hBlo _
end Go.Proofs.YtijmogehmcjopaaDoor
