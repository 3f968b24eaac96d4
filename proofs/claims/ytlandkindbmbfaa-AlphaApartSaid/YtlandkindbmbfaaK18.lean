/-
  A net of one shape and the lists that it has handed out: what a row more and a list more do to them. No condition beyond those that each lemma states.
-/
import Derived.Test.YtlandkindbmbfaaW30
import Derived.Test.YtlandkindbmbfaaK13
namespace Go.Proofs.Ytlandkindbmbfaa
open Go.RowKit Plain

/-- 0, 1, .. -/
def iota (m : Nat) : List Int := (List.range m).map Int.ofNat
theorem iota_snoc (m : Nat) : iota (m + 1) = iota m ++ [(m : Int)] := by unfold iota; rw [List.range_succ, List.map_append]; rfl
theorem iota_len (m : Nat) : (iota m).length = m := by unfold iota; rw [List.length_map, List.length_range]

/-- One list more, in a block of its own. -/
theorem Lss.snoc {w w2 : World} {B : Nat} {T : Nat → Nat} {v v' u : Value} {vs : List Value} {ls : List (List Int)} {l : List Int} (h : Lss w B T v vs ls) (hu : OwnInts w B u l) (hT : ∀ b, u.ownBlock = some b → T b = 0)
    (hown : w2.ownsRow B 25 1 v' (ls.length + 1) (vs ++ [u])) (hg : w.grownBy w2 v.ownBlock) : Lss w2 B (fun b => if u.ownBlock = some b then ls.length + 1 else T b) v' (vs ++ [u]) (ls ++ [l]) := by
  have hk : ∀ (x : Value) (m : List Int), OwnInts w B x m → OwnInts w2 B x m := fun x m hx => World.ownsRow.kept hx hg (types_apart hx h.row (by decide))
  refine ⟨by rw [List.length_append, List.length_singleton]; exact hown, by simp [h.len], fun j x m e1 e2 => ?_⟩
  have hj : j < (ls ++ [l]).length := (List.getElem?_eq_some_iff.1 e2).1
  rw [List.length_append, List.length_singleton] at hj
  by_cases e : j < ls.length
  · rw [List.getElem?_append_left (by rw [h.len]; exact e)] at e1
    rw [List.getElem?_append_left e] at e2
    obtain ⟨e3, e4⟩ := h.ints j x m e1 e2
    refine ⟨hk x m e3, fun b hb => ?_⟩
    have e5 := e4 b hb
    show (if u.ownBlock = some b then ls.length + 1 else T b) = j + 1
    rw [if_neg (fun e6 => by have := hT b e6; omega)]; exact e5
  · obtain rfl : j = ls.length := by omega
    have e3 : (vs ++ [u])[ls.length]? = some u := by rw [← h.len]; simp
    have e4 : (ls ++ [l])[ls.length]? = some l := by simp
    rw [e3] at e1; rw [e4] at e2
    obtain rfl := Option.some.inj e1
    obtain rfl := Option.some.inj e2
    exact ⟨hk u l hu, fun b hb => if_pos hb⟩
theorem Lss.nil (w : World) (B : Nat) (T : Nat → Nat) : Lss w B T (.slice none 0 0) [] [] := ⟨World.ownsRow_nil _ _ _ _, rfl, fun j u l e => by simp at e⟩

/-- A net of the shape s that holds m rows which fit, and the lists ls that it has handed out. -/
structure Ap (wS : World) (G0 : Nat → Nat) (X : Nat) (mv : Value) (ms : List Nat) (s : Shp) (m : Nat) (ls : List (List Int)) (v : Value) (wr : World) (G T : Nat → Nat) (vs : List Value) : Prop where
  net : MNet wr G X mv ms [s] (fun _ => iota m) m
  tags : ∀ b, b < wS.heap.size → G b = G0 b
  turned : Turned G0 wS wr
  lss : Lss wr wS.heap.size T v vs ls
  tz : ∀ b, wr.heap.size ≤ b → T b = 0
  tg : ∀ b, T b ≠ 0 → G b = 0
  vg : ∀ b, v.ownBlock = some b → G b = 0
  tl : ∀ b, b < wS.heap.size → T b = 0
section
variable {wS wr w1 w2 : World} {G0 G T : Nat → Nat} {X m : Nat} {mv v v' u : Value} {ms : List Nat} {s : Shp} {ls : List (List Int)} {vs : List Value} {l : List Int}

theorem Ap.start (h : MNet wS G0 X mv ms [s] (fun _ => []) 0) : Ap wS G0 X mv ms s 0 [] (.slice none 0 0) wS G0 (fun _ => 0) [] :=
  ⟨h.congr (fun _ _ => rfl), fun _ _ => rfl, Turned.refl _ _, Lss.nil _ _ _, fun _ _ => rfl, fun b hb => absurd rfl hb, fun b hb => by simp [Value.ownBlock] at hb, fun _ _ => rfl⟩
theorem Ap.up (h : Ap wS G0 X mv ms s m ls v wr G T vs) (hb : Below wr.heap.size wr w1) : Ap wS G0 X mv ms s m ls v w1 G T vs :=
  ⟨h.net.up hb, h.tags, h.turned.trans (Turned.of_below (G := G) hb) h.tags, h.lss.up hb, fun b hb' => h.tz b (Nat.le_trans hb.size hb'), h.tg, h.vg, h.tl⟩
/-- A row that fits has come: a number more; what it told lies in a block of its own. -/
theorem Ap.add {mo : Nat → Nat} {p : Int} {row : List Int} {o : Value} (h : Ap wS G0 X mv ms s m ls v wr G T vs) (hf : fitsB s p row = true) (hA : AddInv wr G X mv ms [s] p row (fun _ => iota m) m [s].length [s].length o mo w1) :
    Ap wS G0 X mv ms s (m + 1) ls v w1 mo T vs ∧ OwnInts w1 wr.heap.size o [0] ∧ (∀ b, o.ownBlock = some b → T b = 0 ∧ mo b = 0) := by
  have hz := hA.turned.size
  refine ⟨⟨hA.net.congr (fun j hj => ?_), fun b hb => (hA.tags b (Nat.lt_of_lt_of_le hb h.turned.size)).trans (h.tags b hb), h.turned.trans hA.turned h.tags, ?_, fun b hb => h.tz b (by omega), fun b hb => ?_, fun b hb => ?_, h.tl⟩, ?_, fun b hb => ?_⟩
  · have hj0 : j = 0 := by simp at hj; omega
    subst hj0
    show (if 0 < 1 then addLs [s] p row m (fun _ => iota m) 0 else iota m) = iota (m + 1)
    rw [if_pos (by omega), addLs_yes (s := s) rfl hf, iota_snoc]
  · refine h.lss.keep (fun b hb => ?_) (fun b hb hT => ⟨?_, rfl⟩)
    · exact hA.turned.block b (World.ownsRow.lt h.lss.row b hb).2 (by rw [h.vg b hb]; decide)
    · exact hA.turned.block b hb (by rw [h.tg b hT]; decide)
  · have hb2 : b < wr.heap.size := by
      rcases Nat.lt_or_ge b wr.heap.size with h1 | h1
      · exact h1
      · exact absurd (h.tz b h1) hb
    rw [hA.tags b hb2]; exact h.tg b hb
  · rw [hA.tags b (World.ownsRow.lt h.lss.row b hb).2]; exact h.vg b hb
  · have h1 := hA.own
    rw [List.take_length] at h1
    have e : idx (fitF p row) [s] = [0] := by
      show (if fitF p row s = true then [(0 : Int)] else []) = [0]
      exact if_pos hf
    rw [e] at h1
    exact h1
  · have h1 := World.ownsRow.lt hA.own b hb
    exact ⟨h.tz b h1.1, hA.otag b hb⟩
/-- A list more. -/
theorem Ap.more {o : Obj} (h : Ap wS G0 X mv ms s m ls v wr G T vs) (hu : OwnInts wr wS.heap.size u l) (hT : ∀ b, u.ownBlock = some b → T b = 0 ∧ G b = 0)
    (hown : w2.ownsRow wS.heap.size 25 1 v' (ls.length + 1) (vs ++ [u])) (hg : (wr.alloc o).grownBy w2 v.ownBlock) (hat : v'.ownBlock = v.ownBlock ∨ v'.ownBlock = some (wr.alloc o).heap.size) :
    ∃ T', Ap wS G0 X mv ms s m (ls ++ [l]) v' w2 G T' (vs ++ [u]) ∧ ∀ b, u.ownBlock ≠ some b → T' b = T b := by
  have hup := h.up (up_alloc wr o)
  have hu1 : OwnInts (wr.alloc o) wS.heap.size u l := hu.alloc o
  have hvlt : ∀ b, v.ownBlock = some b → wS.heap.size ≤ b := fun b hb => (World.ownsRow.lt h.lss.row b hb).1
  have hub : ∀ b, u.ownBlock = some b → b < w2.heap.size := fun b hb => Nat.lt_of_lt_of_le (World.ownsRow.lt hu1 b hb).2 hg.size
  have hzz := hg.size
  refine ⟨_, ⟨hup.net.grown hg (fun b hb => h.vg b hb), h.tags, ?_, hup.lss.snoc hu1 (fun b hb => (hT b hb).1) hown hg, fun b hb => ?_, fun b hb => ?_, fun b hb => ?_, fun b hb => ?_⟩, fun b hb => if_neg hb⟩
  · exact hup.turned.trans (Turned.of_grown (G := fun b => if b < wS.heap.size then G0 b else 2) hg (fun b hb => .inr (by show 2 ≤ (if b < wS.heap.size then G0 b else 2); rw [if_neg (by have := hvlt b hb; omega)]; exact Nat.le_refl _))) (fun b hb => if_pos hb)
  · show (if u.ownBlock = some b then ls.length + 1 else T b) = 0
    rw [if_neg (fun e => by have := hub b e; omega)]
    exact hup.tz b (by omega)
  · replace hb : (if u.ownBlock = some b then ls.length + 1 else T b) ≠ 0 := hb
    by_cases e : u.ownBlock = some b
    · exact (hT b e).2
    · rw [if_neg e] at hb; exact h.tg b hb
  · rcases hat with e | e
    · exact h.vg b (e ▸ hb)
    · rw [e] at hb; have e2 := Option.some.inj hb; exact hup.net.zero b (by omega)
  · show (if u.ownBlock = some b then ls.length + 1 else T b) = 0
    rw [if_neg (fun e => by have := (World.ownsRow.lt hu b e).1; omega)]; exact h.tl b hb
/-- A block that is neither the net's nor a list's is written. -/
theorem Ap.write {a : Addr} {x : Value} (h : Ap wS G0 X mv ms s m ls v wr G T vs) (hG : G a.block = 0) (hT : T a.block = 0) (hv : v.ownBlock ≠ some a.block) (hS : wS.heap.size ≤ a.block) : Ap wS G0 X mv ms s m ls v (wr.setCell a x) G T vs := by
  have hb : ∀ b, b ≠ a.block → (wr.setCell a x).heap[b]? = wr.heap[b]? := fun b hb => Below.heap_setCell _ _ _ _ hb
  have hz : (wr.setCell a x).heap.size = wr.heap.size := by simp [World.setCell]
  refine ⟨h.net.keep (by omega) (fun b hb' => hb b (fun e => hb' (by rw [e]; exact hG))), h.tags, ?_, h.lss.keep (fun b hb' => hb b (fun e => hv (by rw [hb', e]))) (fun b _ hb' => ⟨hb b (fun e => hb' (by rw [e]; exact hT)), rfl⟩), fun b hb' => h.tz b (by omega), h.tg, h.vg, h.tl⟩
  exact ⟨h.turned.os, h.turned.tape, h.turned.output, by rw [hz]; exact h.turned.size, fun b hb1 hb2 => (hb b (by omega)).trans (h.turned.block b hb1 hb2)⟩
end

end Go.Proofs.Ytlandkindbmbfaa
