/-
  The walk of edictlaw10.shapesOf: the same shapes, with lists of their own. Conditions: the lists are within the form's own reach.
-/
import Derived.Test.YtlandkindbmbfaaK2
namespace Go.Proofs.Ytlandkindbmbfaa
open Go.RowKit Plain
attribute [local go_sem ↓] Go.wp_at_zero Go.wp_at_succ

theorem Try.info27 : (Try.prog.info? 27).map (fun i => (i.zero, i.size, i.bytes)) = some (some (.agg #[.int .i64 0, .slice none 0 0]), 2, 32) := by kernel_rfl

theorem one_shape (p : Int) {w : World} {B : Nat} {u : Value} {l : List Int} (h : OwnInts w B u l) : ∀ x ∈ [Value.int .i64 p, u], x.oneCell' = true := by
  intro x hx
  simp only [List.mem_cons, List.not_mem_nil, or_false] at hx
  rcases hx with rfl | rfl
  · rfl
  · rcases Joins.ownsRow_forms h with ⟨rfl, _⟩ | ⟨g, cap, rfl⟩ <;> rfl

theorem form_of {w : World} {B : Nat} {e : TypeId} {size : Nat} {v : Value} {n : Nat} {xs : List Value} (h : w.ownsRow B e size v n xs) (hn : v ≠ .slice none 0 0) : ∃ g c, v = .slice (some ⟨g, 0, none⟩) n c := by
  rcases Joins.ownsRow_forms h with ⟨rfl, _⟩ | ⟨g, cap, rfl⟩
  · exact absurd rfl hn
  · exact ⟨g, cap, rfl⟩

def OwnIs (ss : List Shp) (w : World) (e : Ending) (w' : World) : Prop := ∃ v, e = .returned v ∧ OwnShps w' w.heap.size v ss ∧ Below w.heap.size w w'

theorem take_snoc {ss : List Shp} {i : Nat} {s : Shp} (h : ss[i]? = some s) : ss.take (i + 1) = ss.take i ++ [s] := by
  rw [List.take_add_one, h]; rfl

set_option maxRecDepth 100000 in
set_option maxHeartbeats 3200000 in
theorem shapesOf_any (ss : List Shp) (v : Value) (w : World) (hv : ShpsAt w w.heap.size v ss) (hs : Okays ss) (hn : ss.length ≤ 4398046510976) :
    Calls Try.prog 13 #[v] w (OwnIs ss w) := by
  obtain ⟨i3, qi, q0, q1, q2⟩ := info_parts Try.info3
  obtain ⟨i27, pi, p0, p1, p2⟩ := info_parts Try.info27
  obtain ⟨a, cap, rfl, ha⟩ := hv
  have HA := Lib.hid ha
  clear ha
  go_enter Try.func13, Try.ntmps13
  go_wp2
  go_loopw [3, 4] (fun v k wr => ∃ (o : Value) (i : Nat), o = v ∧ k = .int .i64 (i : Int) ∧ i ≤ ss.length ∧ OwnShps wr w.heap.size o (ss.take i) ∧ Below w.heap.size w wr) (fun _ k _ => ss.length - (intOf k).toNat)
  case atStart => exact ⟨_, 0, rfl, rfl, Nat.zero_le _, OwnShps.nil _ _, Below.refl _ _⟩
  case round =>
    obtain ⟨v, i, rfl, rfl, hil, hown, hnx⟩ := hrel
    have hsz := hnx.size
    have NX := Lib.hid hnx
    clear hnx
    by_cases h1 : i < ss.length
    · obtain ⟨g, off, rfl, hg, hc⟩ := HA.out.resolve_left (fun e => by rw [e] at h1; simp at h1)
      obtain ⟨s, hsi⟩ : ∃ s, ss[i]? = some s := ⟨ss[i]'h1, List.getElem?_eq_getElem h1⟩
      obtain ⟨u, hc0, hc1, hu, hnil⟩ := hc i s hsi
      have hok := hs s (List.mem_of_getElem? hsi)
      have hsl := hok.2
      have c0 := below_cells NX.out (by simpa using hg) hc0
      have c1 := below_cells NX.out (by simpa using hg) hc1
      have hur : IntsAt wr w.heap.size u s.cells := hu.below NX.out
      have TS := Lib.hid (take_snoc hsi)
      obtain ⟨vs, hvl, ho, hoi⟩ := hown
      have hti : (ss.take i).length = i := by rw [List.length_take]; omega
      rw [hti] at ho hvl
      have h3 : (i : Int) < (ss.length : Int) := by omega
      have h4 : (0 : Int) ≤ (i : Int) := Int.natCast_nonneg _
      have HI := Lib.hid hoi
      have HU := Lib.hid hur
      clear hc hc0 hc1 hoi hu hur hsi hok
      obtain ⟨au, cu, hue, _⟩ := HU.out
      subst hue
      rcases au with _ | ad
      · obtain ⟨e1, e2⟩ := hnil _ _ rfl
        have hu0 : s.cells = [] := List.length_eq_zero_iff.1 e1
        obtain rfl := e2
        have H0 := Lib.hid hu0
        rw [e1] at c1
        have k0 : (wr.alloc (.cells #[] 3)).cell? ⟨g, off + i * 2, none⟩ = some (.int .i64 s.pred) := (World.cell?_alloc_past _ _ _ (show g < _ by first | omega | (simp; omega))).trans c0
        have k1 : (wr.alloc (.cells #[] 3)).cell? ⟨g, off + i * 2 + 1, none⟩ = some (.slice none 0 0) := (World.cell?_alloc_past _ _ _ (show g < _ by first | omega | (simp; omega))).trans c1
        have hm1 : (wr.alloc (.cells #[] 3)).ownsRow w.heap.size 27 2 v i (flat (ss.take i) vs) := World.ownsRow.alloc ho _
        have hu1 : OwnInts (wr.alloc (.cells #[] 3)) w.heap.size (.slice (some ⟨wr.heap.size, 0, none⟩) 0 0) s.cells := by rw [H0.out]; exact World.ownsRow_made wr #[] 0 hsz (by decide) rfl
        have hone1 := one_shape s.pred hu1
        have hs1 : w.heap.size ≤ (wr.alloc (.cells #[] 3)).heap.size := by simp; omega
        have hz1 : (wr.alloc (.cells #[] 3)).heap.size = wr.heap.size + 1 := by simp
        clear hnil e1
        go_wp2_with fail
        go_region_held3 (fun w' => w'.cell? ⟨g, off + i * 2, none⟩ = some (.int .i64 s.pred) ∧ w'.cell? ⟨g, off + i * 2 + 1, none⟩ = some (.slice none 0 0)) (first | exact ⟨c0, c1⟩ | exact ⟨k0, k1⟩ | exact ⟨(World.cell?_alloc_past _ _ _ (show g < _ by first | omega | (simp; omega))).trans k0, (World.cell?_alloc_past _ _ _ (show g < _ by first | omega | (simp; omega))).trans k1⟩ | go_keep)
          (first
            | (refine step_append_own_none _ (by rfl) _ _ 25 (by rfl) w.heap.size 3 i3 1 Try.underlying25 qi (.slice (some ⟨wr.heap.size, 0, none⟩) 0 0) 0 [] (by rfl) (by exact World.ownsRow_made wr #[] 0 hsz (by decide) rfl) (by rfl) ?_)
            | (refine step_append_own _ (by rfl) _ _ 22 (by rfl) w.heap.size 27 i27 (.agg #[.int .i64 0, .slice none 0 0]) 2 32 Try.underlying22 pi p0 p1 p2 rfl (by decide) v i (flat (ss.take i) vs) (by rfl) (by exact hm1.alloc _) ⟨wr.heap.size + 1, 0, none⟩ 1 1 [.int .i64 s.pred, .slice (some ⟨wr.heap.size, 0, none⟩) 0 0] (by rfl) (by rfl) (World.news_of_block (cs := #[.int .i64 s.pred, .slice (some ⟨wr.heap.size, 0, none⟩) 0 0]) (t := 27) (fr := (0, 0)) (by rw [← hz1]; exact heap_alloc_new _ _)) hone1 (by unfold maxLen; omega) (by omega) (by simp; omega) ?_; intro v2 w2 hown2 hgrow2 hnil2; have hgrow2' : ((wr.alloc (.cells #[] 3)).alloc (.cells #[.int .i64 s.pred, .slice (some ⟨wr.heap.size, 0, none⟩) 0 0] 27)).grownBy w2 v.ownBlock := ⟨hgrow2.os, hgrow2.tape, hgrow2.output, hgrow2.size, hgrow2.block⟩; have k0 := hgrow2'.cell (a := ⟨g, off + i * 2, none⟩) (World.cell?_alloc_past _ _ _ (show g < _ by first | omega | (simp; omega)) |>.trans k0) (by intro e; have := (ho.lt g e.symm).1; omega); have k1 := hgrow2'.cell (a := ⟨g, off + i * 2 + 1, none⟩) (World.cell?_alloc_past _ _ _ (show g < _ by first | omega | (simp; omega)) |>.trans k1) (by intro e; have := (ho.lt g e.symm).1; omega)))
        have HK := Lib.hid (fun (j : Nat) (t : Shp) (x : Value) (e1 : (ss.take i)[j]? = some t) (e2 : vs[j]? = some x) => (World.ownsRow.alloc (HI.out j t x e1 e2) (.cells #[] 3) : OwnInts (wr.alloc (.cells #[] 3)) w.heap.size x t.cells))
        have hb1 : Below w.heap.size w (wr.alloc (.cells #[] 3)) := NX.out.alloc hsz _
        go_wp2
        have hsn := OwnShps.snoc (v := v) (s := s) (vs := vs) (ss := ss.take i) (by rw [hti]; exact hvl) (by rw [hti]; exact World.ownsRow.alloc hm1 (.cells #[.int .i64 s.pred, .slice (some ⟨wr.heap.size, 0, none⟩) 0 0] 27)) (fun j t x e1 e2 => World.ownsRow.alloc (HK.out j t x e1 e2) _) (hu1.alloc _) (by rw [hti]; exact hown2) hgrow2'
        rw [← TS.out] at hsn
        have hbl : Below w.heap.size w w2 := (hb1.alloc hs1 _).grown hgrow2' (by simp; omega) (fun k hk => (hm1.lt k hk).1)
        go_roundw
        case rel => exact ⟨_, i + 1, rfl, by go_num, by omega, hsn, hbl⟩
        case measure => simp only [intOf]; omega
      · have HNW := Lib.hid ((HU.out.alloc hsz (.cells #[] 3)).news)
        have k0 : (wr.alloc (.cells #[] 3)).cell? ⟨g, off + i * 2, none⟩ = some (.int .i64 s.pred) := (World.cell?_alloc_past _ _ _ (show g < _ by first | omega | (simp; omega))).trans c0
        have k1 : (wr.alloc (.cells #[] 3)).cell? ⟨g, off + i * 2 + 1, none⟩ = some (.slice (some ad) s.cells.length cu) := (World.cell?_alloc_past _ _ _ (show g < _ by first | omega | (simp; omega))).trans c1
        go_wp2_with fail
        go_region_held3 (fun w' => w'.cell? ⟨g, off + i * 2, none⟩ = some (.int .i64 s.pred) ∧ w'.cell? ⟨g, off + i * 2 + 1, none⟩ = some (.slice (some ad) s.cells.length cu)) (first | exact ⟨c0, c1⟩ | exact ⟨k0, k1⟩ | exact ⟨(World.cell?_alloc_past _ _ _ (show g < _ by first | omega | (simp; omega))).trans k0, (World.cell?_alloc_past _ _ _ (show g < _ by first | omega | (simp; omega))).trans k1⟩ | go_keep)
          (first
            | (refine step_append_own _ (by rfl) _ _ 25 (by rfl) w.heap.size 3 i3 (.int .i64 0) 1 8 Try.underlying25 qi q0 q1 q2 rfl (by decide) (.slice (some ⟨wr.heap.size, 0, none⟩) 0 0) 0 [] (by rfl) (by exact World.ownsRow_made wr #[] 0 hsz (by decide) rfl) ad s.cells.length cu (lits s.cells) (by rfl) (by rw [lits_length, Nat.mul_one]) (by exact HNW.out) (lits_one _) (by unfold maxLen; omega) (by omega) (by simp; omega) ?_; intro u1 w1 hown1 hgrow1 hnil1; obtain ⟨gu, cu1, rfl⟩ := form_of hown1 (fun e => by have := (hnil1.1 e).1; simp at this); simp only [Nat.zero_add, List.nil_append] at hown1 ⊢; have hgrow1' : (wr.alloc (.cells #[] 3)).grownBy w1 (some wr.heap.size) := ⟨hgrow1.os, hgrow1.tape, hgrow1.output, hgrow1.size, hgrow1.block⟩; have k0 := hgrow1'.cell k0 (by simp; omega); have k1 := hgrow1'.cell k1 (by simp; omega); have hm1 : w1.ownsRow w.heap.size 27 2 v i (flat (ss.take i) vs) := World.ownsRow.kept (World.ownsRow.alloc ho (.cells #[] 3)) hgrow1' (lt_of_own ho (.inr ⟨_, rfl, Nat.le_refl _⟩)); have hu1 : OwnInts w1 w.heap.size (.slice (some ⟨gu, 0, none⟩) s.cells.length cu1) s.cells := hown1; have hone1 := one_shape s.pred hu1; have hs1 : w.heap.size ≤ w1.heap.size := (by have := hgrow1'.size; simp at this; omega))
            | (refine step_append_own _ (by rfl) _ _ 22 (by rfl) w.heap.size 27 i27 (.agg #[.int .i64 0, .slice none 0 0]) 2 32 Try.underlying22 pi p0 p1 p2 rfl (by decide) v i (flat (ss.take i) vs) (by rfl) (by exact hm1.alloc _) ⟨w1.heap.size, 0, none⟩ 1 1 [.int .i64 s.pred, (.slice (some ⟨gu, 0, none⟩) s.cells.length cu1)] (by rfl) (by rfl) (World.news_of_block (cs := #[.int .i64 s.pred, (.slice (some ⟨gu, 0, none⟩) s.cells.length cu1)]) (t := 27) (fr := (0, 0)) (heap_alloc_new w1 _)) hone1 (by unfold maxLen; omega) (by omega) (by simp; omega) ?_; intro v2 w2 hown2 hgrow2 hnil2; have hgrow2' : (w1.alloc (.cells #[.int .i64 s.pred, (.slice (some ⟨gu, 0, none⟩) s.cells.length cu1)] 27)).grownBy w2 v.ownBlock := ⟨hgrow2.os, hgrow2.tape, hgrow2.output, hgrow2.size, hgrow2.block⟩; have k0 := hgrow2'.cell (a := ⟨g, off + i * 2, none⟩) (World.cell?_alloc_past _ _ _ (show g < _ by first | omega | (simp; omega)) |>.trans k0) (by intro e; have := (ho.lt g e.symm).1; omega); have k1 := hgrow2'.cell (a := ⟨g, off + i * 2 + 1, none⟩) (World.cell?_alloc_past _ _ _ (show g < _ by first | omega | (simp; omega)) |>.trans k1) (by intro e; have := (ho.lt g e.symm).1; omega)))
        have HK := Lib.hid (fun (j : Nat) (t : Shp) (x : Value) (e1 : (ss.take i)[j]? = some t) (e2 : vs[j]? = some x) => (World.ownsRow.kept (World.ownsRow.alloc (HI.out j t x e1 e2) (.cells #[] 3)) hgrow1' (lt_of_own (HI.out j t x e1 e2) (.inr ⟨_, rfl, Nat.le_refl _⟩)) : OwnInts w1 w.heap.size x t.cells))
        have hb1 : Below w.heap.size w w1 := (NX.out.alloc hsz _).grown hgrow1' (by simp; omega) (fun k hk => by simp at hk; omega)
        go_wp2
        have hsn := OwnShps.snoc (v := v) (s := s) (vs := vs) (ss := ss.take i) (by rw [hti]; exact hvl) (by rw [hti]; exact World.ownsRow.alloc hm1 (.cells #[.int .i64 s.pred, (.slice (some ⟨gu, 0, none⟩) s.cells.length cu1)] 27)) (fun j t x e1 e2 => World.ownsRow.alloc (HK.out j t x e1 e2) _) (hu1.alloc _) (by rw [hti]; exact hown2) hgrow2'
        rw [← TS.out] at hsn
        have hbl : Below w.heap.size w w2 := (hb1.alloc hs1 _).grown hgrow2' (by simp; omega) (fun k hk => (hm1.lt k hk).1)
        go_roundw
        case rel => exact ⟨_, i + 1, rfl, by go_num, by omega, hsn, hbl⟩
        case measure => simp only [intOf]; omega
    · have e : i = ss.length := by omega
      have HO := Lib.hid (show OwnShps wr w.heap.size v ss by rw [e, List.take_length] at hown; exact hown)
      clear e hown
      go_wp2
      go_ret
      exact ⟨_, rfl, HO.out, NX.out⟩

end Go.Proofs.Ytlandkindbmbfaa
