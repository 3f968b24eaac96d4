/-
  Texts of this seat, one behind the other: V3, V4. Conditions: those that each of them states.
-/
import Derived.Test.YtlandkindbmbfaaG13
import Derived.Test.YtlandkindbmbfaaG12
/-
  Two nets over the same rows, the package's, which may be watched, and the document's: what holds of both between the calls, and the document's calls. Conditions: the numbers are ints, the lists within the form's own reach.
-/
namespace Go.Proofs.Ytlandkindbmbfaa.Wa
open Go.RowKit Plain
attribute [local go_sem ↓] Go.wp_at_zero Go.wp_at_succ
variable [Inhabited WVals]

structure Both (wB : World) (X : Nat) (mv : Value) (ms : List Nat) (ss : List Shp) (X2 : Nat) (sv : Value) (ra rd : List Shp) (wr : World) (G : Nat → Nat) (rv : Value) : Prop where
  net : MNet wr G X mv ms ss (lsOf ss ra) ra.length
  zero : ∀ k, k < wB.heap.size → G k = 0
  lt2 : X2 < wB.heap.size
  box : wr.heap[X2]? = some (.cells #[sv, rv] 98 (0, 0))
  rows : RowsZ wr G wB.heap.size rv rd
  exc : Exc X2 wB wr

section
variable {wB wr w1 w2 : World} {G G' : Nat → Nat} {B X X2 : Nat} {mv sv rv rv' v u : Value} {ms : List Nat} {ss ra rd l : List Shp} {r : Shp}
theorem Both.x2lt (h : Both wB X mv ms ss X2 sv ra rd wr G rv) : X2 < wr.heap.size := lt_of_block h.box
theorem Both.up (h : Both wB X mv ms ss X2 sv ra rd wr G rv) (hb : Below wr.heap.size wr w1) : Both wB X mv ms ss X2 sv ra rd w1 G rv :=
  ⟨h.net.up hb, h.zero, h.lt2, (hb.block X2 h.x2lt).trans h.box, h.rows.keep (fun k hk hg _ => ⟨hb.block k hk, hg⟩), h.exc.trans hb.size hb.os hb.tape hb.output (fun k hk _ => hb.block k (Nat.lt_of_lt_of_le hk h.exc.size))⟩
theorem Both.same (h : Both wB X mv ms ss X2 sv ra rd wr G rv) (e : w1.heap = wr.heap) (eo : w1.os = wr.os) (et : w1.tape = wr.tape) (ep : w1.output = wr.output) : Both wB X mv ms ss X2 sv ra rd w1 G rv :=
  h.up ⟨eo, et, ep, by rw [e]; exact Nat.le_refl _, fun k _ => by rw [e]⟩
theorem Both.drew (h : Both wB X mv ms ss X2 sv ra rd wr G rv) : Both wB X mv ms ss X2 sv ra rd wr.drew G rv := h.same rfl rfl rfl rfl
theorem Both.alloc (h : Both wB X mv ms ss X2 sv ra rd wr G rv) (o : Obj) : Both wB X mv ms ss X2 sv ra rd (wr.alloc o) G rv := h.up (up_alloc _ _)
/-- The document's shapes stay. -/
theorem Both.shps (h : Both wB X mv ms ss X2 sv ra rd wr G rv) (hs : OwnShps wB (X2 + 1) sv ss) : OwnShps wr (X2 + 1) sv ss := by
  obtain ⟨vs, hl, ho, hi⟩ := hs
  have key : ∀ k, X2 + 1 ≤ k ∧ k < wB.heap.size → wr.heap[k]? = wB.heap[k]? := fun k hk => h.exc.block k hk.2 (by omega)
  exact ⟨vs, hl, row_keep ho (fun k hk => key k (World.ownsRow.lt ho k hk)), fun j s u h1 h2 => row_keep (hi j s u h1 h2) (fun k hk => key k (World.ownsRow.lt (hi j s u h1 h2) k hk))⟩
theorem Both.c0 (h : Both wB X mv ms ss X2 sv ra rd wr G rv) : wr.cell? ⟨X2, 0, none⟩ = some sv := by have := h.box; simp only [World.cell?, this]; rfl
theorem Both.c1 (h : Both wB X mv ms ss X2 sv ra rd wr G rv) : wr.cell? ⟨X2, 1, none⟩ = some rv := by have := h.box; simp only [World.cell?, this]; rfl
theorem Both.f1 (h : Both wB X mv ms ss X2 sv ra rd wr G rv) : wr.frozen? ⟨X2, 1, none⟩ = false := by have := h.box; simp only [World.frozen?, this]; rfl
/-- The package's net has taken a row, or lost some. -/
theorem Both.turn (h : Both wB X mv ms ss X2 sv ra rd wr G rv) {ra' : List Shp} (hn : MNet w1 G' X mv ms ss (lsOf ss ra') ra'.length) (ht : ∀ k, k < wr.heap.size → G' k = G k) (hT : Turned G wr w1) : Both wB X mv ms ss X2 sv ra' rd w1 G' rv := by
  have hx := h.x2lt
  have hz := h.exc.size
  have hX2 : G X2 = 0 := h.zero X2 h.lt2
  refine ⟨hn, fun k hk => (ht k (Nat.lt_of_lt_of_le hk hz)).trans (h.zero k hk), h.lt2, (hT.block X2 hx (by omega)).trans h.box, h.rows.keep (fun k hk hg _ => ⟨hT.block k hk (by omega), (ht k hk).trans hg⟩),
    h.exc.trans hT.size hT.os hT.tape hT.output (fun k hk _ => hT.block k (Nat.lt_of_lt_of_le hk hz) (by rw [h.zero k hk]; decide))⟩
/-- The document's net has taken a row. -/
theorem Both.push (h : Both wB X mv ms ss X2 sv ra rd wr G rv) {vs : List Value} (hl : vs.length = rd.length) (ho : wr.ownsRow wB.heap.size 33 2 rv rd.length (flat rd vs)) (hz : ∀ k, rv.ownBlock = some k → G k = 0)
    (hi : ∀ (j : Nat) (s : Shp) (x : Value), rd[j]? = some s → vs[j]? = some x → OwnInts wr wB.heap.size x s.cells ∧ ∀ k, x.ownBlock = some k → G k = 0)
    (hb : Below wr.heap.size wr w1) (hu : OwnInts w1 wr.heap.size u r.cells) (hg : w1.grownBy w2 rv.ownBlock)
    (hown : w2.ownsRow wB.heap.size 33 2 rv' (rd.length + 1) (flat rd vs ++ [.int .i64 r.pred, u])) (hat : rv'.ownBlock = rv.ownBlock ∨ rv'.ownBlock = some w1.heap.size) :
    Both wB X mv ms ss X2 sv ra (rd ++ [r]) (w2.setCell ⟨X2, 1, none⟩ rv') G rv' ∧ Chg X2 rv wr (w2.setCell ⟨X2, 1, none⟩ rv') := by
  have hx := h.x2lt
  have hx2 := h.lt2
  have hzs := h.exc.size
  have hX2 : G X2 = 0 := h.zero X2 h.lt2
  have hsz : (w2.setCell ⟨X2, 1, none⟩ rv').heap.size = w2.heap.size := by simp [World.setCell]
  have hrlt : ∀ k, rv.ownBlock = some k → wB.heap.size ≤ k ∧ k < wr.heap.size := fun k hk => World.ownsRow.lt ho k hk
  have hrX : rv.ownBlock ≠ some X2 := fun e => by have := hrlt X2 e; omega
  have k1 : ∀ k, k < w1.heap.size → k ≠ X2 → rv.ownBlock ≠ some k → (w2.setCell ⟨X2, 1, none⟩ rv').heap[k]? = w1.heap[k]? := fun k hk hkx hkr =>
    (Below.heap_setCell _ _ _ _ hkx).trans (hg.block k hk (fun e => hkr e.symm))
  have kr : ∀ k, k < wr.heap.size → k ≠ X2 → rv.ownBlock ≠ some k → (w2.setCell ⟨X2, 1, none⟩ rv').heap[k]? = wr.heap[k]? := fun k hk hkx hkr =>
    (k1 k (Nat.lt_of_lt_of_le hk hb.size) hkx hkr).trans (hb.block k hk)
  have hs1 := hb.size
  have hs2 := hg.size
  have hbox : w2.heap[X2]? = some (.cells #[sv, rv] 98 (0, 0)) := (hg.block X2 (by omega) (fun e => hrX e.symm)).trans ((hb.block X2 hx).trans h.box)
  refine ⟨⟨h.net.keep (by omega) (fun k hk => kr k (h.net.lt hk) (fun e => hk (by rw [e]; exact hX2)) (fun e => hk (hz k e))), h.zero, h.lt2, by rw [block_setCell hbox]; rfl, ?_, ?_⟩, ?_⟩
  · refine ⟨vs ++ [u], by simp [hl], ?_, fun k hk => ?_, fun j s x e1 e2 => ?_⟩
    · rw [flat_snoc _ _ _ _ hl, List.length_append, List.length_singleton]
      exact row_keep hown (fun k hk => Below.heap_setCell _ _ _ _ (fun e => by have := (World.ownsRow.lt hown k hk).1; simp only at e; omega))
    · rcases hat with e | e
      · exact hz k (e ▸ hk)
      · rw [hk] at e; have := Option.some.inj e; exact h.net.zero k (by omega)
    · have hj : j < (rd ++ [r]).length := (List.getElem?_eq_some_iff.1 e1).1
      rw [List.length_append, List.length_singleton] at hj
      by_cases e : j < rd.length
      · rw [List.getElem?_append_left e] at e1
        rw [List.getElem?_append_left (by omega)] at e2
        obtain ⟨h1, h2⟩ := hi j s x e1 e2
        refine ⟨row_keep h1 (fun k hk => ?_), h2⟩
        have hk2 := World.ownsRow.lt h1 k hk
        refine kr k hk2.2 (by omega) (fun e => ?_)
        rcases types_apart h1 ho (by decide) with h3 | h3
        · rw [h3] at hk; cases hk
        · exact h3 (hk.trans e.symm)
      · obtain rfl : j = rd.length := by omega
        have e3 : (rd ++ [r])[rd.length]? = some r := by simp
        have e4 : (vs ++ [u])[rd.length]? = some u := by rw [← hl]; simp
        rw [e3] at e1; rw [e4] at e2
        obtain rfl := Option.some.inj e1
        obtain rfl := Option.some.inj e2
        refine ⟨(row_keep hu (fun k hk => ?_)).mono hzs, fun k hk => h.net.zero k (World.ownsRow.lt hu k hk).1⟩
        have hk2 := World.ownsRow.lt hu k hk
        exact k1 k hk2.2 (by omega) (fun e => by have := hrlt k e; omega)
  · exact h.exc.trans (by omega) (hg.os.trans hb.os) (hg.tape.trans hb.tape) (hg.output.trans hb.output) (fun k hk hkx => kr k (by omega) hkx (fun e => by have := hrlt k e; omega))
  · exact ⟨hg.os.trans hb.os, hg.tape.trans hb.tape, hg.output.trans hb.output, by omega, kr⟩
/-- The document's net has lost some rows. -/
theorem Both.cut (h : Both wB X mv ms ss X2 sv ra rd wr G rv) {vs : List Value} {m : Nat} (hm : m ≤ rd.length) (hl : vs.length = rd.length)
    (hi : ∀ (j : Nat) (s : Shp) (x : Value), rd[j]? = some s → vs[j]? = some x → OwnInts wr wB.heap.size x s.cells ∧ ∀ k, x.ownBlock = some k → G k = 0)
    (hb : Below wr.heap.size wr w2) (hown : w2.ownsRow wr.heap.size 33 2 rv' m ((flat rd vs).take (m * 2))) :
    Both wB X mv ms ss X2 sv ra (rd.take m) (w2.setCell ⟨X2, 1, none⟩ rv') G rv' ∧ Chg X2 rv wr (w2.setCell ⟨X2, 1, none⟩ rv') := by
  have hx := h.x2lt
  have hx2 := h.lt2
  have hzs := h.exc.size
  have hX2 : G X2 = 0 := h.zero X2 h.lt2
  have hsz : (w2.setCell ⟨X2, 1, none⟩ rv').heap.size = w2.heap.size := by simp [World.setCell]
  have kr : ∀ k, k < wr.heap.size → k ≠ X2 → (w2.setCell ⟨X2, 1, none⟩ rv').heap[k]? = wr.heap[k]? := fun k hk hkx => (Below.heap_setCell _ _ _ _ hkx).trans (hb.block k hk)
  have hs1 := hb.size
  have hbox : w2.heap[X2]? = some (.cells #[sv, rv] 98 (0, 0)) := (hb.block X2 hx).trans h.box
  have hml : (rd.take m).length = m := by rw [List.length_take]; omega
  refine ⟨⟨h.net.keep (by omega) (fun k hk => kr k (h.net.lt hk) (fun e => hk (by rw [e]; exact hX2))), h.zero, h.lt2, by rw [block_setCell hbox]; rfl, ?_, ?_⟩, ?_⟩
  · refine ⟨vs.take m, by rw [List.length_take, hml]; omega, ?_, fun k hk => h.net.zero k (World.ownsRow.lt hown k hk).1, fun j s x e1 e2 => ?_⟩
    · rw [hml, ← flat_take]
      exact (row_keep hown (fun k hk => Below.heap_setCell _ _ _ _ (fun e => by have := (World.ownsRow.lt hown k hk).1; simp only at e; omega))).mono hzs
    · have hj : j < (rd.take m).length := (List.getElem?_eq_some_iff.1 e1).1
      rw [hml] at hj
      rw [List.getElem?_take_of_lt hj] at e1 e2
      obtain ⟨h1, h2⟩ := hi j s x e1 e2
      refine ⟨row_keep h1 (fun k hk => ?_), h2⟩
      have hk2 := World.ownsRow.lt h1 k hk
      exact kr k hk2.2 (by omega)
  · exact h.exc.trans (by omega) hb.os hb.tape hb.output (fun k hk hkx => kr k (by omega) hkx)
  · exact ⟨hb.os, hb.tape, hb.output, by omega, fun k hk hkx _ => kr k hk hkx⟩
theorem Both.atGrown (h : Both wB X mv ms ss X2 sv ra rd w1 G rv) (hg : w1.grownBy w2 rv.ownBlock) : w2.cell? ⟨X2, 1, none⟩ = some rv ∧ w2.frozen? ⟨X2, 1, none⟩ = false := by
  obtain ⟨vs, hl, ho, _⟩ := h.rows
  have e : w2.heap[X2]? = some (.cells #[sv, rv] 98 (0, 0)) := (hg.block X2 h.x2lt (fun e => by have := (World.ownsRow.lt ho X2 e.symm).1; have := h.lt2; omega)).trans h.box
  exact ⟨by simp only [World.cell?, e]; rfl, by simp only [World.frozen?, e]; rfl⟩
end

def RAddIs (wB : World) (X : Nat) (mv : Value) (ms : List Nat) (ss : List Shp) (X2 : Nat) (sv : Value) (ra rd : List Shp) (w : World) (G : Nat → Nat) (rv : Value) (r : Shp) (e : Ending) (w' : World) : Prop :=
  ∃ v rv', e = .returned (.tuple #[v, .int .i64 0]) ∧ Both wB X mv ms ss X2 sv ra (rd ++ [r]) w' G rv' ∧ Chg X2 rv w w' ∧ OwnInts w' w.heap.size v (took ss r)

section
variable {wB w : World} {G : Nat → Nat} {X X2 : Nat} {mv sv rv : Value} {ms : List Nat} {ss ra rd : List Shp}
set_option maxRecDepth 100000 in
set_option maxHeartbeats 6400000 in
theorem radd_yes (h : Both wB X mv ms ss X2 sv ra rd w G rv) (hsh : OwnShps wB (X2 + 1) sv ss) (hok : Okays ss) (hss : ss.length ≤ 4398046510976) (hn : rd.length < 4398046510976) (p : Int) (row : List Int) (u : Value) (hu : IntsAt w w.heap.size u row) (hny : Nilly u) (hub : row ≠ [] → ∀ k, u.ownBlock = some k → k ≠ X2 ∧ rv.ownBlock ≠ some k)
    (hr : row.length ≤ 17592186044400) (hp : 0 ≤ p) (hng : negB row = false) : Calls Try.prog 41 #[.pointer (some ⟨X2, 0, none⟩), .int .i64 p, u] w (RAddIs wB X mv ms ss X2 sv ra rd w G rv ⟨p, row⟩) := by
  obtain ⟨i3, qi, q0, q1, q2⟩ := info_parts Try.info3
  obtain ⟨i33, ri, r0, r1, r2⟩ := info_parts Try.info33
  obtain ⟨aR, cR, rfl, hRF⟩ := h.rows.form
  obtain ⟨aS, cS, rfl, hSF⟩ := hsh.at.form
  obtain ⟨vs, hvl, ho, hz, hi⟩ := h.rows
  obtain ⟨au, cu, rfl, ha⟩ := id hu
  have HB := Lib.hid h
  have HSH := Lib.hid hsh
  have HSF := Lib.hid hSF
  have HOK := Lib.hid hok
  have HO := Lib.hid ho
  have HZ := Lib.hid hz
  have HI := Lib.hid hi
  have HU := Lib.hid hu
  have HUB := Lib.hid hub
  have HA := Lib.hid ha
  have HNG := Lib.hid hng
  have hd : decide (p < 0) = false := decide_eq_false (by omega)
  have hBz := h.exc.size
  clear h hsh hRF hSF ho hz hi hu ha hng hok hub
  go_enter Try.func41, Try.ntmps41
  go_wp2
  go_loop [8] (fun k => ∃ i : Nat, k = .int .i64 (i : Int) ∧ i ≤ row.length) (fun k => row.length - (intOf k).toNat)
  case atStart => exact ⟨0, rfl, Nat.zero_le _⟩
  case round =>
    obtain ⟨i, rfl, hil⟩ := hrel
    by_cases h1 : i < row.length
    · obtain ⟨g, off, rfl, hg, hc⟩ := HA.out.resolve_left (fun e => by rw [e] at h1; simp at h1)
      obtain ⟨x, hx⟩ : ∃ x, x = at' row i := ⟨_, rfl⟩
      have c0 : w.cell? ⟨g, off + i, none⟩ = some (.int .i64 x) := by rw [hx]; exact hc i h1
      have hd2 : decide (x < 0) = false := decide_eq_false (by rw [hx]; exact negB_at HNG.out h1)
      clear hc hx hg
      go_wp2
      go_round
      case rel => exact ⟨i + 1, by go_num, by omega⟩
      case measure => simp only [intOf]; omega
    · go_upto_region 8 with fail
      go_cut [] from 24 (fun wx => ∃ rv', Both wB X mv ms ss X2 (.slice aS ss.length cS) ra (rd ++ [⟨p, row⟩]) wx G rv' ∧ Chg X2 (.slice aR rd.length cR) w wx)
      case first =>
        have c1 := HB.out.c1
        have b1 := HB.out.alloc (.cells #[] 3)
        have k1 := b1.c1
        rcases au with _ | ad
        · obtain ⟨e1, e2⟩ := hny _ _ rfl
          have hu0 : row = [] := List.length_eq_zero_iff.1 e1
          subst hu0
          obtain rfl := e2
          have hu1 : OwnInts (w.alloc (.cells #[] 3)) w.heap.size (.slice (some ⟨w.heap.size, 0, none⟩) 0 0) [] := World.ownsRow_made w #[] 0 (Nat.le_refl _) (by decide) rfl
          have m1 := (b1.alloc (.cells #[.int .i64 p, .slice (some ⟨w.heap.size, 0, none⟩) 0 0] 33)).c1
          have hone := one_shape p hu1
          have HU1 := Lib.hid hu1
          have B1 := Lib.hid b1
          clear b1 hu1
          go_wp2_with fail
          go_region_law
            (first
              | (refine step_append_own_none _ (by rfl) _ _ 25 (by rfl) w.heap.size 3 i3 1 Try.underlying25 qi (.slice (some ⟨w.heap.size, 0, none⟩) 0 0) 0 [] (by rfl) (by exact World.ownsRow_made w #[] 0 (Nat.le_refl _) (by decide) rfl) (by rfl) ?_)
              | (refine step_append_at _ (by rfl) _ _ 30 (by rfl) wB.heap.size 33 i33 (.agg #[.int .i64 0, .slice none 0 0]) 2 32 Try.underlying30 ri r0 r1 r2 rfl (by decide) (.slice aR rd.length cR) rd.length (flat rd vs) (by rfl) (by exact World.ownsRow.alloc (World.ownsRow.alloc HO.out (.cells #[] 3)) (.cells #[.int .i64 p, .slice (some ⟨w.heap.size, 0, none⟩) 0 0] 33)) ⟨w.heap.size + 1, 0, none⟩ 1 1 [.int .i64 p, .slice (some ⟨w.heap.size, 0, none⟩) 0 0] (by rfl) (by rfl) (by have hz1 : (w.alloc (.cells #[] 3)).heap.size = w.heap.size + 1 := (by simp); rw [← hz1]; exact World.news_of_block (cs := #[.int .i64 p, .slice (some ⟨w.heap.size, 0, none⟩) 0 0]) (t := 33) (fr := (0, 0)) (heap_alloc_new _ _)) hone (by unfold maxLen; omega) (by omega) (by simp; omega) ?_; intro v' w2 hown2 hgrow2 hnl2 hat2; obtain ⟨g', c', rfl⟩ := Joins.ownsRow_form hown2 (by omega); have hgrow : ((w.alloc (.cells #[] 3)).alloc (.cells #[.int .i64 p, .slice (some ⟨w.heap.size, 0, none⟩) 0 0] 33)).grownBy w2 (Value.slice aR rd.length cR).ownBlock := ⟨hgrow2.os, hgrow2.tape, hgrow2.output, hgrow2.size, hgrow2.block⟩; have HX6 := (B1.out.alloc (.cells #[.int .i64 p, .slice (some ⟨w.heap.size, 0, none⟩) 0 0] 33)).atGrown hgrow; have x6 := HX6.1; have f6 := HX6.2; have HP := Lib.hid (HB.out.push (r := ⟨p, []⟩) hvl HO.out HZ.out HI.out ((up_alloc w (.cells #[] 3)).alloc (by simp) (.cells #[.int .i64 p, .slice (some ⟨w.heap.size, 0, none⟩) 0 0] 33)) (World.ownsRow.alloc HU1.out _) hgrow hown2 hat2)))
          all_goals
            go_wp2
            go_meet
            case rel => exact ⟨_, HP.out⟩
        · have HNW := Lib.hid ((HU.out.alloc (Nat.le_refl _) (.cells #[] 3)).news)
          clear b1
          go_wp2_with fail
          go_region_law
            (first
              | (refine step_append_own _ (by rfl) _ _ 25 (by rfl) w.heap.size 3 i3 (.int .i64 0) 1 8 Try.underlying25 qi q0 q1 q2 rfl (by decide) (.slice (some ⟨w.heap.size, 0, none⟩) 0 0) 0 [] (by rfl) (by exact World.ownsRow_made w #[] 0 (Nat.le_refl _) (by decide) rfl) ad row.length cu (lits row) (by rfl) (by rw [lits_length, Nat.mul_one]) (by exact HNW.out) (lits_one _) (by unfold maxLen; omega) (by omega) (by simp) ?_; intro u1 w1 hown1 hgrow1 hnil1; obtain ⟨gu, cu1, rfl⟩ := form_of hown1 (fun e => by have := (hnil1.1 e).1; simp at this); simp only [Nat.zero_add, List.nil_append] at hown1 ⊢; have hgrow1' : (w.alloc (.cells #[] 3)).grownBy w1 (some w.heap.size) := ⟨hgrow1.os, hgrow1.tape, hgrow1.output, hgrow1.size, hgrow1.block⟩; have hb1 : Below w.heap.size w w1 := (up_alloc w (.cells #[] 3)).grown hgrow1' (by simp) (fun k hk => by simp at hk; omega); have hz1 := hb1.size; have B1 := Lib.hid (HB.out.up hb1); have k1 := B1.out.c1; have HU1 : Hid (OwnInts w1 w.heap.size (.slice (some ⟨gu, 0, none⟩) row.length cu1) row) := hown1; have hone := one_shape p HU1.out; have m1 := (B1.out.alloc (.cells #[.int .i64 p, .slice (some ⟨gu, 0, none⟩) row.length cu1] 33)).c1)
              | (refine step_append_at _ (by rfl) _ _ 30 (by rfl) wB.heap.size 33 i33 (.agg #[.int .i64 0, .slice none 0 0]) 2 32 Try.underlying30 ri r0 r1 r2 rfl (by decide) (.slice aR rd.length cR) rd.length (flat rd vs) (by rfl) (by exact World.ownsRow.alloc (row_keep HO.out (fun k hk => hb1.block k (World.ownsRow.lt HO.out k hk).2)) (.cells #[.int .i64 p, .slice (some ⟨gu, 0, none⟩) row.length cu1] 33)) ⟨w1.heap.size, 0, none⟩ 1 1 [.int .i64 p, .slice (some ⟨gu, 0, none⟩) row.length cu1] (by rfl) (by rfl) (World.news_of_block (cs := #[.int .i64 p, .slice (some ⟨gu, 0, none⟩) row.length cu1]) (t := 33) (fr := (0, 0)) (heap_alloc_new w1 _)) hone (by unfold maxLen; omega) (by omega) (by simp; omega) ?_; intro v' w2 hown2 hgrow2 hnl2 hat2; obtain ⟨g', c', rfl⟩ := Joins.ownsRow_form hown2 (by omega); have hgrow : (w1.alloc (.cells #[.int .i64 p, .slice (some ⟨gu, 0, none⟩) row.length cu1] 33)).grownBy w2 (Value.slice aR rd.length cR).ownBlock := ⟨hgrow2.os, hgrow2.tape, hgrow2.output, hgrow2.size, hgrow2.block⟩; have HX6 := (B1.out.alloc (.cells #[.int .i64 p, .slice (some ⟨gu, 0, none⟩) row.length cu1] 33)).atGrown hgrow; have x6 := HX6.1; have f6 := HX6.2; have HP := Lib.hid (HB.out.push (r := ⟨p, row⟩) hvl HO.out HZ.out HI.out (hb1.alloc hz1 (.cells #[.int .i64 p, .slice (some ⟨gu, 0, none⟩) row.length cu1] 33)) (World.ownsRow.alloc HU1.out _) hgrow hown2 hat2)))
          all_goals
            go_wp2
            go_meet
            case rel => exact ⟨_, HP.out⟩
      case rest =>
        obtain ⟨rv', hb3, hc3⟩ := hcut
        obtain ⟨w3, hw3⟩ : ∃ w3, w3 = wc := ⟨_, rfl⟩
        rw [← hw3] at hb3 hc3 ⊢
        clear hw3
        have HB3 := Lib.hid hb3
        have HC3 := Lib.hid hc3
        have HSW := Lib.hid (hb3.shps HSH.out)
        have HU3 := Lib.hid (HU.out.chg hc3 HUB.out)
        have h3z := hc3.size
        clear hb3 hc3 hny
        go_wp2
        go_loopw [9, 10] (fun q k wr => ∃ (o : Value) (i : Nat), o = q ∧ k = .int .i64 (i : Int) ∧ i ≤ ss.length ∧ Hid (Below w3.heap.size w3 wr) ∧ OwnInts wr w3.heap.size o (idx (fitF p row) (ss.take i))) (fun _ k _ => ss.length - (intOf k).toNat)
        case atStart => exact ⟨_, 0, rfl, rfl, Nat.zero_le _, Lib.hid (Below.refl _ _), OwnInts.nil _ _⟩
        case round =>
          obtain ⟨v, i, rfl, rfl, hil2, NX, hown⟩ := hrel
          have hz3 := NX.out.size
          have c0 := (HB3.out.up NX.out).c0
          have HW := Lib.hid hown
          clear hown
          by_cases h2 : i < ss.length
          · obtain ⟨s, hs⟩ : ∃ s, ss[i]? = some s := ⟨ss[i]'h2, List.getElem?_eq_getElem h2⟩
            obtain ⟨gS, oS, rfl⟩ := HSF.out (ne_of_lt_len h2)
            obtain ⟨ax, cx, ex⟩ := ShpsAt.el (j := i) ((HSW.out.up NX.out).at) (Nat.le_refl _) hs
            have EX := Lib.hid ex
            have hsok := HOK.out s (List.mem_of_getElem? hs)
            have HUW := Lib.hid ((HU3.out.below NX.out).mono hz3)
            have d0 := EX.out.c0
            have d1 := EX.out.c1
            have hnl : (idx (fitF p row) (ss.take i)).length ≤ i := Nat.le_trans (idx_length _) (by rw [List.length_take]; omega)
            have HNX := Lib.hid (idx_next (f := fitF p row) hs)
            obtain ⟨acc, hacc⟩ : ∃ acc, acc = idx (fitF p row) (ss.take i) := ⟨_, rfl⟩
            rw [← hacc] at HW hnl HNX
            clear hacc hs ex
            go_wp2_with fail
            refine (refFits_any s _ p row _ wr ⟨_, rfl, EX.out.ints⟩ hsok.1 HUW.out (by omega)).mono ?_
            rintro e w4 ⟨rfl, hb4⟩
            have NX4 := Lib.hid (NX.out.trans (hb4.mono hz3))
            have HW4 := Lib.hid (HW.out.up hb4)
            have h4z := NX4.out.size
            clear hb4 c0 d0 d1
            cases hfb : fitsB s p row with
            | false =>
              have HN : Hid (idx (fitF p row) (ss.take (i + 1)) = acc) := by
                have := HNX.out
                rw [if_neg (show ¬ fitF p row s = true by show ¬ fitsB s p row = true; rw [hfb]; decide), List.append_nil] at this
                exact this
              clear hfb
              go_wp2
              go_roundw
              case rel => exact ⟨_, i + 1, rfl, by go_num, by omega, NX4, by rw [HN.out]; exact HW4.out⟩
              case measure => simp only [intOf]; omega
            | true =>
              have HN : Hid (idx (fitF p row) (ss.take (i + 1)) = acc ++ [(i : Int)]) := by
                have := HNX.out
                rw [if_pos (show fitF p row s = true from hfb)] at this
                exact this
              clear hfb
              go_wp2_with (at_builtin; refine wpList_append_own _ rfl _ _ 25 rfl w3.heap.size 3 i3 (.int .i64 0) 1 8 Try.underlying25 qi q0 q1 q2 rfl (by decide) v acc.length (lits acc) rfl (World.ownsRow.alloc HW4.out (.cells #[.int .i64 (i : Int)] 3)) ⟨w4.heap.size, 0, none⟩ 1 1 [.int .i64 (i : Int)] rfl rfl (cell_one_new _ _ _) (one_i64 _) (by unfold maxLen; omega) (by omega) (by simp; omega) ?_; intro v' w5 hown' hgrow hnl2)
              have HR1 : Hid (OwnInts w5 w3.heap.size v' (acc ++ [(i : Int)])) := by
                unfold OwnInts Hid; rw [lits_snoc, List.length_append, List.length_singleton]; exact hown'
              have NB := Lib.hid ((NX4.out.alloc h4z _).grown hgrow (by simp; omega) (fun k hk => (HW4.out.lt k hk).1))
              clear hown' hgrow hnl2
              go_roundw
              case rel => exact ⟨_, i + 1, rfl, by go_num, by omega, NB, by rw [HN.out]; exact HR1.out⟩
              case measure => simp only [intOf]; omega
          · have e : i = ss.length := by omega
            have HF : Hid (OwnInts wr w.heap.size v (took ss ⟨p, row⟩)) := by
              have := HW.out
              rw [e, List.take_length] at this
              exact this.mono h3z
            clear e
            go_wp2
            go_ret2
            exact ⟨_, _, rfl, HB3.out.up NX.out, HC3.out.up NX.out, HF.out⟩
end

section
variable {wB w : World} {G : Nat → Nat} {X X2 : Nat} {mv sv rv : Value} {ms : List Nat} {ss ra rd : List Shp}
theorem rlen_any (h : Both wB X mv ms ss X2 sv ra rd w G rv) : Calls Try.prog 38 #[.pointer (some ⟨X2, 0, none⟩)] w fun e w' => e = .returned (.int .i64 (rd.length : Int)) ∧ w = w' := by
  obtain ⟨aR, cR, rfl, _⟩ := h.rows.form
  have c1 := h.c1
  clear h
  go_enter Try.func38, Try.ntmps38
  go_wp2
  go_ret
  exact ⟨rfl, rfl⟩
set_option maxRecDepth 100000 in
theorem rrows_no (h : Both wB X mv ms ss X2 sv ra rd w G rv) (hsh : OwnShps wB (X2 + 1) sv ss) (m : Int) (hm : m < 0 ∨ (ss.length : Int) ≤ m) : Calls Try.prog 56 #[.pointer (some ⟨X2, 0, none⟩), .int .i64 m] w (TupIs [] 2 w) := by
  obtain ⟨aS, cS, rfl, _⟩ := hsh.at.form
  have c0 := h.c0
  clear h hsh
  by_cases h0 : m < 0
  · have hd : decide (m < 0) = true := decide_eq_true h0
    clear hm
    go_enter Try.func56, Try.ntmps56
    go_wp2
    go_ret2
    exact ⟨_, rfl, OwnInts.nil _ _, Below.refl _ _⟩
  · have hd : decide (m < 0) = false := decide_eq_false h0
    have hm2 : (ss.length : Int) ≤ m := hm.resolve_left h0
    have hd2 : decide (m ≥ (ss.length : Int)) = true := decide_eq_true hm2
    clear hm
    go_enter Try.func56, Try.ntmps56
    go_wp2
    go_ret2
    exact ⟨_, rfl, OwnInts.nil _ _, Below.refl _ _⟩
set_option maxRecDepth 100000 in
set_option maxHeartbeats 6400000 in
theorem rrows_yes (h : Both wB X mv ms ss X2 sv ra rd w G rv) (hsh : OwnShps wB (X2 + 1) sv ss) (hok : Okays ss) (hn : rd.length ≤ 4398046510976) (hrl : ∀ r, r ∈ rd → r.cells.length ≤ 17592186044400) {m : Nat} {s : Shp} (hs : ss[m]? = some s) :
    Calls Try.prog 56 #[.pointer (some ⟨X2, 0, none⟩), .int .i64 (m : Int)] w (TupIs (nums s rd) 0 w) := by
  obtain ⟨i3, qi, q0, q1, q2⟩ := info_parts Try.info3
  obtain ⟨aR, cR, rfl, hRF⟩ := h.rows.form
  obtain ⟨aS, cS, rfl, hSF⟩ := hsh.at.form
  have hml : m < ss.length := (List.getElem?_eq_some_iff.1 hs).1
  obtain ⟨gS, oS, rfl⟩ := hSF (ne_of_lt_len hml)
  have HB := Lib.hid h
  have HSW := Lib.hid (h.shps hsh)
  have HRW := Lib.hid h.rows.own
  have HRF := Lib.hid hRF
  have HRL := Lib.hid hrl
  have HSI := Lib.hid hs
  have hsok := hok s (List.mem_of_getElem? hs)
  have c0 := h.c0
  have hd : decide ((m : Int) < 0) = false := decide_eq_false (by omega)
  have hd2 : decide (ss.length ≤ m) = false := decide_eq_false (by omega)
  have m0 : (0 : Int) ≤ (m : Int) := Int.natCast_nonneg _
  have m1 : (m : Int) < (ss.length : Int) := by omega
  clear h hsh hRF hSF hrl hs hok
  go_enter Try.func56, Try.ntmps56
  go_wp2
  go_loopw [6, 7] (fun q k wr => ∃ (o : Value) (i : Nat), o = q ∧ k = .int .i64 (i : Int) ∧ i ≤ rd.length ∧ Hid (Below w.heap.size w wr) ∧ OwnInts wr w.heap.size o (nums s (rd.take i))) (fun _ k _ => rd.length - (intOf k).toNat)
  case atStart => exact ⟨_, 0, rfl, rfl, Nat.zero_le _, Lib.hid (Below.refl _ _), OwnInts.nil _ _⟩
  case round =>
    obtain ⟨v, i, rfl, rfl, hil, NX, hown⟩ := hrel
    have hz := NX.out.size
    have c0 := (HB.out.up NX.out).c0
    have c1 := (HB.out.up NX.out).c1
    have HW := Lib.hid hown
    clear hown
    by_cases h4 : i < rd.length
    · obtain ⟨r, hr⟩ : ∃ r, rd[i]? = some r := ⟨rd[i]'h4, List.getElem?_eq_getElem h4⟩
      obtain ⟨gR, rfl⟩ := HRF.out (fun e => by rw [e] at hr; cases hr)
      obtain ⟨au, cu, hel, _⟩ := OwnRws.el (G := fun _ => 0) HRW.out (fun _ _ => by decide) hr
      have E8 := Lib.hid (hel wr (Turned.of_below NX.out))
      obtain ⟨ax, cx, ex⟩ := ShpsAt.el (j := m) ((HSW.out.up NX.out).at) (Nat.le_refl _) HSI.out
      have EX := Lib.hid ex
      have hrl := HRL.out r (List.mem_of_getElem? hr)
      have HNX := Lib.hid (idx_next (f := fitR s) hr)
      obtain ⟨fb, hfb⟩ : ∃ fb, fb = fitsB s r.pred r.cells := ⟨_, rfl⟩
      have HFB := Lib.hid hfb
      have hnl : (nums s (rd.take i)).length ≤ i := Nat.le_trans (idx_length _) (by rw [List.length_take]; omega)
      obtain ⟨acc, hacc⟩ : ∃ acc, acc = nums s (rd.take i) := ⟨_, rfl⟩
      rw [← hacc] at HW hnl
      have HAC := Lib.hid hacc
      have HX2 := Lib.hid (HB.out.up NX.out).x2lt
      have d0 := EX.out.c0
      have d1 := EX.out.c1
      have d2 := E8.out.c0
      have d3 := E8.out.c1
      have j0 : (0 : Int) ≤ (i : Int) := Int.natCast_nonneg _
      have j1 : (i : Int) < (rd.length : Int) := by omega
      clear hfb hel ex hr hacc
      go_wp2_with fail
      go_region_held3 (fun w' => w'.cell? ⟨X2, 0, none⟩ = some (.slice (some ⟨gS, oS, none⟩) ss.length cS) ∧ w'.cell? ⟨X2, 1, none⟩ = some (.slice (some ⟨gR, 0, none⟩) rd.length cR) ∧ w'.cell? ⟨gS, oS + m * 2, none⟩ = some (.int .i64 s.pred) ∧ w'.cell? ⟨gS, oS + m * 2 + 1, none⟩ = some (.slice ax s.cells.length cx) ∧ w'.cell? ⟨gR, i * 2, none⟩ = some (.int .i64 r.pred) ∧ w'.cell? ⟨gR, i * 2 + 1, none⟩ = some (.slice au r.cells.length cu))
        (first | exact ⟨c0, c1, d0, d1, d2, d3⟩ | exact ⟨k0, k1, m0, m1, m2, m3⟩)
        (first
          | (go_at_call 20; refine (refFits_any s _ r.pred r.cells _ _ ⟨_, rfl, by exact EX.out.ints⟩ hsok.1 (by exact E8.out.ints) (by omega)).mono ?_; rintro e w8 ⟨rfl, hb8'⟩; rw [← HFB.out]; have hb8 : Below wr.heap.size wr w8 := ⟨hb8'.os, hb8'.tape, hb8'.output, hb8'.size, hb8'.block⟩; clear hb8'; have X8 := Lib.hid (EX.out.below hb8); have R8 := Lib.hid (E8.out.below hb8); have k0 := below_cells hb8 HX2.out c0; have k1 := below_cells hb8 HX2.out c1; have m0 := X8.out.c0; have m1 := X8.out.c1; have m2 := R8.out.c0; have m3 := R8.out.c1))
      have NY8 := Lib.hid (NX.out.trans (hb8.mono hz))
      have HW8 := Lib.hid (HW.out.up hb8)
      have hy8 := NY8.out.size
      clear d0 d1 d2 d3 m0 m1 m2 m3 k0 k1 c0 c1
      cases fb with
      | false =>
        have HN : Hid (nums s (rd.take (i + 1)) = acc) := by
          have := HNX.out
          rw [if_neg (show ¬ fitR s r = true by show ¬ fitsB s r.pred r.cells = true; rw [← HFB.out]; decide), List.append_nil] at this
          rw [HAC.out]; exact this
        go_wp2
        go_roundw
        case rel => exact ⟨_, i + 1, rfl, by go_num, by omega, NY8, by rw [HN.out]; exact HW8.out⟩
        case measure => simp only [intOf]; omega
      | true =>
        have HN : Hid (nums s (rd.take (i + 1)) = acc ++ [(i : Int)]) := by
          have := HNX.out
          rw [if_pos (show fitR s r = true from HFB.out.symm)] at this
          rw [HAC.out]; exact this
        go_wp2_with (at_builtin; refine wpList_append_own _ rfl _ _ 25 rfl w.heap.size 3 i3 (.int .i64 0) 1 8 Try.underlying25 qi q0 q1 q2 rfl (by decide) v acc.length (lits acc) rfl (World.ownsRow.alloc HW8.out (.cells #[.int .i64 (i : Int)] 3)) ⟨w8.heap.size, 0, none⟩ 1 1 [.int .i64 (i : Int)] rfl rfl (cell_one_new _ _ _) (one_i64 _) (by unfold maxLen; omega) (by omega) (by simp; omega) ?_; intro v' w11 hown' hgrow hnl2)
        have HR1 : Hid (OwnInts w11 w.heap.size v' (acc ++ [(i : Int)])) := by
          unfold OwnInts Hid; rw [lits_snoc, List.length_append, List.length_singleton]; exact hown'
        have NB := Lib.hid ((NY8.out.alloc hy8 _).grown hgrow (by simp; omega) (fun k hk => (HW8.out.lt k hk).1))
        clear hown' hgrow hnl2
        go_roundw
        case rel => exact ⟨_, i + 1, rfl, by go_num, by omega, NB, by rw [HN.out]; exact HR1.out⟩
        case measure => simp only [intOf]; omega
    · have e : i = rd.length := by omega
      have HF : Hid (OwnInts wr w.heap.size v (nums s rd)) := by
        have := HW.out
        rw [e, List.take_length] at this
        exact this
      clear e
      go_wp2
      go_ret2
      exact ⟨_, rfl, HF.out, NX.out⟩
set_option maxRecDepth 100000 in
theorem rundo_no (h : Both wB X mv ms ss X2 sv ra rd w G rv) (m : Int) (hm : m < 0 ∨ (rd.length : Int) < m) : Calls Try.prog 57 #[.pointer (some ⟨X2, 0, none⟩), .int .i64 m] w fun e w' => e = .returned (.int .i64 2) ∧ w = w' := by
  obtain ⟨aR, cR, rfl, _⟩ := h.rows.form
  have c1 := h.c1
  clear h
  by_cases h0 : m < 0
  · have hd : decide (m < 0) = true := decide_eq_true h0
    clear hm
    go_enter Try.func57, Try.ntmps57
    go_wp2
    go_ret
    exact ⟨rfl, rfl⟩
  · have hd : decide (m < 0) = false := decide_eq_false h0
    have hm2 : (rd.length : Int) < m := hm.resolve_left h0
    have hd2 : decide (m > (rd.length : Int)) = true := decide_eq_true hm2
    clear hm
    go_enter Try.func57, Try.ntmps57
    go_wp2
    go_ret
    exact ⟨rfl, rfl⟩
def RUndoIs (wB : World) (X : Nat) (mv : Value) (ms : List Nat) (ss : List Shp) (X2 : Nat) (sv : Value) (ra rd : List Shp) (w : World) (G : Nat → Nat) (rv : Value) (m : Nat) (e : Ending) (w' : World) : Prop :=
  ∃ rv', e = .returned (.int .i64 0) ∧ Both wB X mv ms ss X2 sv ra (rd.take m) w' G rv' ∧ Chg X2 rv w w'
set_option maxRecDepth 100000 in
set_option maxHeartbeats 1600000 in
theorem rundo_yes (h : Both wB X mv ms ss X2 sv ra rd w G rv) (hn : rd.length ≤ 4398046510976) {m : Nat} (hm : m ≤ rd.length) : Calls Try.prog 57 #[.pointer (some ⟨X2, 0, none⟩), .int .i64 (m : Int)] w (RUndoIs wB X mv ms ss X2 sv ra rd w G rv m) := by
  obtain ⟨i33, ri, r0, r1, r2⟩ := info_parts Try.info33
  obtain ⟨aR, cR, rfl, hRF⟩ := h.rows.form
  obtain ⟨vs, hvl, ho, hz, hi⟩ := h.rows
  have HB := Lib.hid h
  have HO := Lib.hid ho
  have HI := Lib.hid hi
  have c1 := h.c1
  have k1 := (h.alloc (.cells #[] 33)).c1
  have hd : decide ((m : Int) < 0) = false := decide_eq_false (by omega)
  have hd2 : decide ((m : Int) > (rd.length : Int)) = false := decide_eq_false (by omega)
  have hcr : rd.length ≤ cR := by
    rcases ho.2 with ⟨h1, h2⟩ | ⟨g, cap, cur, h1, _, _, h2, _⟩
    · simp only [Value.slice.injEq] at h1; omega
    · simp only [Value.slice.injEq] at h1; omega
  have hmc : (m : Int) ≤ (cR : Int) := by omega
  clear h ho hi hz
  rcases aR with _ | ad
  · have h0 : rd.length = 0 := by
      rcases Nat.eq_zero_or_pos rd.length with h1 | h1
      · exact h1
      · obtain ⟨g, hg⟩ := hRF (fun e => by rw [e] at h1; simp at h1)
        cases hg
    have hc0 : cR = 0 := by
      rcases HO.out.2 with ⟨h1, _⟩ | ⟨g, cap, cur, h1, _⟩
      · simp only [Value.slice.injEq] at h1; exact h1.2.2
      · simp at h1
    have hm0 : m = 0 := by omega
    subst hm0 hc0
    have kf := (HB.out.alloc (.cells #[] 33)).f1
    have HC := Lib.hid (HB.out.cut (m := 0) (w2 := w.alloc (.cells #[] 33)) (rv' := .slice (some ⟨w.heap.size, 0, none⟩) 0 0) (Nat.zero_le _) hvl HI.out (up_alloc _ _) (by rw [Nat.zero_mul, List.take_zero]; exact World.ownsRow_made w #[] 0 (Nat.le_refl _) (by decide) rfl))
    go_enter Try.func57, Try.ntmps57
    go_wp2
    go_ret
    exact ⟨_, rfl, HC.out⟩
  · obtain ⟨g, hg⟩ : ∃ g, ad = ⟨g, 0, none⟩ := by
      rcases Joins.ownsRow_forms HO.out with ⟨h1, _⟩ | ⟨g, cap, h1⟩
      · simp at h1
      · simp only [Value.slice.injEq, Option.some.injEq] at h1; exact ⟨g, h1.1⟩
    subst hg
    have HNW : Hid (∀ j u, ((flat rd vs).take (m * 2))[j]? = some u → (w.alloc (.cells #[] 33)).cell? ((⟨g, 0, none⟩ : Addr).add j) = some u) := fun j u hj => by
      refine (World.ownsRow.alloc HO.out (.cells #[] 33)).cells (g := g) rfl j u ?_
      rw [List.getElem?_take] at hj
      split at hj
      · exact hj
      · cases hj
    have HONE : Hid (∀ u ∈ (flat rd vs).take (m * 2), u.oneCell' = true) := fun u hu => flat_one rd vs (fun j s x h1 h2 => by
      obtain ⟨a, n, c, rfl⟩ := (HI.out j s x h1 h2).1.form
      rfl) u (List.mem_of_mem_take hu)
    have hln : ((flat rd vs).take (m * 2)).length = m * 2 := by rw [List.length_take, flat_length _ _ hvl]; omega
    have hk1 := (HB.out.alloc (.cells #[] 33))
    have HK := Lib.hid hk1
    clear hk1
    obtain ⟨fl, hfl⟩ : ∃ fl, fl = (flat rd vs).take (m * 2) := ⟨_, rfl⟩
    rw [← hfl] at HNW HONE hln
    have HFL := Lib.hid hfl
    clear hfl
    go_enter Try.func57, Try.ntmps57
    go_wp2_with (at_builtin; refine wpList_append_own _ rfl _ _ 30 rfl w.heap.size 33 i33 (.agg #[.int .i64 0, .slice none 0 0]) 2 32 Try.underlying30 ri r0 r1 r2 rfl (by decide) (.slice (some ⟨w.heap.size, 0, none⟩) 0 0) 0 [] rfl (World.ownsRow_made w #[] 0 (Nat.le_refl _) (by decide) rfl) ⟨g, 0, none⟩ m cR fl rfl hln HNW.out HONE.out (by unfold maxLen; omega) (by omega) (by simp) ?_; intro v' w1 hown' hgrow hnl; obtain ⟨g', c', rfl⟩ := form_of hown' (fun e => by have := (hnl.1 e).1; simp at this); simp only [Nat.zero_add, List.nil_append] at hown' ⊢; have hgrow' : (w.alloc (.cells #[] 33)).grownBy w1 (some w.heap.size) := ⟨hgrow.os, hgrow.tape, hgrow.output, hgrow.size, hgrow.block⟩; have hb1 : Below w.heap.size w w1 := (up_alloc w (.cells #[] 33)).grown hgrow' (by simp) (fun k hk => by simp at hk; omega); have k2 := (HB.out.up hb1).c1; have kf := (HB.out.up hb1).f1; have HC := Lib.hid (HB.out.cut (m := m) (w2 := w1) (rv' := .slice (some ⟨g', 0, none⟩) m c') hm hvl HI.out hb1 (by rw [← HFL.out]; exact hown')))
    go_ret
    exact ⟨_, rfl, HC.out⟩
end

end Go.Proofs.Ytlandkindbmbfaa.Wa
/-
  The walk of edictlaw10.step over a watched net, all kinds of calls but Add: both nets answer alike, hold the same rows behind it, and turn nothing but their own. Conditions: the numbers are ints, the lists within the form's own reach.
-/
namespace Go.Proofs.Ytlandkindbmbfaa.Wa
open Go.RowKit Plain
attribute [local go_sem ↓] Go.wp_at_zero Go.wp_at_succ

/-- Of what was there before only the watched net's own blocks that are written, the document's net and its rows may have turned. -/
structure Trn (G : Nat → Nat) (X2 : Nat) (rv : Value) (w w' : World) : Prop where
  os : w'.os = w.os
  tape : w'.tape = w.tape
  output : w'.output = w.output
  size : w.heap.size ≤ w'.heap.size
  block : ∀ k, k < w.heap.size → G k < 2 → k ≠ X2 → rv.ownBlock ≠ some k → w'.heap[k]? = w.heap[k]?
theorem Trn.below {G : Nat → Nat} {X2 : Nat} {rv : Value} {w w' : World} (h : Below w.heap.size w w') : Trn G X2 rv w w' := ⟨h.os, h.tape, h.output, h.size, fun k hk _ _ _ => h.block k hk⟩
variable [Inhabited WVals]

def StepIs (wB : World) (X : Nat) (mv : Value) (ms : List Nat) (ss : List Shp) (X2 : Nat) (sv : Value) (rs : List Shp) (G : Nat → Nat) (rv : Value) (w : World) (e : Ending) (w' : World) : Prop :=
  e = .returned (.bool true) ∧ ∃ rs' rv', Both wB X mv ms ss X2 sv rs' rs' w' G rv' ∧ rs'.length ≤ rs.length ∧ Short rs' ∧ Trn G X2 rv w w'

section
variable {wB w : World} {G : Nat → Nat} {X X2 : Nat} {mv sv rv : Value} {ms : List Nat} {ss rs : List Shp}
theorem Both.len (h : Both wB X mv ms ss X2 sv rs rs w G rv) : Calls Try.prog 37 #[.pointer (some ⟨X, 0, none⟩)] w fun e w' => e = .returned (.int .i64 (rs.length : Int)) ∧ w = w' := len_any h.net
set_option maxRecDepth 100000 in
set_option maxHeartbeats 6400000 in
theorem step_rows (h : Both wB X mv ms ss X2 sv rs rs w G rv) (hsh : OwnShps wB (X2 + 1) sv ss) (hok : Okays ss) (hn : rs.length ≤ 4398046510976) (hst : Short rs) (pred : Int) (u : Value) (nn : Int) :
    Calls Try.prog 36 #[.pointer (some ⟨X, 0, none⟩), .pointer (some ⟨X2, 0, none⟩), .agg #[.int .i64 2, .int .i64 pred, u, .int .i64 nn]] w fun e w' => e = .returned (.bool true) ∧ Below w.heap.size w w' := by
  obtain ⟨w0, hw0⟩ : ∃ w0, w0 = w.alloc (.cells #[.int .i64 2, .int .i64 pred, u, .int .i64 nn] 66) := ⟨_, rfl⟩
  have hb0 : Below w.heap.size w w0 := by rw [hw0]; exact up_alloc _ _
  have HB0 := Lib.hid (h.up hb0)
  have HBB := Lib.hid hb0
  have HX := Lib.hid (show OpBox w0 w.heap.size 2 pred u nn by rw [hw0]; exact OpBox.made _ _ _ _ _)
  have hbl : w.heap.size < w0.heap.size := by rw [hw0]; simp
  obtain ⟨l, x, hl, HA, HR⟩ : ∃ (l : List Int) (x : Int), l.length ≤ 4398046510976 ∧ Hid (Calls Try.prog 48 #[.pointer (some ⟨X, 0, none⟩), .int .i64 nn] w0 (TupIs l x w0)) ∧ Hid (∀ w1, Below w0.heap.size w0 w1 → Calls Try.prog 56 #[.pointer (some ⟨X2, 0, none⟩), .int .i64 nn] w1 (TupIs l x w1)) := by
    by_cases hm : 0 ≤ nn ∧ nn < (ss.length : Int)
    · obtain ⟨m, rfl⟩ := Int.eq_ofNat_of_zero_le hm.1
      have hml : m < ss.length := by omega
      have hs : ss[m]? = some ss[m] := List.getElem?_eq_getElem hml
      refine ⟨nums ss[m] rs, 0, Nat.le_trans (idx_length _) hn, ?_, fun w1 hb => ?_⟩
      · exact rows_yes HB0.out.net hml (lsOf_some hs) (Nat.le_trans (idx_length _) (by omega))
      · exact rrows_yes (HB0.out.up hb) hsh hok hn hst hs
    · refine ⟨[], 2, by simp, rows_no HB0.out.net nn (decide_eq_false hm), fun w1 hb => rrows_no (HB0.out.up hb) hsh nn ?_⟩
      rcases Int.lt_or_le nn 0 with h1 | h1
      · exact .inl h1
      · exact .inr (by rcases Int.lt_or_le nn ss.length with h2 | h2
                       · exact absurd ⟨h1, h2⟩ hm
                       · exact h2)
  have b0 := HX.out.c0
  have b3 := HX.out.c3
  have HIN : Hid (∀ (w' : World) (v v' : Value), OwnInts w' 0 v l → OwnInts w' 0 v' l → Calls Try.prog 21 #[v, v'] w' (BoolIs w' true)) := fun w' v v' h1 h2 => by
    have := ints_any l l v v' w' h1.at h2.at (by omega) (by omega)
    rw [decide_eq_true rfl] at this
    exact this
  clear h hsh hok hst hb0
  go_enter Try.func36, Try.ntmps36
  go_wp2_with fail
  rw [← hw0]
  clear hw0
  refine HA.out.mono ?_
  rintro e w1 ⟨v1, rfl, hv1, hb1⟩
  obtain ⟨a1, n1, c1, rfl⟩ := hv1.form
  have X1 := Lib.hid (HX.out.keep (hb1.block _ hbl))
  have V1 := Lib.hid hv1
  have B1 := Lib.hid hb1
  have b0 := X1.out.c0
  have b3 := X1.out.c3
  clear hv1 hb1
  go_wp2_with fail
  refine (HR.out w1 B1.out).mono ?_
  rintro e w2 ⟨v2, rfl, hv2, hb2⟩
  obtain ⟨a2, n2, c2, rfl⟩ := hv2.form
  have V2 := Lib.hid hv2
  have V12 := Lib.hid (V1.out.up hb2)
  have B2 := Lib.hid (B1.out.trans (hb2.mono B1.out.size))
  clear hv2 hb2
  have hxx : (x == x) = true := by simp
  go_wp2_with fail
  refine (HIN.out w2 _ _ (V12.out.mono (Nat.zero_le _)) (V2.out.mono (Nat.zero_le _))).mono ?_
  rintro e w3 ⟨rfl, hb3⟩
  have HF := Lib.hid (HBB.out.trans ((B2.out.trans (hb3.mono B2.out.size)).mono HBB.out.size))
  clear hb3
  go_wp2
  go_ret
  exact ⟨ret_bool (by simp), HF.out⟩
set_option maxRecDepth 100000 in
set_option maxHeartbeats 6400000 in
theorem step_len (h : Both wB X mv ms ss X2 sv rs rs w G rv) (hst : Short rs) (pred : Int) (u : Value) (nn : Int) :
    Calls Try.prog 36 #[.pointer (some ⟨X, 0, none⟩), .pointer (some ⟨X2, 0, none⟩), .agg #[.int .i64 3, .int .i64 pred, u, .int .i64 nn]] w (StepIs wB X mv ms ss X2 sv rs G rv w) := by
  obtain ⟨w0, hw0⟩ : ∃ w0, w0 = w.alloc (.cells #[.int .i64 3, .int .i64 pred, u, .int .i64 nn] 66) := ⟨_, rfl⟩
  have hb0 : Below w.heap.size w w0 := by rw [hw0]; exact up_alloc _ _
  have HB0 := Lib.hid (h.up hb0)
  have HST := Lib.hid hst
  have HBB := Lib.hid hb0
  have HA := Lib.hid (HB0.out.len)
  have HR := Lib.hid (rlen_any HB0.out)
  clear h hst hb0
  go_enter Try.func36, Try.ntmps36
  go_wp2_with fail
  rw [← hw0]
  clear hw0
  refine HA.out.mono ?_
  rintro e w1 ⟨rfl, rfl⟩
  go_wp2_with fail
  refine HR.out.mono ?_
  rintro e w1 ⟨rfl, rfl⟩
  go_wp2
  go_ret
  exact ⟨ret_bool (by simp), rs, rv, HB0.out, by omega, HST.out, Trn.below HBB.out⟩
set_option maxRecDepth 100000 in
set_option maxHeartbeats 6400000 in
theorem step_none (h : Both wB X mv ms ss X2 sv rs rs w G rv) (hst : Short rs) (kind pred : Int) (u : Value) (nn : Int) (h1 : kind ≠ 1) (h2 : kind ≠ 2) (h3 : kind ≠ 3) (h4 : kind ≠ 4) :
    Calls Try.prog 36 #[.pointer (some ⟨X, 0, none⟩), .pointer (some ⟨X2, 0, none⟩), .agg #[.int .i64 kind, .int .i64 pred, u, .int .i64 nn]] w (StepIs wB X mv ms ss X2 sv rs G rv w) := by
  have HF := Lib.hid (h.alloc (.cells #[.int .i64 kind, .int .i64 pred, u, .int .i64 nn] 66))
  have HST := Lib.hid hst
  have e1 : (kind == 1) = false := by simpa using h1
  have e2 : (kind == 2) = false := by simpa using h2
  have e3 : (kind == 3) = false := by simpa using h3
  have e4 : (kind == 4) = false := by simpa using h4
  clear h hst
  go_enter Try.func36, Try.ntmps36
  go_wp2
  go_ret
  exact ⟨rfl, rs, rv, HF.out, by omega, HST.out, Trn.below (up_alloc _ _)⟩
set_option maxRecDepth 100000 in
set_option maxHeartbeats 6400000 in
theorem step_undo (h : Both wB X mv ms ss X2 sv rs rs w G rv) (hss : ss.length ≤ 4398046510976) (hn : rs.length ≤ 4398046510976) (hst : Short rs) (pred : Int) (u : Value) (nn : Int) :
    Calls Try.prog 36 #[.pointer (some ⟨X, 0, none⟩), .pointer (some ⟨X2, 0, none⟩), .agg #[.int .i64 4, .int .i64 pred, u, .int .i64 nn]] w (StepIs wB X mv ms ss X2 sv rs G rv w) := by
  obtain ⟨w0, hw0⟩ : ∃ w0, w0 = w.alloc (.cells #[.int .i64 4, .int .i64 pred, u, .int .i64 nn] 66) := ⟨_, rfl⟩
  have hb0 : Below w.heap.size w w0 := by rw [hw0]; exact up_alloc _ _
  have HB0 := Lib.hid (h.up hb0)
  have HX := Lib.hid (show OpBox w0 w.heap.size 4 pred u nn by rw [hw0]; exact OpBox.made _ _ _ _ _)
  have hbl : w.heap.size < w0.heap.size := by rw [hw0]; simp
  have HST := Lib.hid hst
  have HBB := Lib.hid hb0
  have hBw := h.exc.size
  have b0 := HX.out.c0
  have b3 := HX.out.c3
  by_cases hm : 0 ≤ nn ∧ nn ≤ (rs.length : Int)
  · obtain ⟨m, hnm⟩ := Int.eq_ofNat_of_zero_le hm.1
    have hml : m ≤ rs.length := by omega
    have hX2b : w.heap.size ≠ X2 := by have := h.lt2; omega
    have hrvb : rv.ownBlock ≠ some w.heap.size := by
      obtain ⟨vs, _, ho, _⟩ := h.rows
      exact fun e => by have := World.ownsRow.lt ho _ e; omega
    have hGb : G w.heap.size = 0 := h.net.zero _ (Nat.le_refl _)
    have HXB := Lib.hid (And.intro hX2b (And.intro hrvb hGb))
    have HUN : Hid (Calls Try.prog 46 #[.pointer (some ⟨X, 0, none⟩), .int .i64 nn] w0.drew fun e w' => e = .returned (.int .i64 0) ∧ MNet w' G X mv ms ss (lsOf ss (rs.take m)) m ∧ Turned G w0.drew w') := by
      rw [hnm]
      refine undo_yes HB0.out.drew.net hml hss (lsOf ss (rs.take m)) (fun j => match ss[j]? with | some s => idxFrom (fitR s) m (rs.drop m) | none => []) (fun i hi => ?_) (fun i hi x hx => ?_) (fun i hi x hx => ?_) (fun i _ => Nat.le_trans (lsOf_len ss rs i) (by omega))
      · have hs : ss[i]? = some ss[i] := List.getElem?_eq_getElem hi
        rw [lsOf_some hs, lsOf_some hs]
        simp only [hs]
        exact nums_cut _ _ hml
      · have hs : ss[i]? = some ss[i] := List.getElem?_eq_getElem hi
        rw [lsOf_some hs] at hx
        have := idx_bounds (f := fitR ss[i]) (rs.take m) x hx
        rw [List.length_take, Nat.min_eq_left hml] at this
        exact this.2
      · have hs : ss[i]? = some ss[i] := List.getElem?_eq_getElem hi
        simp only [hs] at hx
        exact (idxFrom_bounds (f := fitR ss[i]) (rs.drop m) m x hx).1
    have HRU : Hid (∀ w1, Both wB X mv ms ss X2 sv (rs.take m) rs w1 G rv → Calls Try.prog 57 #[.pointer (some ⟨X2, 0, none⟩), .int .i64 nn] w1 (RUndoIs wB X mv ms ss X2 sv (rs.take m) rs w1 G rv m)) := fun w1 hb => by
      rw [hnm]; exact rundo_yes hb hn hml
    have HML := Lib.hid hml
    clear h hst hb0 hm hnm hX2b hrvb hGb hml
    go_enter Try.func36, Try.ntmps36
    go_wp2_with fail
    rw [← hw0]
    clear hw0
    go_region_held3 (fun w' => w'.cell? ⟨w.heap.size, 3, none⟩ = some (.int .i64 nn))
      (first | exact b3 | exact m3 | exact q3)
      (first
        | (go_at_call 46; refine HUN.out.mono ?_; rintro e w1 ⟨rfl, hnet, hT⟩; have hB1 : Both wB X mv ms ss X2 sv (rs.take m) rs w1 G rv := HB0.out.drew.turn (by rw [List.length_take, Nat.min_eq_left HML.out]; exact hnet) (fun _ _ => rfl) hT; have m3 := (HX.out.keep (hT.block w.heap.size hbl (by rw [HXB.out.2.2]; decide))).c3; have HB1 := Lib.hid hB1; have HT1 := Lib.hid hT; have hbl1 : w.heap.size < w1.heap.size := Nat.lt_of_lt_of_le hbl hT.size; clear hB1 hnet hT)
        | (go_at_call 57; refine (HRU.out _ (by exact HB1.out)).mono ?_; rintro e w2 ⟨rv2, rfl, hB2, hC2⟩; have m3' := (World.cell?_of_block (hC2.block w.heap.size hbl1 HXB.out.1 HXB.out.2.1)).trans m3; have q3 := m3'; have HB2 := Lib.hid hB2; have HTR : Hid (Trn G X2 rv w w2) := ⟨hC2.os.trans (HT1.out.os.trans HBB.out.os), hC2.tape.trans (HT1.out.tape.trans HBB.out.tape), hC2.output.trans (HT1.out.output.trans HBB.out.output), Nat.le_trans HBB.out.size (Nat.le_trans HT1.out.size hC2.size), fun k hk hg hx hr => (hC2.block k (Nat.lt_of_lt_of_le hk (Nat.le_trans HBB.out.size HT1.out.size)) hx hr).trans ((HT1.out.block k (Nat.lt_of_lt_of_le hk HBB.out.size) hg).trans (HBB.out.block k hk))⟩; clear hB2 hC2))
    go_wp2
    go_ret
    exact ⟨ret_bool (by simp), _, _, HB2.out, by rw [List.length_take]; omega, HST.out.take m, HTR.out⟩
  · have hm2 : nn < 0 ∨ (rs.length : Int) < nn := by
      rcases Int.lt_or_le nn 0 with h1 | h1
      · exact .inl h1
      · exact .inr (by rcases Int.lt_or_le (rs.length : Int) nn with h2 | h2
                       · exact h2
                       · exact absurd ⟨h1, h2⟩ hm)
    have HUN := Lib.hid (undo_no HB0.out.drew.net nn hm2)
    have HRU := Lib.hid (rundo_no HB0.out.drew nn hm2)
    have HFD := Lib.hid HB0.out.drew
    clear h hst hb0 hm hm2
    go_enter Try.func36, Try.ntmps36
    go_wp2_with fail
    rw [← hw0]
    clear hw0
    go_region_held3 (fun w' => w'.cell? ⟨w.heap.size, 3, none⟩ = some (.int .i64 nn))
      (first | exact b3)
      (first
        | (go_at_call 46; refine HUN.out.mono ?_; rintro e w1 ⟨rfl, rfl⟩)
        | (go_at_call 57; refine HRU.out.mono ?_; rintro e w2 ⟨rfl, rfl⟩))
    go_wp2
    go_ret
    exact ⟨ret_bool (by simp), _, _, HFD.out, by omega, HST.out, Trn.below (HBB.out.trans ⟨rfl, rfl, rfl, Nat.le_refl _, fun _ _ => rfl⟩)⟩

theorem step_else (h : Both wB X mv ms ss X2 sv rs rs w G rv) (hsh : OwnShps wB (X2 + 1) sv ss) (hok : Okays ss) (hss : ss.length ≤ 4398046510976) (hn : rs.length ≤ 4398046510976) (hst : Short rs) (kind pred : Int) (u : Value) (nn : Int) (hk : kind ≠ 1) :
    Calls Try.prog 36 #[.pointer (some ⟨X, 0, none⟩), .pointer (some ⟨X2, 0, none⟩), .agg #[.int .i64 kind, .int .i64 pred, u, .int .i64 nn]] w (StepIs wB X mv ms ss X2 sv rs G rv w) := by
  by_cases h2 : kind = 2
  · subst h2
    refine (step_rows h hsh hok (by omega) hst pred u nn).mono ?_
    rintro e w' ⟨rfl, hb⟩
    exact ⟨rfl, rs, rv, h.up hb, by omega, hst, Trn.below hb⟩
  by_cases h3 : kind = 3
  · subst h3; exact step_len h hst pred u nn
  by_cases h4 : kind = 4
  · subst h4; exact step_undo h hss (by omega) hst pred u nn
  · exact step_none h hst kind pred u nn hk h2 h3 h4
end

end Go.Proofs.Ytlandkindbmbfaa.Wa
