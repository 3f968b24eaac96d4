/-
  Texts of this seat, one behind the other: W41, W42, W43. Conditions: those that each of them states.
-/
import Derived.Test.YtncdjkdpoinfaaaGreatDoorG17
import Derived.Recover
/-
  The walk of the functions that Query and Fact hand to guarded. Conditions: the reader and the captured variable lie in memory.
-/
namespace Go.Proofs.YtncdjkdpoinfaaaGreatDoor
open Go.RowKit Go.Shelf Pl

set_option maxRecDepth 100000 in
set_option maxHeartbeats 6400000 in
theorem queryClo_any (X C : Nat) (v : Value) (ts : List Tk) (f : Gr.Flt) (w : World) (hR : Rdr w X v ts 0 f) (hC : w.heap[C]? = some (.cells #[.slice none 0 0] 33)) :
    Calls Tryz.prog 27 #[.pointer (some ⟨X, 0, none⟩), .pointer (some ⟨C, 0, none⟩)] w fun e w' => ∃ res, Gr.QueryR f ts res ∧ CloIs X C w (VarV C 33 (LitsV w.heap.size)) res e w' := by
  have hX := hR.lt
  have hfew := hR.few
  have HC0 := Lib.hid hC
  clear hC
  go_enter Tryz.func27, Tryz.ntmps27
  go_wp2_with fail
  refine (body_any X v ts 0 f _ hR).mono ?_
  rintro e w1 ⟨res, hres, hb1, he1⟩
  rw [List.drop_zero] at hres
  cases res with
  | error F =>
    have HE : Hid (Gr.QueryR f ts (.error F)) := Lib.hid (.bad _ hres)
    have he1 : e = gvE F := he1
    subst he1
    exact ⟨rfl, _, HE.out, (Oth.refl _ w).bes hb1 (.inl (.inl rfl)), rfl⟩
  | ok yr =>
    obtain ⟨ys, r⟩ := yr
    obtain ⟨u1, q1, hu1, he1, hR1, hd1⟩ := he1
    have hu1 : LitsV w.heap.size ys w1 u1 := hu1
    have HRES := Lib.hid hres
    clear hres
    subst he1
    obtain ⟨sa, sc, rfl⟩ := hu1.form
    obtain ⟨ln, hln⟩ : ∃ ln, ln = ys.length := ⟨_, rfl⟩
    rw [← hln] at hu1 ⊢
    clear hln
    have k1 : Kt (fun t => t ≠ 90) w w1 := Kt.bes hb1 hR.row (by simp)
    have hc1 := k1 _ _ _ HC0.out (by decide)
    have HC1 := Lib.hid hc1
    have HL1 := Lib.hid hu1
    have HR1 := Lib.hid hR1
    have HD1 := Lib.hid hd1
    have HO1 := Lib.hid ((Oth.refl (fun k => k = X ∨ k = C) w).bes hb1 (.inl (.inl rfl)))
    obtain ⟨s0, g0⟩ := row1c hc1
    clear hb1 hu1 hR1 hd1 k1 hc1
    go_upto_region 1 with fail
    obtain ⟨w2, hw2⟩ : ∃ w2, w2 = w1.setCell ⟨C, 0, none⟩ (.slice sa ln sc) := ⟨_, rfl⟩
    rw [← hw2]
    have k2 : Kt (fun t => t ≠ 33) w1 w2 := by rw [hw2]; exact Kt.set (p := ⟨C, 0, none⟩) HC1.out (by simp)
    have HC2 : Hid (w2.heap[C]? = some (.cells #[.slice sa ln sc] 33)) := Lib.hid (by rw [hw2]; exact one_setc HC1.out)
    have HO2 : Hid (Oth (fun k => k = X ∨ k = C) w w2) := Lib.hid (by rw [hw2]; exact HO1.out.set (p := ⟨C, 0, none⟩) (.inl (.inr rfl)) _)
    have HR2 := Lib.hid (HR1.out.kt k2 (by decide) (by decide))
    have HL2 := Lib.hid (HL1.out.kt k2 (by decide) (by decide))
    clear hw2 k2 s0 g0
    go_wp2_with fail
    cases htk : Gr.takeP f 0 (ts.drop q1) with
    | error F =>
      have HE : Hid (Gr.QueryR f ts (.error F)) := Lib.hid (.open_ _ _ _ HRES.out (by rw [← HD1.out]; exact htk))
      refine (take_any X v ts q1 f _ 0 HR2.out).mono ?_
      rintro e w3 ⟨hb3, he3⟩
      rw [htk] at he3
      have he3 : e = gvE F := he3
      clear htk
      subst he3
      exact ⟨rfl, _, HE.out, HO2.out.bes hb3 (.inl (.inl rfl)), rfl⟩
    | ok sr =>
      obtain ⟨s, r2⟩ := sr
      have HE : Hid (Gr.QueryR f ts (.ok ys)) := Lib.hid (.ok _ _ _ _ HRES.out (by rw [← HD1.out]; exact htk))
      refine (take_any X v ts q1 f _ 0 HR2.out).mono ?_
      rintro e w3 ⟨hb3, he3⟩
      rw [htk] at he3
      obtain ⟨u3, q3, hu3, he3, hR3, hd3⟩ := he3
      have hu3 : u3 = tkA s := hu3
      clear htk
      subst hu3
      subst he3
      simp only [tkA]
      have k3 : Kt (fun t => t ≠ 90) w2 w3 := Kt.bes hb3 HR2.out.row (by simp)
      have HC3 := Lib.hid (k3 _ _ _ HC2.out (by decide))
      have HL3 := Lib.hid (HL2.out.kt k3 (by decide) (by decide))
      have HO3 := Lib.hid (HO2.out.bes hb3 (.inl (.inl rfl)))
      clear k3 hb3 hR3 hd3
      go_wp2
      first | go_end0 | refine bodyPost_ret (results_none rfl _ _ _) rfl ?_
      exact ⟨_, HE.out, HO3.out, rfl, _, HC3.out, HL3.out⟩

theorem flatX_at (xs : List Gr.Trm) : ∀ (i : Nat) (hi : i < xs.length) (j : Nat), j < 4 → (flatX xs)[i * 4 + j]? = (trmL xs[i])[j]? := by
  induction xs with
  | nil => intro i hi; simp at hi
  | cons x xs ih =>
    intro i hi j hj
    simp only [flatX, List.flatMap_cons]
    cases i with
    | zero =>
      rw [Nat.zero_mul, Nat.zero_add, List.getElem?_append_left (by simp [trmL]; omega)]
      rfl
    | succ i =>
      rw [List.getElem?_append_right (by simp [trmL]; omega), show (i + 1) * 4 + j - (trmL x).length = i * 4 + j by simp [trmL]; omega]
      exact ih i (by simpa using hi) j hj
theorem trm_cells {w : World} {base cap g n : Nat} {xs : List Gr.Trm} (h : w.ownsRow base 59 4 (.slice (some ⟨g, 0, none⟩) n cap) xs.length (flatX xs)) {i : Nat} (hi : i < xs.length) :
    w.cell? ⟨g, i * 4, none⟩ = some (.int .i64 (xs[i].kind : Int)) ∧ w.cell? ⟨g, i * 4 + 1, none⟩ = some (.int .i64 xs[i].int) ∧ w.cell? ⟨g, i * 4 + 2, none⟩ = some (.string ⟨xs[i].text.toArray⟩) ∧ w.cell? ⟨g, i * 4 + 3, none⟩ = some (.int .i64 (xs[i].off : Int)) := by
  have hn : n = xs.length := by
    rcases Joins.ownsRow_forms h with ⟨h5, h6⟩ | ⟨g', cap', h5⟩
    · cases h5
    · injection h5
  subst hn
  have hc : ∀ j (hj : j < 4), w.cell? ⟨g, i * 4 + j, none⟩ = (trmL xs[i])[j]? := fun j hj => by
    rw [World.ownsRow.cellAt h (i * 4 + j) (by omega), flatX_at xs i hi j hj]
  exact ⟨hc 0 (by omega), hc 1 (by omega), hc 2 (by omega), hc 3 (by omega)⟩
/-- A constant's cells. -/
def cstL (x : Gr.Trm) : List Value := [.int .i64 (x.kind : Int), .int .i64 x.int, .string ⟨x.text.toArray⟩]
def flatC (xs : List Gr.Trm) : List Value := xs.flatMap cstL
theorem flatC_snoc (xs : List Gr.Trm) (x : Gr.Trm) : flatC (xs ++ [x]) = flatC xs ++ cstL x := by simp [flatC]
theorem cstL_one (x : Gr.Trm) : ∀ u ∈ cstL x, u.oneCell' = true := by
  intro u hu
  simp only [cstL, List.mem_cons, List.not_mem_nil, or_false] at hu
  rcases hu with rfl | rfl | rfl <;> rfl
theorem Tryz.info57 : (Tryz.prog.info? 57).map (fun i => (i.zero, i.size, i.bytes)) = some (some (.agg #[.int .i64 0, .int .i64 0, .string noS]), 3, 32) := by kernel_rfl
theorem row2c {w : World} {B : Nat} {T : TypeId} {a b : Value} (h : w.heap[B]? = some (.cells #[a, b] T)) : w.cell? ⟨B, 0, none⟩ = some a ∧ w.cell? ⟨B, 1, none⟩ = some b ∧ w.frozen? ⟨B, 0, none⟩ = false ∧ w.frozen? ⟨B, 1, none⟩ = false := by
  refine ⟨?_, ?_, ?_, ?_⟩ <;> simp only [World.cell?, World.frozen?, h] <;> rfl
/-- The variable that holds a fact. -/
def FactV (C B : Nat) (x : Gr.Atm) (w : World) : Prop := ∃ sl, w.heap[C]? = some (.cells #[.string ⟨x.pred.toArray⟩, sl] 46) ∧ w.ownsRow B 57 3 sl x.args.length (flatC x.args)
/-- Memory while a fact's constants come. -/
structure FaIn (X C : Nat) (w : World) (x : Gr.Atm) (w' : World) : Prop where
  oth : Oth (fun k => k = X ∨ k = C) w w'
  fact : FactV C w.heap.size x w'
theorem fact_push {X C n : Nat} {w w6 w8 : World} {o : Obj} {pred : List UInt8} {off : Nat} {xs ys all : List Gr.Trm} {y : Gr.Trm} {sl v' ta : Value} {m : Nat}
    (hO : Oth (fun k => k = X ∨ k = C) w w6) (hC : w6.heap[C]? = some (.cells #[.string ⟨pred.toArray⟩, sl] 46)) (ho : w6.ownsRow w.heap.size 57 3 sl n (flatC xs)) (hA : w6.ownsRow w.heap.size 59 4 ta m (flatX all))
    (hg : (w6.alloc o).grownBy w8 sl.ownBlock) (ho' : w8.ownsRow w.heap.size 57 3 v' (n + 1) (flatC xs ++ cstL y)) (hy : ys = xs ++ [y]) (hn : ys.length = n + 1) :
    Hid (w8.cell? ⟨C, 1, none⟩ = some sl ∧ w8.frozen? ⟨C, 1, none⟩ = false ∧ ∀ u, u = v' → FaIn X C w ⟨pred, ys, off⟩ (w8.setCell ⟨C, 1, none⟩ u) ∧ (w8.setCell ⟨C, 1, none⟩ u).ownsRow w.heap.size 59 4 ta m (flatX all)) := by
  have k : Kt (fun t => t ≠ 57) w6 w8 := (Kt.alloc w6 o).trans (Kt.grown hg (ho.alloc o) (by simp))
  have hC8 := k _ _ _ hC (by decide)
  refine Lib.hid ⟨(row2c hC8).2.1, (row2c hC8).2.2.2, fun u hu => ?_⟩
  subst hu
  have ks : Kt (fun t => t ≠ 46) w8 (w8.setCell ⟨C, 1, none⟩ u) := Kt.set (p := ⟨C, 1, none⟩) hC8 (by simp)
  refine ⟨⟨((hO.alloc o).grown hg (ho.alloc o) (Nat.le_refl _)).set (p := ⟨C, 1, none⟩) (.inl (.inr rfl)) _, u, ?_, ?_⟩, ks.own (by decide) (k.own (by decide) hA)⟩
  · simp [World.setCell, Array.getElem?_modify, hC8]
  · simp only
    rw [hn, hy, flatC_snoc]
    exact ks.own (by decide) ho'

set_option maxRecDepth 100000 in
set_option maxHeartbeats 6400000 in
theorem factClo_any (X C : Nat) (v : Value) (ts : List Tk) (f : Gr.Flt) (w : World) (hR : Rdr w X v ts 0 f) (hC : w.heap[C]? = some (.cells #[.string { data := #[] }, .slice none 0 0] 46)) :
    Calls Tryz.prog 29 #[.pointer (some ⟨X, 0, none⟩), .pointer (some ⟨C, 0, none⟩)] w fun e w' => CloIs X C w (FactV C w.heap.size) (Gr.factP f ts) e w' := by
  obtain ⟨iE, bi, b0, b1, b2⟩ := info_parts Tryz.info57
  have hX := hR.lt
  have hfew := hR.few
  have hCz := (Array.getElem?_eq_some_iff.1 hC).1
  obtain ⟨V, hV⟩ : ∃ V, V = Gr.factP f ts := ⟨_, rfl⟩
  rw [← hV]
  have HV := Lib.hid hV
  clear hV
  have HC0 := Lib.hid hC
  clear hC
  go_enter Tryz.func29, Tryz.ntmps29
  go_wp2_with fail
  refine (atom_any X v ts 0 f _ false hR).mono ?_
  rintro e w1 ⟨hb1, he1⟩
  rw [List.drop_zero] at he1
  cases hat : Gr.atomP f false ts with
  | error F =>
    have HE : Hid (V = .error F) := Lib.hid (by rw [HV.out]; simp [Gr.factP, hat])
    rw [hat] at he1
    have he1 : e = gvE F := he1
    clear hat
    subst he1
    refine ⟨rfl, (Oth.refl _ w).bes hb1 (.inl (.inl rfl)), ?_⟩
    rw [HE.out]; rfl
  | ok xr =>
    obtain ⟨x, r⟩ := xr
    rw [hat] at he1
    obtain ⟨u1, q1, ⟨sl, hu1, ho1⟩, he1, hR1, hd1⟩ := he1
    have HAT := Lib.hid hat
    have hn1 : x.args.length ≤ 70000 := Nat.le_trans (Gr.atom_few hat) hfew
    clear hat
    subst hu1
    subst he1
    obtain ⟨ea, ec, rfl⟩ : ∃ ea ec, sl = .slice ea x.args.length ec := by
      rcases Joins.ownsRow_forms ho1 with ⟨h5, h6⟩ | ⟨g, cap, h5⟩
      · exact ⟨none, 0, by rw [h5]; rw [h6]⟩
      · exact ⟨_, cap, h5⟩
    obtain ⟨ln, hln⟩ : ∃ ln, ln = x.args.length := ⟨_, rfl⟩
    rw [← hln] at ho1 ⊢
    have HLN := Lib.hid hln
    rw [← hln] at hn1
    clear hln
    have k1 : Kt (fun t => t ≠ 90) w w1 := Kt.bes hb1 hR.row (by simp)
    have HC1 := Lib.hid (k1 _ _ _ HC0.out (by decide))
    have HR1 := Lib.hid hR1
    have HD1 := Lib.hid hd1
    have HO1 := Lib.hid ((Oth.refl (fun k => k = X ∨ k = C) w).bes hb1 (.inl (.inl rfl)))
    have HA1 := Lib.hid ho1
    clear hb1 hR1 hd1 k1 ho1
    go_upto_region 1 with fail
    obtain ⟨w2, hw2⟩ : ∃ w2, w2 = w1.alloc (.cells #[.string ⟨x.pred.toArray⟩, .slice ea ln ec, .int .i64 (x.off : Int)] 32) := ⟨_, rfl⟩
    rw [← hw2]
    have k2 : Kt (fun _ => True) w1 w2 := by rw [hw2]; exact Kt.alloc _ _
    have HK2 : Hid (w2.heap[w1.heap.size]? = some (.cells #[.string ⟨x.pred.toArray⟩, .slice ea ln ec, .int .i64 (x.off : Int)] 32)) := Lib.hid (by rw [hw2]; exact heap_alloc_new _ _)
    have HC2 := Lib.hid (k2 _ _ _ HC1.out trivial)
    have HR2 := Lib.hid (HR1.out.kt k2 trivial trivial)
    have HO2 : Hid (Oth (fun k => k = X ∨ k = C) w w2) := Lib.hid (by rw [hw2]; exact HO1.out.alloc _)
    have HA2 := Lib.hid (k2.own trivial HA1.out)
    obtain ⟨c, hc0⟩ : ∃ c, c = w1.heap.size := ⟨_, rfl⟩
    rw [← hc0] at HK2 ⊢
    clear hw2 k2 hc0
    go_wp2_with fail
    cases htk : Gr.takeP f 0 (ts.drop q1) with
    | error F =>
      have HE : Hid (V = .error F) := Lib.hid (by rw [HV.out]; rw [HD1.out] at htk; simp [Gr.factP, HAT.out, htk])
      refine (take_any X v ts q1 f _ 0 HR2.out).mono ?_
      rintro e w3 ⟨hb3, he3⟩
      rw [htk] at he3
      have he3 : e = gvE F := he3
      clear htk
      subst he3
      refine ⟨rfl, HO2.out.bes hb3 (.inl (.inl rfl)), ?_⟩
      rw [HE.out]; rfl
    | ok sr =>
      obtain ⟨s, r2⟩ := sr
      have HE : Hid (V = .ok x) := Lib.hid (by rw [HV.out]; rw [HD1.out] at htk; simp [Gr.factP, HAT.out, htk])
      refine (take_any X v ts q1 f _ 0 HR2.out).mono ?_
      rintro e w3 ⟨hb3, he3⟩
      rw [htk] at he3
      obtain ⟨u3, q3, hu3, he3, hR3, hd3⟩ := he3
      have hu3 : u3 = tkA s := hu3
      clear htk
      subst hu3
      subst he3
      simp only [tkA]
      have k3 : Kt (fun t => t ≠ 90) w2 w3 := Kt.bes hb3 HR2.out.row (by simp)
      have HC3 := Lib.hid (k3 _ _ _ HC2.out (by decide))
      have HK3 := Lib.hid (k3 _ _ _ HK2.out (by decide))
      have HA3 := Lib.hid (k3.own (by decide) HA2.out)
      have HO3 := Lib.hid (HO2.out.bes hb3 (.inl (.inl rfl)))
      clear k3 hb3 hR3 hd3
      obtain ⟨s0, s1, g0, g1⟩ := row2c HC3.out
      obtain ⟨a0, a1, a2, f0, f1, f2⟩ := row32 HK3.out
      go_upto_region 3 with fail
      obtain ⟨w4, hw4⟩ : ∃ w4, w4 = w3.setCell ⟨C, 0, none⟩ (.string ⟨x.pred.toArray⟩) := ⟨_, rfl⟩
      rw [← hw4]
      have k4 : Kt (fun t => t ≠ 46) w3 w4 := by rw [hw4]; exact Kt.set (p := ⟨C, 0, none⟩) HC3.out (by simp)
      have HC4 : Hid (w4.heap[C]? = some (.cells #[.string ⟨x.pred.toArray⟩, .slice none 0 0] 46)) := Lib.hid (by rw [hw4]; have := HC3.out; simp [World.setCell, Array.getElem?_modify, this])
      have HK4 := Lib.hid (k4 _ _ _ HK3.out (by decide))
      have HA4 := Lib.hid (k4.own (by decide) HA3.out)
      have HO4 : Hid (Oth (fun k => k = X ∨ k = C) w w4) := Lib.hid (by rw [hw4]; exact HO3.out.set (p := ⟨C, 0, none⟩) (.inl (.inr rfl)) _)
      clear hw4 k4 s0 s1 g0 g1 a0 a1 a2 f0 f1 f2
      obtain ⟨a0, a1, a2, f0, f1, f2⟩ := row32 HK4.out
      go_wp2
      clear a0 a1 a2 f0 f1 f2
      have HFV0 : Hid (FaIn X C w ⟨x.pred, [], x.off⟩ w4) := Lib.hid ⟨HO4.out, _, HC4.out, rfl, .inl ⟨rfl, rfl⟩⟩
      go_loopw [16] (fun d wr => ∃ i : Nat, d = .int .i64 (i : Int) ∧ i ≤ ln ∧ Hid (FaIn X C w ⟨x.pred, x.args.take i, x.off⟩ wr) ∧ Hid (wr.ownsRow w.heap.size 59 4 (.slice ea ln ec) ln (flatX x.args))) (fun d _ => ln - (intOf d).toNat)
      case atStart => exact ⟨0, rfl, Nat.zero_le _, HFV0, Lib.hid (World.ownsRow.mono HA4.out (Nat.le_refl _))⟩
      case round =>
        obtain ⟨i, rfl, hi, HF, HOW⟩ := hrel
        have hln2 := HLN.out
        by_cases h1 : i < ln
        · have iI : (i : Int) < (ln : Int) := by omega
          have i0 : (0 : Int) ≤ (i : Int) := by omega
          have hwi : IntKind.i64.wrap ((i : Int) + 1) = (i : Int) + 1 := by rw [IntKind.wrap_i64]; omega
          have HI := Lib.hid (show i < x.args.length by omega)
          obtain ⟨g, rfl⟩ : ∃ g, ea = some ⟨g, 0, none⟩ := by
            obtain ⟨g, cap, h5⟩ := Joins.ownsRow_form HOW.out (by omega)
            injection h5 with h6 _ _
            exact ⟨g, h6⟩
          have how := HOW.out
          rw [hln2] at how
          obtain ⟨k0, k1, k2, k3⟩ := trm_cells how HI.out
          clear how hln2
          obtain ⟨y, hy⟩ : ∃ y, y = x.args[i]'HI.out := ⟨_, rfl⟩
          rw [← hy] at k0 k1 k2 k3
          have HY : Hid (x.args.take (i + 1) = x.args.take i ++ [y]) := Lib.hid (by rw [hy]; exact Gr.take_snoc HI.out)
          clear hy
          obtain ⟨hofw, sl, hcw, how2⟩ := HF.out
          simp only at hcw how2
          rw [List.length_take, Nat.min_eq_left (by have := HI.out; omega)] at how2
          obtain ⟨da, dc, rfl⟩ : ∃ da dc, sl = .slice da i dc := by
            rcases Joins.ownsRow_forms how2 with ⟨h5, h6⟩ | ⟨g, cap, h5⟩
            · exact ⟨none, 0, by rw [h5]; rw [h6]⟩
            · exact ⟨_, cap, h5⟩
          have HOF := Lib.hid hofw
          have HCW := Lib.hid hcw
          have HO2W := Lib.hid how2
          clear hofw hcw how2
          go_upto_region 6 with fail
          obtain ⟨w6, hw6⟩ : ∃ w6, w6 = wr.alloc (.cells #[.int .i64 (y.kind : Int), .int .i64 y.int, .string ⟨y.text.toArray⟩, .int .i64 (y.off : Int)] 59) := ⟨_, rfl⟩
          rw [← hw6]
          have q1 : w6.heap[wr.heap.size]? = some (.cells #[.int .i64 (y.kind : Int), .int .i64 y.int, .string ⟨y.text.toArray⟩, .int .i64 (y.off : Int)] 59) := by rw [hw6]; exact heap_alloc_new _ _
          have k6 : Kt (fun _ => True) wr w6 := by rw [hw6]; exact Kt.alloc _ _
          have hc6 := k6 _ _ _ HCW.out trivial
          have HC6 := Lib.hid hc6
          have HO6 := Lib.hid (k6.own trivial HO2W.out)
          have HA6 := Lib.hid (k6.own trivial HOW.out)
          have HF6 : Hid (Oth (fun k => k = X ∨ k = C) w w6) := Lib.hid (by rw [hw6]; exact HOF.out.alloc _)
          have HZ6 := Lib.hid HF6.out.size
          clear hw6 k6 k0 k1 k2 k3
          obtain ⟨k0, k1, k2, k3, _, _, _, _⟩ := row4 q1
          obtain ⟨s0, s1, g0, g1⟩ := row2c hc6
          clear q1 hc6
          go_wp2_with (at_builtin; refine wpList_append_own _ rfl _ _ 44 rfl w.heap.size 57 iE (.agg #[.int .i64 0, .int .i64 0, .string noS]) 3 32 Tryz.underlying44 bi b0 b1 b2 rfl (by decide) (.slice da i dc) i (flatC (x.args.take i)) rfl (HO6.out.alloc _) ⟨w6.heap.size, 0, none⟩ 1 1 (cstL y) rfl rfl (World.news_of_block (cs := (cstL y).toArray) (t := 57) (fr := (0, 0)) (heap_alloc_new w6 _)) (cstL_one y) (by unfold maxLen; omega) (by omega) (by have := HZ6.out; simp; omega) ?_; intro v8 w8 hown8 hgrow8 hnl8; have HP := fact_push (off := x.off) HF6.out HC6.out HO6.out HA6.out hgrow8 hown8 HY.out (by rw [List.length_take]; have := HI.out; omega); have z0 := HP.out.1; have z1 := HP.out.2.1; obtain ⟨g8, c8, rfl⟩ := Joins.ownsRow_form hown8 (by omega))
          go_roundw
          case rel => exact ⟨i + 1, by go_num, by omega, Lib.hid (HP.out.2.2 _ rfl).1, Lib.hid (HP.out.2.2 _ rfl).2⟩
          case measure => simp only [intOf]; omega
        · have hie : i = ln := by omega
          have hnl : ¬ (i : Int) < (ln : Int) := by omega
          have hnd : decide ((i : Int) < (ln : Int)) = false := decide_eq_false hnl
          have hnd2 : decide (i < ln) = false := decide_eq_false (by omega)
          have HTK : Hid (x.args.take i = x.args) := Lib.hid (List.take_of_length_le (by omega))
          clear hie hln2 h1
          go_wp2
          first | go_end0 | refine bodyPost_ret (results_none rfl _ _ _) rfl ?_
          refine ⟨HF.out.oth, ?_⟩
          rw [HE.out]
          have hfin := HF.out.fact
          rw [HTK.out] at hfin
          exact ⟨rfl, hfin⟩
end Go.Proofs.YtncdjkdpoinfaaaGreatDoor
/-
  The walk of the function that guarded defers. Conditions: the fault's variable lies in memory.
-/
namespace Go.Proofs.YtncdjkdpoinfaaaGreatDoor
open Go.RowKit Go.Shelf Pl

set_option maxRecDepth 100000 in
set_option maxHeartbeats 3200000 in
theorem deferred_back (R : Nat) (w : World) :
    CallsD Tryz.prog 36 #[.pointer (some ⟨R, 0, none⟩)] .returning w fun e u' w' => u' = .returning ∧ e = .returned (.tuple #[]) ∧ w' = w := by
  refine callsD_of_wpS Tryz.func36 rfl fun c₀ cs hu => ?_
  apply wpS_seq
  apply wpS_region
  simp [wpOpsS, go_sem, recoverD, hu, Tryz.ntmps36, Exit.thenS]
  refine wpS_of_wp ?_
  change Code.wp _ _ _ { tmps := #[.pointer (some ⟨R, 0, none⟩), .nilIface, undef, undef, .nilIface, undef, undef, undef, undef, undef, undef, undef, undef, undef, undef, undef, undef], defers := [] } _
  go_wp2
  cases c₀
  simp_all [bodyPostS, results, Tryz.results36]

def gvP (F : Gr.Flt) (b : Bool) : PanicEntry := { v := .iface 87 (.agg #[.int .i64 (F.1 : Int), .int .i64 0, .int .i64 (F.2 : Int)]), recovered := b }
set_option maxRecDepth 100000 in
set_option maxHeartbeats 3200000 in
theorem deferred_panic (R : Nat) (F : Gr.Flt) (a b c : Value) (w : World) (hR : w.heap[R]? = some (.cells #[a, b, c] 27)) :
    CallsD Tryz.prog 36 #[.pointer (some ⟨R, 0, none⟩)] (.panicking [gvP F false]) w fun e u' w' => u' = .panicking [gvP F true] ∧ e = .returned (.tuple #[]) ∧
      w'.heap[R]? = some (.cells #[.int .i64 (F.1 : Int), .int .i64 0, .int .i64 (F.2 : Int)] 27) ∧ Oth (fun k => k = R) w w' := by
  obtain ⟨F1, F2⟩ := F
  have hRz := (Array.getElem?_eq_some_iff.1 hR).1
  obtain ⟨w1, hw1⟩ : ∃ w1, w1 = w.alloc (.cells #[.int .i64 (F1 : Int), .int .i64 0, .int .i64 (F2 : Int)] 87) := ⟨_, rfl⟩
  have hr1 : w1.heap[R]? = some (.cells #[a, b, c] 27) := by rw [hw1]; exact Kt.alloc (T := fun _ => True) w _ _ _ _ hR trivial
  have hg1 : w1.heap[w.heap.size]? = some (.cells #[.int .i64 (F1 : Int), .int .i64 0, .int .i64 (F2 : Int)] 87) := by rw [hw1]; exact heap_alloc_new _ _
  have HO1 : Hid (Oth (fun k => k = R) w w1) := Lib.hid (by rw [hw1]; exact (Oth.refl _ w).alloc _)
  have HW1 := Lib.hid hw1
  have HR1 := Lib.hid hr1
  obtain ⟨s0, s1, s2, g0, g1, g2⟩ := row3 hr1
  have k0 : w1.cell? ⟨w.heap.size, 0, none⟩ = some (.int .i64 (F1 : Int)) := by simp only [World.cell?, hg1]; rfl
  have k1 : w1.cell? ⟨w.heap.size, 1, none⟩ = some (.int .i64 0) := by simp only [World.cell?, hg1]; rfl
  have k2 : w1.cell? ⟨w.heap.size, 2, none⟩ = some (.int .i64 (F2 : Int)) := by simp only [World.cell?, hg1]; rfl
  clear hw1 hr1 hg1 hR
  refine callsD_of_wpS Tryz.func36 rfl fun c₀ cs hu => ?_
  have hu : c₀.mode = .panicking [{ v := .iface 87 (.agg #[.int .i64 (F1 : Int), .int .i64 0, .int .i64 (F2 : Int)]), recovered := false }] := hu
  apply wpS_seq
  apply wpS_region
  simp [wpOpsS, go_sem, recoverD, hu, Tryz.ntmps36, Exit.thenS]
  refine wpS_of_wp ?_
  change Code.wp _ _ _ { tmps := #[.pointer (some ⟨R, 0, none⟩), .iface 87 (.agg #[.int .i64 (F1 : Int), .int .i64 0, .int .i64 (F2 : Int)]), undef, undef, .iface 87 (.agg #[.int .i64 (F1 : Int), .int .i64 0, .int .i64 (F2 : Int)]), undef, undef, undef, undef, undef, undef, undef, undef, undef, undef, undef, undef], defers := [] } _
  have HU := Lib.hid hu
  clear hu
  have hta : ∀ x : World, (Instr.typeAssert (.iface 87 (.agg #[.int .i64 (F1 : Int), .int .i64 0, .int .i64 (F2 : Int)])) 20 87 true).run Tryz.prog x = .ok (.tuple #[.agg #[.int .i64 (F1 : Int), .int .i64 0, .int .i64 (F2 : Int)], .bool true]) x := fun x => by kernel_rfl
  go_upto_region 3 with fail
  rw [← HW1.out]
  have HH := Lib.hid (three_set (x := .int .i64 (F1 : Int)) (y := .int .i64 0) (z := .int .i64 (F2 : Int)) HR1.out)
  have HOZ : Hid (Oth (fun k => k = R) w (((w1.setCell ⟨R, 0, none⟩ (.int .i64 (F1 : Int))).setCell ⟨R, 1, none⟩ (.int .i64 0)).setCell ⟨R, 2, none⟩ (.int .i64 (F2 : Int)))) := Lib.hid (((HO1.out.set (p := ⟨R, 0, none⟩) (.inl rfl) _).set (p := ⟨R, 1, none⟩) (.inl rfl) _).set (p := ⟨R, 2, none⟩) (.inl rfl) _)
  go_wp2
  refine ⟨rfl, _, rfl, .tuple #[], ?_, rfl, rfl, HH.out, HOZ.out⟩
  simp [results, Tryz.results36]
end Go.Proofs.YtncdjkdpoinfaaaGreatDoor
/-
  The walk of parse's guarded. Conditions: the text is at most 65536 bytes long; the variables hold what the program's text lays.
-/
namespace Go.Proofs.YtncdjkdpoinfaaaGreatDoor
open Go.RowKit Go.Shelf Pl

theorem tri_oth2 {ex : Nat → Prop} {w0 w : World} {R : Nat} {x0 x1 x2 : Value} (h : Oth ex w0 w) (hR : w0.heap.size ≤ R) :
    Oth ex w0 (((w.setCell ⟨R, 0, none⟩ x0).setCell ⟨R, 1, none⟩ x1).setCell ⟨R, 2, none⟩ x2) :=
  ((h.set (p := ⟨R, 0, none⟩) (.inr hR) _).set (p := ⟨R, 1, none⟩) (.inr hR) _).set (p := ⟨R, 2, none⟩) (.inr hR) _
theorem faultV_cells (c q : Nat) : FaultV c q = .agg #[.int .i64 (c : Int), .int .i64 0, .int .i64 (q : Int)] := rfl
set_option maxRecDepth 100000 in
set_option maxHeartbeats 3200000 in
theorem guarded_long (y : Value) (s : ByteArray) (w : World) (hs : ¬ s.size ≤ 65536) :
    Calls Tryz.prog 16 #[.string s, y] w fun e w' => e = .returned (FaultV 1 0) ∧ Below w.heap.size w w' := by
  have hgt : decide ((s.size : Int) > 65536) = true := decide_eq_true (by omega)
  go_enter_defers Tryz.func16, Tryz.ntmps16
  have q0 : (w.alloc (.cells #[.int .i64 1, .int .i64 0, .int .i64 0] 27)).heap[w.heap.size]? = some (.cells #[.int .i64 1, .int .i64 0, .int .i64 0] 27) := heap_alloc_new _ _
  go_wp2
  refine ⟨_, results_cell_row rfl _ _ w.heap.size 27 #[.int .i64 1, .int .i64 0, .int .i64 0] (0, 0) _ rfl q0 Tryz.underlying27 rfl Tryz.size25, ?_⟩
  exact ⟨rfl, up_alloc _ _⟩

set_option maxRecDepth 100000 in
set_option maxHeartbeats 3200000 in
theorem guarded_prog (s : ByteArray) (B C : Nat) (ts : List Tk) (f : Gr.Flt) (w : World) (hs : s.size ≤ 65536) (hSc : Sc (L s) 0 ts f) (hG : Gl B w) (hts : ts.length ≤ 70000) (hC : w.heap[C]? = some (.cells #[.slice none 0 0] 24)) :
    Calls Tryz.prog 16 #[.string s, .func (.func 17) #[] #[.pointer (some ⟨C, 0, none⟩)]] w fun e w' => ∃ res : Except Gr.Flt (List Gr.Cls), Gr.ProgR f 0 ts res ∧ Oth (fun k => k = C) w w' ∧ match res with
      | .error F => e = .returned (FaultV F.1 F.2)
      | .ok x => e = .returned (FaultV 0 0) ∧ VarV C 24 (ProgV w.heap.size) x w' := by
  have hmf : ∀ (fn : Fn) (first cap : Array Value) (w : World), (Instr.makeFunc fn first cap).run Tryz.prog w = .ok (.func fn first cap) w := fun _ _ _ _ => rfl
  have hgt : decide ((s.size : Int) > 65536) = false := decide_eq_false (by omega)
  have hBz := hG.lt
  have HSC := Lib.hid hSc
  have HC := Lib.hid hC
  have HCZ := Lib.hid (Array.getElem?_eq_some_iff.1 hC).1
  obtain ⟨w1, hw1⟩ : ∃ w1, w1 = w.alloc (.cells #[.int .i64 0, .int .i64 0, .int .i64 0] 27) := ⟨_, rfl⟩
  have h1 : Below w.heap.size w w1 := by rw [hw1]; exact up_alloc _ _
  have HZ1 : Hid (w1.heap.size = w.heap.size + 1) := Lib.hid (by rw [hw1]; simp)
  have HR1 : Hid (w1.heap[w.heap.size]? = some (.cells #[.int .i64 0, .int .i64 0, .int .i64 0] 27)) := Lib.hid (by rw [hw1]; exact heap_alloc_new _ _)
  have HG1 := Lib.hid (hG.below (h1.mono hBz))
  have H1 := Lib.hid h1
  have HW1 := Lib.hid hw1
  clear hSc hC hG h1 hw1 hBz
  go_enter_defers Tryz.func16, Tryz.ntmps16
  go_upto_region 4 with fail
  rw [← HW1.out]
  go_wp2_with fail
  refine (scan_any s B ts f _ hs HSC.out HG1.out).mono ?_
  rintro e w2 ⟨v, rfl, ho2, hb2⟩
  rw [faultV_cells]
  obtain ⟨va, vc, rfl⟩ : ∃ va vc, v = .slice va ts.length vc := by
    rcases Joins.ownsRow_forms ho2 with ⟨h5, h6⟩ | ⟨g, cap, h5⟩
    · exact ⟨none, 0, by rw [h5, h6]⟩
    · exact ⟨_, cap, h5⟩
  have H2 := Lib.hid (H1.out.trans (hb2.mono (by have := HZ1.out; omega)))
  have HR2 : Hid (w2.heap[w.heap.size]? = some (.cells #[.int .i64 0, .int .i64 0, .int .i64 0] 27)) := Lib.hid (by rw [hb2.block _ (by have := HZ1.out; omega)]; exact HR1.out)
  have HO2 := Lib.hid ho2
  have HZ2 := Lib.hid hb2.size
  clear ho2 hb2
  go_upto_region 5 with fail
  obtain ⟨w3, hw3⟩ : ∃ w3, w3 = w2.alloc (.cells #[.int .i64 (f.1 : Int), .int .i64 0, .int .i64 (f.2 : Int)] 27) := ⟨_, rfl⟩
  rw [← hw3]
  have hq3 : w3.heap[w2.heap.size]? = some (.cells #[.int .i64 (f.1 : Int), .int .i64 0, .int .i64 (f.2 : Int)] 27) := by rw [hw3]; exact heap_alloc_new _ _
  have HR3 : Hid (w3.heap[w.heap.size]? = some (.cells #[.int .i64 0, .int .i64 0, .int .i64 0] 27)) := Lib.hid (by rw [hw3]; exact Kt.alloc (T := fun _ => True) w2 _ _ _ _ HR2.out trivial)
  have H3 : Hid (Below w.heap.size w w3) := Lib.hid (by rw [hw3]; exact H2.out.alloc (by have := HZ1.out; have := HZ2.out; omega) _)
  have HO3 : Hid (w3.ownsRow w1.heap.size 62 6 (.slice va ts.length vc) ts.length (flatT ts)) := Lib.hid (by rw [hw3]; exact HO2.out.alloc _)
  have HZ3 : Hid (w3.heap.size = w2.heap.size + 1) := Lib.hid (by rw [hw3]; simp)
  obtain ⟨b, hb0⟩ : ∃ b, b = w2.heap.size := ⟨_, rfl⟩
  rw [← hb0] at hq3 ⊢
  have HB0 := Lib.hid hb0
  obtain ⟨x0, x1, x2, xf0, xf1, xf2⟩ := row3 hq3
  clear hw3 hq3 hb0
  obtain ⟨w4, hw4⟩ : ∃ w4, w4 = w3.alloc (.cells #[.slice va ts.length vc, .int .i64 0, .int .i64 (f.1 : Int), .int .i64 0, .int .i64 (f.2 : Int)] 90) := ⟨_, rfl⟩
  have k4 : Kt (fun _ => True) w3 w4 := by rw [hw4]; exact Kt.alloc _ _
  have HRd4 : Hid (Rdr w4 w3.heap.size (.slice va ts.length vc) ts 0 f) := Lib.hid ⟨by rw [hw4]; exact heap_alloc_new _ _, World.ownsRow.mono (k4.own trivial HO3.out) (Nat.zero_le _), Nat.zero_le _, hts⟩
  have HC4 : Hid (w4.heap[C]? = some (.cells #[.slice none 0 0] 24)) := Lib.hid (k4 _ _ _ (by rw [H3.out.block _ HCZ.out]; exact HC.out) trivial)
  have HR4 := Lib.hid (k4 _ _ _ HR3.out trivial)
  have H4 : Hid (Below w.heap.size w w4) := Lib.hid (by rw [hw4]; exact H3.out.alloc H3.out.size _)
  have HX4 := Lib.hid H3.out.size
  have HW4 := Lib.hid hw4
  clear hw4 k4
  go_wp2_with fail
  try go_at_call 17
  rw [← HW4.out]
  refine (progClo_any w3.heap.size C _ ts f w4 HRd4.out HC4.out).mono ?_
  rintro e w5 ⟨res, hres, hoth, he⟩
  have hO5 : Oth (fun k => k = C) w w5 := ((Oth.refl _ w).up H4.out |>.trans hoth).wide (fun k hk he => by
    rcases he with he | he
    · have := HX4.out; omega
    · exact he)
  have hR5 : w5.heap[w.heap.size]? = some (.cells #[.int .i64 0, .int .i64 0, .int .i64 0] 27) := by
    rw [hoth.block _ (by have := H4.out.size; have := (Array.getElem?_eq_some_iff.1 HR4.out).1; omega) (fun h => by
      rcases h with h | h
      · have h1 := HZ3.out; have h2 := HZ2.out; have h3 := HZ1.out; omega
      · have := HCZ.out; omega)]
    exact HR4.out
  have HO5 := Lib.hid hO5
  have HR5 := Lib.hid hR5
  have HRES := Lib.hid hres
  have HZZ := Lib.hid H4.out.size
  clear hoth hO5 hR5 hres
  cases res with
  | error F =>
    have he : e = gvE F := he
    subst he
    refine leaves_cons (f := 36) (args := #[.pointer (some ⟨w.heap.size, 0, none⟩)]) (by simp) (by simp [go_sem]) ?_
    refine (deferred_panic w.heap.size F _ _ _ w5 HR5.out).mono ?_
    rintro e u' w6 ⟨rfl, rfl, h6, o6⟩
    refine ⟨_, results_cell_row rfl _ _ w.heap.size 27 #[.int .i64 (F.1 : Int), .int .i64 0, .int .i64 (F.2 : Int)] (0, 0) _ rfl h6 Tryz.underlying27 rfl Tryz.size25, ?_⟩
    refine ⟨_, HRES.out, ?_, rfl⟩
    have o7 := o6
    exact ⟨o6.os.trans HO5.out.os, o6.tape.trans HO5.out.tape, o6.output.trans HO5.out.output, Nat.le_trans HO5.out.size o6.size, fun k hk hx => (o6.block k (Nat.lt_of_lt_of_le hk HO5.out.size) (fun h => by omega)).trans (HO5.out.block k hk hx)⟩
  | ok x =>
    obtain ⟨he, hgd⟩ := he
    have he : e = .returned (.tuple #[]) := he
    subst he
    have HGD := Lib.hid hgd
    obtain ⟨s0, s1, s2, g0, g1, g2⟩ := row3 HR5.out
    have HH := Lib.hid (three_set (x := .int .i64 0) (y := .int .i64 0) (z := .int .i64 0) HR5.out)
    have KT : Kt (fun t => t ≠ 27) w5 (((w5.setCell ⟨w.heap.size, 0, none⟩ (.int .i64 0)).setCell ⟨w.heap.size, 1, none⟩ (.int .i64 0)).setCell ⟨w.heap.size, 2, none⟩ (.int .i64 0)) := tri_kt HR5.out (by simp)
    have HOZ := Lib.hid (tri_oth2 (x0 := .int .i64 0) (x1 := .int .i64 0) (x2 := .int .i64 0) HO5.out (Nat.le_refl _))
    have HGZ : Hid (VarV C 24 (ProgV w.heap.size) x (((w5.setCell ⟨w.heap.size, 0, none⟩ (.int .i64 0)).setCell ⟨w.heap.size, 1, none⟩ (.int .i64 0)).setCell ⟨w.heap.size, 2, none⟩ (.int .i64 0))) := Lib.hid (by obtain ⟨u, h1, h2⟩ := HGD.out; exact ⟨u, KT _ _ _ h1 (by decide), (ProgV.kt h2 KT (by decide) (by decide) (by decide)).mono HZZ.out⟩)
    clear hgd KT
    go_wp2
    refine leaves_cons (f := 36) (args := #[.pointer (some ⟨w.heap.size, 0, none⟩)]) (by simp) (by simp [go_sem]) ?_
    refine (deferred_back w.heap.size _).mono ?_
    rintro e u' w6 ⟨rfl, rfl, rfl⟩
    refine ⟨_, results_cell_row rfl _ _ w.heap.size 27 #[.int .i64 0, .int .i64 0, .int .i64 0] (0, 0) _ rfl HH.out Tryz.underlying27 rfl Tryz.size25, ?_⟩
    exact ⟨_, HRES.out, HOZ.out, rfl, HGZ.out⟩

set_option maxRecDepth 100000 in
set_option maxHeartbeats 3200000 in
theorem guarded_facts (s : ByteArray) (B C : Nat) (ts : List Tk) (f : Gr.Flt) (w : World) (hs : s.size ≤ 65536) (hSc : Sc (L s) 0 ts f) (hG : Gl B w) (hts : ts.length ≤ 70000) (hC : w.heap[C]? = some (.cells #[.slice none 0 0] 39)) :
    Calls Tryz.prog 16 #[.string s, .func (.func 24) #[] #[.pointer (some ⟨C, 0, none⟩)]] w fun e w' => ∃ res : Except Gr.Flt (List Gr.Atm), Gr.FactsR f 0 ts res ∧ Oth (fun k => k = C) w w' ∧ match res with
      | .error F => e = .returned (FaultV F.1 F.2)
      | .ok x => e = .returned (FaultV 0 0) ∧ VarV C 39 (AtmsV w.heap.size) x w' := by
  have hmf : ∀ (fn : Fn) (first cap : Array Value) (w : World), (Instr.makeFunc fn first cap).run Tryz.prog w = .ok (.func fn first cap) w := fun _ _ _ _ => rfl
  have hgt : decide ((s.size : Int) > 65536) = false := decide_eq_false (by omega)
  have hBz := hG.lt
  have HSC := Lib.hid hSc
  have HC := Lib.hid hC
  have HCZ := Lib.hid (Array.getElem?_eq_some_iff.1 hC).1
  obtain ⟨w1, hw1⟩ : ∃ w1, w1 = w.alloc (.cells #[.int .i64 0, .int .i64 0, .int .i64 0] 27) := ⟨_, rfl⟩
  have h1 : Below w.heap.size w w1 := by rw [hw1]; exact up_alloc _ _
  have HZ1 : Hid (w1.heap.size = w.heap.size + 1) := Lib.hid (by rw [hw1]; simp)
  have HR1 : Hid (w1.heap[w.heap.size]? = some (.cells #[.int .i64 0, .int .i64 0, .int .i64 0] 27)) := Lib.hid (by rw [hw1]; exact heap_alloc_new _ _)
  have HG1 := Lib.hid (hG.below (h1.mono hBz))
  have H1 := Lib.hid h1
  have HW1 := Lib.hid hw1
  clear hSc hC hG h1 hw1 hBz
  go_enter_defers Tryz.func16, Tryz.ntmps16
  go_upto_region 4 with fail
  rw [← HW1.out]
  go_wp2_with fail
  refine (scan_any s B ts f _ hs HSC.out HG1.out).mono ?_
  rintro e w2 ⟨v, rfl, ho2, hb2⟩
  rw [faultV_cells]
  obtain ⟨va, vc, rfl⟩ : ∃ va vc, v = .slice va ts.length vc := by
    rcases Joins.ownsRow_forms ho2 with ⟨h5, h6⟩ | ⟨g, cap, h5⟩
    · exact ⟨none, 0, by rw [h5, h6]⟩
    · exact ⟨_, cap, h5⟩
  have H2 := Lib.hid (H1.out.trans (hb2.mono (by have := HZ1.out; omega)))
  have HR2 : Hid (w2.heap[w.heap.size]? = some (.cells #[.int .i64 0, .int .i64 0, .int .i64 0] 27)) := Lib.hid (by rw [hb2.block _ (by have := HZ1.out; omega)]; exact HR1.out)
  have HO2 := Lib.hid ho2
  have HZ2 := Lib.hid hb2.size
  clear ho2 hb2
  go_upto_region 5 with fail
  obtain ⟨w3, hw3⟩ : ∃ w3, w3 = w2.alloc (.cells #[.int .i64 (f.1 : Int), .int .i64 0, .int .i64 (f.2 : Int)] 27) := ⟨_, rfl⟩
  rw [← hw3]
  have hq3 : w3.heap[w2.heap.size]? = some (.cells #[.int .i64 (f.1 : Int), .int .i64 0, .int .i64 (f.2 : Int)] 27) := by rw [hw3]; exact heap_alloc_new _ _
  have HR3 : Hid (w3.heap[w.heap.size]? = some (.cells #[.int .i64 0, .int .i64 0, .int .i64 0] 27)) := Lib.hid (by rw [hw3]; exact Kt.alloc (T := fun _ => True) w2 _ _ _ _ HR2.out trivial)
  have H3 : Hid (Below w.heap.size w w3) := Lib.hid (by rw [hw3]; exact H2.out.alloc (by have := HZ1.out; have := HZ2.out; omega) _)
  have HO3 : Hid (w3.ownsRow w1.heap.size 62 6 (.slice va ts.length vc) ts.length (flatT ts)) := Lib.hid (by rw [hw3]; exact HO2.out.alloc _)
  have HZ3 : Hid (w3.heap.size = w2.heap.size + 1) := Lib.hid (by rw [hw3]; simp)
  obtain ⟨b, hb0⟩ : ∃ b, b = w2.heap.size := ⟨_, rfl⟩
  rw [← hb0] at hq3 ⊢
  have HB0 := Lib.hid hb0
  obtain ⟨x0, x1, x2, xf0, xf1, xf2⟩ := row3 hq3
  clear hw3 hq3 hb0
  obtain ⟨w4, hw4⟩ : ∃ w4, w4 = w3.alloc (.cells #[.slice va ts.length vc, .int .i64 0, .int .i64 (f.1 : Int), .int .i64 0, .int .i64 (f.2 : Int)] 90) := ⟨_, rfl⟩
  have k4 : Kt (fun _ => True) w3 w4 := by rw [hw4]; exact Kt.alloc _ _
  have HRd4 : Hid (Rdr w4 w3.heap.size (.slice va ts.length vc) ts 0 f) := Lib.hid ⟨by rw [hw4]; exact heap_alloc_new _ _, World.ownsRow.mono (k4.own trivial HO3.out) (Nat.zero_le _), Nat.zero_le _, hts⟩
  have HC4 : Hid (w4.heap[C]? = some (.cells #[.slice none 0 0] 39)) := Lib.hid (k4 _ _ _ (by rw [H3.out.block _ HCZ.out]; exact HC.out) trivial)
  have HR4 := Lib.hid (k4 _ _ _ HR3.out trivial)
  have H4 : Hid (Below w.heap.size w w4) := Lib.hid (by rw [hw4]; exact H3.out.alloc H3.out.size _)
  have HX4 := Lib.hid H3.out.size
  have HW4 := Lib.hid hw4
  clear hw4 k4
  go_wp2_with fail
  try go_at_call 24
  rw [← HW4.out]
  refine (factsClo_any w3.heap.size C _ ts f w4 HRd4.out HC4.out).mono ?_
  rintro e w5 ⟨res, hres, hoth, he⟩
  have hO5 : Oth (fun k => k = C) w w5 := ((Oth.refl _ w).up H4.out |>.trans hoth).wide (fun k hk he => by
    rcases he with he | he
    · have := HX4.out; omega
    · exact he)
  have hR5 : w5.heap[w.heap.size]? = some (.cells #[.int .i64 0, .int .i64 0, .int .i64 0] 27) := by
    rw [hoth.block _ (by have := H4.out.size; have := (Array.getElem?_eq_some_iff.1 HR4.out).1; omega) (fun h => by
      rcases h with h | h
      · have h1 := HZ3.out; have h2 := HZ2.out; have h3 := HZ1.out; omega
      · have := HCZ.out; omega)]
    exact HR4.out
  have HO5 := Lib.hid hO5
  have HR5 := Lib.hid hR5
  have HRES := Lib.hid hres
  have HZZ := Lib.hid H4.out.size
  clear hoth hO5 hR5 hres
  cases res with
  | error F =>
    have he : e = gvE F := he
    subst he
    refine leaves_cons (f := 36) (args := #[.pointer (some ⟨w.heap.size, 0, none⟩)]) (by simp) (by simp [go_sem]) ?_
    refine (deferred_panic w.heap.size F _ _ _ w5 HR5.out).mono ?_
    rintro e u' w6 ⟨rfl, rfl, h6, o6⟩
    refine ⟨_, results_cell_row rfl _ _ w.heap.size 27 #[.int .i64 (F.1 : Int), .int .i64 0, .int .i64 (F.2 : Int)] (0, 0) _ rfl h6 Tryz.underlying27 rfl Tryz.size25, ?_⟩
    refine ⟨_, HRES.out, ?_, rfl⟩
    have o7 := o6
    exact ⟨o6.os.trans HO5.out.os, o6.tape.trans HO5.out.tape, o6.output.trans HO5.out.output, Nat.le_trans HO5.out.size o6.size, fun k hk hx => (o6.block k (Nat.lt_of_lt_of_le hk HO5.out.size) (fun h => by omega)).trans (HO5.out.block k hk hx)⟩
  | ok x =>
    obtain ⟨he, hgd⟩ := he
    have he : e = .returned (.tuple #[]) := he
    subst he
    have HGD := Lib.hid hgd
    obtain ⟨s0, s1, s2, g0, g1, g2⟩ := row3 HR5.out
    have HH := Lib.hid (three_set (x := .int .i64 0) (y := .int .i64 0) (z := .int .i64 0) HR5.out)
    have KT : Kt (fun t => t ≠ 27) w5 (((w5.setCell ⟨w.heap.size, 0, none⟩ (.int .i64 0)).setCell ⟨w.heap.size, 1, none⟩ (.int .i64 0)).setCell ⟨w.heap.size, 2, none⟩ (.int .i64 0)) := tri_kt HR5.out (by simp)
    have HOZ := Lib.hid (tri_oth2 (x0 := .int .i64 0) (x1 := .int .i64 0) (x2 := .int .i64 0) HO5.out (Nat.le_refl _))
    have HGZ : Hid (VarV C 39 (AtmsV w.heap.size) x (((w5.setCell ⟨w.heap.size, 0, none⟩ (.int .i64 0)).setCell ⟨w.heap.size, 1, none⟩ (.int .i64 0)).setCell ⟨w.heap.size, 2, none⟩ (.int .i64 0))) := Lib.hid (by obtain ⟨u, h1, h2⟩ := HGD.out; exact ⟨u, KT _ _ _ h1 (by decide), (AtmsV.kt h2 KT (by decide) (by decide)).mono HZZ.out⟩)
    clear hgd KT
    go_wp2
    refine leaves_cons (f := 36) (args := #[.pointer (some ⟨w.heap.size, 0, none⟩)]) (by simp) (by simp [go_sem]) ?_
    refine (deferred_back w.heap.size _).mono ?_
    rintro e u' w6 ⟨rfl, rfl, rfl⟩
    refine ⟨_, results_cell_row rfl _ _ w.heap.size 27 #[.int .i64 0, .int .i64 0, .int .i64 0] (0, 0) _ rfl HH.out Tryz.underlying27 rfl Tryz.size25, ?_⟩
    exact ⟨_, HRES.out, HOZ.out, rfl, HGZ.out⟩

set_option maxRecDepth 100000 in
set_option maxHeartbeats 3200000 in
theorem guarded_query (s : ByteArray) (B C : Nat) (ts : List Tk) (f : Gr.Flt) (w : World) (hs : s.size ≤ 65536) (hSc : Sc (L s) 0 ts f) (hG : Gl B w) (hts : ts.length ≤ 70000) (hC : w.heap[C]? = some (.cells #[.slice none 0 0] 33)) :
    Calls Tryz.prog 16 #[.string s, .func (.func 27) #[] #[.pointer (some ⟨C, 0, none⟩)]] w fun e w' => ∃ res : Except Gr.Flt (List Gr.Lit), Gr.QueryR f ts res ∧ Oth (fun k => k = C) w w' ∧ match res with
      | .error F => e = .returned (FaultV F.1 F.2)
      | .ok x => e = .returned (FaultV 0 0) ∧ VarV C 33 (LitsV w.heap.size) x w' := by
  have hmf : ∀ (fn : Fn) (first cap : Array Value) (w : World), (Instr.makeFunc fn first cap).run Tryz.prog w = .ok (.func fn first cap) w := fun _ _ _ _ => rfl
  have hgt : decide ((s.size : Int) > 65536) = false := decide_eq_false (by omega)
  have hBz := hG.lt
  have HSC := Lib.hid hSc
  have HC := Lib.hid hC
  have HCZ := Lib.hid (Array.getElem?_eq_some_iff.1 hC).1
  obtain ⟨w1, hw1⟩ : ∃ w1, w1 = w.alloc (.cells #[.int .i64 0, .int .i64 0, .int .i64 0] 27) := ⟨_, rfl⟩
  have h1 : Below w.heap.size w w1 := by rw [hw1]; exact up_alloc _ _
  have HZ1 : Hid (w1.heap.size = w.heap.size + 1) := Lib.hid (by rw [hw1]; simp)
  have HR1 : Hid (w1.heap[w.heap.size]? = some (.cells #[.int .i64 0, .int .i64 0, .int .i64 0] 27)) := Lib.hid (by rw [hw1]; exact heap_alloc_new _ _)
  have HG1 := Lib.hid (hG.below (h1.mono hBz))
  have H1 := Lib.hid h1
  have HW1 := Lib.hid hw1
  clear hSc hC hG h1 hw1 hBz
  go_enter_defers Tryz.func16, Tryz.ntmps16
  go_upto_region 4 with fail
  rw [← HW1.out]
  go_wp2_with fail
  refine (scan_any s B ts f _ hs HSC.out HG1.out).mono ?_
  rintro e w2 ⟨v, rfl, ho2, hb2⟩
  rw [faultV_cells]
  obtain ⟨va, vc, rfl⟩ : ∃ va vc, v = .slice va ts.length vc := by
    rcases Joins.ownsRow_forms ho2 with ⟨h5, h6⟩ | ⟨g, cap, h5⟩
    · exact ⟨none, 0, by rw [h5, h6]⟩
    · exact ⟨_, cap, h5⟩
  have H2 := Lib.hid (H1.out.trans (hb2.mono (by have := HZ1.out; omega)))
  have HR2 : Hid (w2.heap[w.heap.size]? = some (.cells #[.int .i64 0, .int .i64 0, .int .i64 0] 27)) := Lib.hid (by rw [hb2.block _ (by have := HZ1.out; omega)]; exact HR1.out)
  have HO2 := Lib.hid ho2
  have HZ2 := Lib.hid hb2.size
  clear ho2 hb2
  go_upto_region 5 with fail
  obtain ⟨w3, hw3⟩ : ∃ w3, w3 = w2.alloc (.cells #[.int .i64 (f.1 : Int), .int .i64 0, .int .i64 (f.2 : Int)] 27) := ⟨_, rfl⟩
  rw [← hw3]
  have hq3 : w3.heap[w2.heap.size]? = some (.cells #[.int .i64 (f.1 : Int), .int .i64 0, .int .i64 (f.2 : Int)] 27) := by rw [hw3]; exact heap_alloc_new _ _
  have HR3 : Hid (w3.heap[w.heap.size]? = some (.cells #[.int .i64 0, .int .i64 0, .int .i64 0] 27)) := Lib.hid (by rw [hw3]; exact Kt.alloc (T := fun _ => True) w2 _ _ _ _ HR2.out trivial)
  have H3 : Hid (Below w.heap.size w w3) := Lib.hid (by rw [hw3]; exact H2.out.alloc (by have := HZ1.out; have := HZ2.out; omega) _)
  have HO3 : Hid (w3.ownsRow w1.heap.size 62 6 (.slice va ts.length vc) ts.length (flatT ts)) := Lib.hid (by rw [hw3]; exact HO2.out.alloc _)
  have HZ3 : Hid (w3.heap.size = w2.heap.size + 1) := Lib.hid (by rw [hw3]; simp)
  obtain ⟨b, hb0⟩ : ∃ b, b = w2.heap.size := ⟨_, rfl⟩
  rw [← hb0] at hq3 ⊢
  have HB0 := Lib.hid hb0
  obtain ⟨x0, x1, x2, xf0, xf1, xf2⟩ := row3 hq3
  clear hw3 hq3 hb0
  obtain ⟨w4, hw4⟩ : ∃ w4, w4 = w3.alloc (.cells #[.slice va ts.length vc, .int .i64 0, .int .i64 (f.1 : Int), .int .i64 0, .int .i64 (f.2 : Int)] 90) := ⟨_, rfl⟩
  have k4 : Kt (fun _ => True) w3 w4 := by rw [hw4]; exact Kt.alloc _ _
  have HRd4 : Hid (Rdr w4 w3.heap.size (.slice va ts.length vc) ts 0 f) := Lib.hid ⟨by rw [hw4]; exact heap_alloc_new _ _, World.ownsRow.mono (k4.own trivial HO3.out) (Nat.zero_le _), Nat.zero_le _, hts⟩
  have HC4 : Hid (w4.heap[C]? = some (.cells #[.slice none 0 0] 33)) := Lib.hid (k4 _ _ _ (by rw [H3.out.block _ HCZ.out]; exact HC.out) trivial)
  have HR4 := Lib.hid (k4 _ _ _ HR3.out trivial)
  have H4 : Hid (Below w.heap.size w w4) := Lib.hid (by rw [hw4]; exact H3.out.alloc H3.out.size _)
  have HX4 := Lib.hid H3.out.size
  have HW4 := Lib.hid hw4
  clear hw4 k4
  go_wp2_with fail
  try go_at_call 27
  rw [← HW4.out]
  refine (queryClo_any w3.heap.size C _ ts f w4 HRd4.out HC4.out).mono ?_
  rintro e w5 ⟨res, hres, hoth, he⟩
  have hO5 : Oth (fun k => k = C) w w5 := ((Oth.refl _ w).up H4.out |>.trans hoth).wide (fun k hk he => by
    rcases he with he | he
    · have := HX4.out; omega
    · exact he)
  have hR5 : w5.heap[w.heap.size]? = some (.cells #[.int .i64 0, .int .i64 0, .int .i64 0] 27) := by
    rw [hoth.block _ (by have := H4.out.size; have := (Array.getElem?_eq_some_iff.1 HR4.out).1; omega) (fun h => by
      rcases h with h | h
      · have h1 := HZ3.out; have h2 := HZ2.out; have h3 := HZ1.out; omega
      · have := HCZ.out; omega)]
    exact HR4.out
  have HO5 := Lib.hid hO5
  have HR5 := Lib.hid hR5
  have HRES := Lib.hid hres
  have HZZ := Lib.hid H4.out.size
  clear hoth hO5 hR5 hres
  cases res with
  | error F =>
    have he : e = gvE F := he
    subst he
    refine leaves_cons (f := 36) (args := #[.pointer (some ⟨w.heap.size, 0, none⟩)]) (by simp) (by simp [go_sem]) ?_
    refine (deferred_panic w.heap.size F _ _ _ w5 HR5.out).mono ?_
    rintro e u' w6 ⟨rfl, rfl, h6, o6⟩
    refine ⟨_, results_cell_row rfl _ _ w.heap.size 27 #[.int .i64 (F.1 : Int), .int .i64 0, .int .i64 (F.2 : Int)] (0, 0) _ rfl h6 Tryz.underlying27 rfl Tryz.size25, ?_⟩
    refine ⟨_, HRES.out, ?_, rfl⟩
    have o7 := o6
    exact ⟨o6.os.trans HO5.out.os, o6.tape.trans HO5.out.tape, o6.output.trans HO5.out.output, Nat.le_trans HO5.out.size o6.size, fun k hk hx => (o6.block k (Nat.lt_of_lt_of_le hk HO5.out.size) (fun h => by omega)).trans (HO5.out.block k hk hx)⟩
  | ok x =>
    obtain ⟨he, hgd⟩ := he
    have he : e = .returned (.tuple #[]) := he
    subst he
    have HGD := Lib.hid hgd
    obtain ⟨s0, s1, s2, g0, g1, g2⟩ := row3 HR5.out
    have HH := Lib.hid (three_set (x := .int .i64 0) (y := .int .i64 0) (z := .int .i64 0) HR5.out)
    have KT : Kt (fun t => t ≠ 27) w5 (((w5.setCell ⟨w.heap.size, 0, none⟩ (.int .i64 0)).setCell ⟨w.heap.size, 1, none⟩ (.int .i64 0)).setCell ⟨w.heap.size, 2, none⟩ (.int .i64 0)) := tri_kt HR5.out (by simp)
    have HOZ := Lib.hid (tri_oth2 (x0 := .int .i64 0) (x1 := .int .i64 0) (x2 := .int .i64 0) HO5.out (Nat.le_refl _))
    have HGZ : Hid (VarV C 33 (LitsV w.heap.size) x (((w5.setCell ⟨w.heap.size, 0, none⟩ (.int .i64 0)).setCell ⟨w.heap.size, 1, none⟩ (.int .i64 0)).setCell ⟨w.heap.size, 2, none⟩ (.int .i64 0))) := Lib.hid (by obtain ⟨u, h1, h2⟩ := HGD.out; exact ⟨u, KT _ _ _ h1 (by decide), (LitsV.kt h2 KT (by decide) (by decide)).mono HZZ.out⟩)
    clear hgd KT
    go_wp2
    refine leaves_cons (f := 36) (args := #[.pointer (some ⟨w.heap.size, 0, none⟩)]) (by simp) (by simp [go_sem]) ?_
    refine (deferred_back w.heap.size _).mono ?_
    rintro e u' w6 ⟨rfl, rfl, rfl⟩
    refine ⟨_, results_cell_row rfl _ _ w.heap.size 27 #[.int .i64 0, .int .i64 0, .int .i64 0] (0, 0) _ rfl HH.out Tryz.underlying27 rfl Tryz.size25, ?_⟩
    exact ⟨_, HRES.out, HOZ.out, rfl, HGZ.out⟩

set_option maxRecDepth 100000 in
set_option maxHeartbeats 3200000 in
theorem guarded_fact (s : ByteArray) (B C : Nat) (ts : List Tk) (f : Gr.Flt) (w : World) (hs : s.size ≤ 65536) (hSc : Sc (L s) 0 ts f) (hG : Gl B w) (hts : ts.length ≤ 70000) (hC : w.heap[C]? = some (.cells #[.string { data := #[] }, .slice none 0 0] 46)) :
    Calls Tryz.prog 16 #[.string s, .func (.func 29) #[] #[.pointer (some ⟨C, 0, none⟩)]] w fun e w' => ∃ res : Except Gr.Flt (Gr.Atm), res = Gr.factP f ts ∧ Oth (fun k => k = C) w w' ∧ match res with
      | .error F => e = .returned (FaultV F.1 F.2)
      | .ok x => e = .returned (FaultV 0 0) ∧ FactV C w.heap.size x w' := by
  have hmf : ∀ (fn : Fn) (first cap : Array Value) (w : World), (Instr.makeFunc fn first cap).run Tryz.prog w = .ok (.func fn first cap) w := fun _ _ _ _ => rfl
  have hgt : decide ((s.size : Int) > 65536) = false := decide_eq_false (by omega)
  have hBz := hG.lt
  have HSC := Lib.hid hSc
  have HC := Lib.hid hC
  have HCZ := Lib.hid (Array.getElem?_eq_some_iff.1 hC).1
  obtain ⟨w1, hw1⟩ : ∃ w1, w1 = w.alloc (.cells #[.int .i64 0, .int .i64 0, .int .i64 0] 27) := ⟨_, rfl⟩
  have h1 : Below w.heap.size w w1 := by rw [hw1]; exact up_alloc _ _
  have HZ1 : Hid (w1.heap.size = w.heap.size + 1) := Lib.hid (by rw [hw1]; simp)
  have HR1 : Hid (w1.heap[w.heap.size]? = some (.cells #[.int .i64 0, .int .i64 0, .int .i64 0] 27)) := Lib.hid (by rw [hw1]; exact heap_alloc_new _ _)
  have HG1 := Lib.hid (hG.below (h1.mono hBz))
  have H1 := Lib.hid h1
  have HW1 := Lib.hid hw1
  clear hSc hC hG h1 hw1 hBz
  go_enter_defers Tryz.func16, Tryz.ntmps16
  go_upto_region 4 with fail
  rw [← HW1.out]
  go_wp2_with fail
  refine (scan_any s B ts f _ hs HSC.out HG1.out).mono ?_
  rintro e w2 ⟨v, rfl, ho2, hb2⟩
  rw [faultV_cells]
  obtain ⟨va, vc, rfl⟩ : ∃ va vc, v = .slice va ts.length vc := by
    rcases Joins.ownsRow_forms ho2 with ⟨h5, h6⟩ | ⟨g, cap, h5⟩
    · exact ⟨none, 0, by rw [h5, h6]⟩
    · exact ⟨_, cap, h5⟩
  have H2 := Lib.hid (H1.out.trans (hb2.mono (by have := HZ1.out; omega)))
  have HR2 : Hid (w2.heap[w.heap.size]? = some (.cells #[.int .i64 0, .int .i64 0, .int .i64 0] 27)) := Lib.hid (by rw [hb2.block _ (by have := HZ1.out; omega)]; exact HR1.out)
  have HO2 := Lib.hid ho2
  have HZ2 := Lib.hid hb2.size
  clear ho2 hb2
  go_upto_region 5 with fail
  obtain ⟨w3, hw3⟩ : ∃ w3, w3 = w2.alloc (.cells #[.int .i64 (f.1 : Int), .int .i64 0, .int .i64 (f.2 : Int)] 27) := ⟨_, rfl⟩
  rw [← hw3]
  have hq3 : w3.heap[w2.heap.size]? = some (.cells #[.int .i64 (f.1 : Int), .int .i64 0, .int .i64 (f.2 : Int)] 27) := by rw [hw3]; exact heap_alloc_new _ _
  have HR3 : Hid (w3.heap[w.heap.size]? = some (.cells #[.int .i64 0, .int .i64 0, .int .i64 0] 27)) := Lib.hid (by rw [hw3]; exact Kt.alloc (T := fun _ => True) w2 _ _ _ _ HR2.out trivial)
  have H3 : Hid (Below w.heap.size w w3) := Lib.hid (by rw [hw3]; exact H2.out.alloc (by have := HZ1.out; have := HZ2.out; omega) _)
  have HO3 : Hid (w3.ownsRow w1.heap.size 62 6 (.slice va ts.length vc) ts.length (flatT ts)) := Lib.hid (by rw [hw3]; exact HO2.out.alloc _)
  have HZ3 : Hid (w3.heap.size = w2.heap.size + 1) := Lib.hid (by rw [hw3]; simp)
  obtain ⟨b, hb0⟩ : ∃ b, b = w2.heap.size := ⟨_, rfl⟩
  rw [← hb0] at hq3 ⊢
  have HB0 := Lib.hid hb0
  obtain ⟨x0, x1, x2, xf0, xf1, xf2⟩ := row3 hq3
  clear hw3 hq3 hb0
  obtain ⟨w4, hw4⟩ : ∃ w4, w4 = w3.alloc (.cells #[.slice va ts.length vc, .int .i64 0, .int .i64 (f.1 : Int), .int .i64 0, .int .i64 (f.2 : Int)] 90) := ⟨_, rfl⟩
  have k4 : Kt (fun _ => True) w3 w4 := by rw [hw4]; exact Kt.alloc _ _
  have HRd4 : Hid (Rdr w4 w3.heap.size (.slice va ts.length vc) ts 0 f) := Lib.hid ⟨by rw [hw4]; exact heap_alloc_new _ _, World.ownsRow.mono (k4.own trivial HO3.out) (Nat.zero_le _), Nat.zero_le _, hts⟩
  have HC4 : Hid (w4.heap[C]? = some (.cells #[.string { data := #[] }, .slice none 0 0] 46)) := Lib.hid (k4 _ _ _ (by rw [H3.out.block _ HCZ.out]; exact HC.out) trivial)
  have HR4 := Lib.hid (k4 _ _ _ HR3.out trivial)
  have H4 : Hid (Below w.heap.size w w4) := Lib.hid (by rw [hw4]; exact H3.out.alloc H3.out.size _)
  have HX4 := Lib.hid H3.out.size
  have HW4 := Lib.hid hw4
  clear hw4 k4
  go_wp2_with fail
  try go_at_call 29
  rw [← HW4.out]
  refine (factClo_any w3.heap.size C _ ts f w4 HRd4.out HC4.out).mono ?_
  rintro e w5 ⟨hoth, he⟩
  obtain ⟨res, hres⟩ : ∃ res, res = Gr.factP f ts := ⟨_, rfl⟩
  rw [← hres] at he
  have hO5 : Oth (fun k => k = C) w w5 := ((Oth.refl _ w).up H4.out |>.trans hoth).wide (fun k hk he => by
    rcases he with he | he
    · have := HX4.out; omega
    · exact he)
  have hR5 : w5.heap[w.heap.size]? = some (.cells #[.int .i64 0, .int .i64 0, .int .i64 0] 27) := by
    rw [hoth.block _ (by have := H4.out.size; have := (Array.getElem?_eq_some_iff.1 HR4.out).1; omega) (fun h => by
      rcases h with h | h
      · have h1 := HZ3.out; have h2 := HZ2.out; have h3 := HZ1.out; omega
      · have := HCZ.out; omega)]
    exact HR4.out
  have HO5 := Lib.hid hO5
  have HR5 := Lib.hid hR5
  have HRES := Lib.hid hres
  have HZZ := Lib.hid H4.out.size
  clear hoth hO5 hR5 hres
  cases res with
  | error F =>
    have he : e = gvE F := he
    subst he
    refine leaves_cons (f := 36) (args := #[.pointer (some ⟨w.heap.size, 0, none⟩)]) (by simp) (by simp [go_sem]) ?_
    refine (deferred_panic w.heap.size F _ _ _ w5 HR5.out).mono ?_
    rintro e u' w6 ⟨rfl, rfl, h6, o6⟩
    refine ⟨_, results_cell_row rfl _ _ w.heap.size 27 #[.int .i64 (F.1 : Int), .int .i64 0, .int .i64 (F.2 : Int)] (0, 0) _ rfl h6 Tryz.underlying27 rfl Tryz.size25, ?_⟩
    refine ⟨_, HRES.out, ?_, rfl⟩
    have o7 := o6
    exact ⟨o6.os.trans HO5.out.os, o6.tape.trans HO5.out.tape, o6.output.trans HO5.out.output, Nat.le_trans HO5.out.size o6.size, fun k hk hx => (o6.block k (Nat.lt_of_lt_of_le hk HO5.out.size) (fun h => by omega)).trans (HO5.out.block k hk hx)⟩
  | ok x =>
    obtain ⟨he, hgd⟩ := he
    have he : e = .returned (.tuple #[]) := he
    subst he
    have HGD := Lib.hid hgd
    obtain ⟨s0, s1, s2, g0, g1, g2⟩ := row3 HR5.out
    have HH := Lib.hid (three_set (x := .int .i64 0) (y := .int .i64 0) (z := .int .i64 0) HR5.out)
    have KT : Kt (fun t => t ≠ 27) w5 (((w5.setCell ⟨w.heap.size, 0, none⟩ (.int .i64 0)).setCell ⟨w.heap.size, 1, none⟩ (.int .i64 0)).setCell ⟨w.heap.size, 2, none⟩ (.int .i64 0)) := tri_kt HR5.out (by simp)
    have HOZ := Lib.hid (tri_oth2 (x0 := .int .i64 0) (x1 := .int .i64 0) (x2 := .int .i64 0) HO5.out (Nat.le_refl _))
    have HGZ : Hid (FactV C w.heap.size x (((w5.setCell ⟨w.heap.size, 0, none⟩ (.int .i64 0)).setCell ⟨w.heap.size, 1, none⟩ (.int .i64 0)).setCell ⟨w.heap.size, 2, none⟩ (.int .i64 0))) := Lib.hid (by obtain ⟨u, h1, h2⟩ := HGD.out; exact ⟨u, KT _ _ _ h1 (by decide), World.ownsRow.mono (KT.own (by decide) h2) HZZ.out⟩)
    clear hgd KT
    go_wp2
    refine leaves_cons (f := 36) (args := #[.pointer (some ⟨w.heap.size, 0, none⟩)]) (by simp) (by simp [go_sem]) ?_
    refine (deferred_back w.heap.size _).mono ?_
    rintro e u' w6 ⟨rfl, rfl, rfl⟩
    refine ⟨_, results_cell_row rfl _ _ w.heap.size 27 #[.int .i64 0, .int .i64 0, .int .i64 0] (0, 0) _ rfl HH.out Tryz.underlying27 rfl Tryz.size25, ?_⟩
    exact ⟨_, HRES.out, HOZ.out, rfl, HGZ.out⟩
end Go.Proofs.YtncdjkdpoinfaaaGreatDoor
