/-
  The walk of the law's ordered, at what Sorted and Ranks give. Conditions: those lists in memory; constants.
-/
import Derived.Test.YtijmogehmcjopaaDoorW25
namespace Go.Proofs.YtijmogehmcjopaaDoor
open Go.RowKit Ct

set_option maxRecDepth 100000 in
set_option maxHeartbeats 6400000 in
theorem ordered_any {w : World} {B1 B2 r n : Nat} {so io : Value} {ids : List Cn} {order : List Nat} (hn : n = ids.length) (hn65 : n ≤ 65536) (hv : ∀ c ∈ ids, valid c = true) (ho : Ord ids order)
    (hS : w.ownsRow B1 3 1 so n (intL order)) (hR : RkAt w r n order n) (hI : w.ownsRow B2 26 3 io n (flatC ids)) :
    Calls Tryd.prog 16 #[so, .slice (some ⟨r, 0, none⟩) n n, io] w fun e w' => e = .returned (.bool true) ∧ Below w.heap.size w w' := by
  obtain ⟨ax, cs, rfl⟩ := own_form hS
  obtain ⟨ai, ci, rfl⟩ := own_form hI
  have HN := Lib.hid hn
  have HOL : Hid (order.length = n) := Lib.hid (by rw [ho.len, hn])
  have HO := Lib.hid ho
  have HV := Lib.hid hv
  have HS := Lib.hid hS
  have HR := Lib.hid hR
  have HI := Lib.hid hI
  clear hn hv ho hS hR hI
  go_enter Tryd.func16, Tryd.ntmps16
  go_upto_region 4 with fail
  go_loopw [23] (fun k wr => ∃ q : Nat, k = .int .i64 (q : Int) ∧ q ≤ n ∧ Hid (Below w.heap.size w wr)) (fun k _ => n - (intOf k).toNat)
  case atStart => exact ⟨0, rfl, by omega, Lib.hid (Below.refl _ _)⟩
  case round =>
    obtain ⟨q, rfl, hq, HB⟩ := hrel
    by_cases hqn : q < n
    · have hqI : (q : Int) < (n : Int) := by omega
      have hq0 : (0 : Int) ≤ (q : Int) := by omega
      have hw1 : IntKind.i64.wrap ((q : Int) + 1) = (q : Int) + 1 := by rw [IntKind.wrap_i64]; omega
      obtain ⟨gs, cs', hg⟩ := Joins.ownsRow_form HS.out (by omega)
      injection hg with hg _ _
      subst hg
      obtain ⟨gi, ci', hg⟩ := Joins.ownsRow_form HI.out (by omega)
      injection hg with hg _ _
      subst hg
      have hqo : q < order.length := by rw [HOL.out]; exact hqn
      obtain ⟨id, hid⟩ : ∃ id, id = order[q] := ⟨_, rfl⟩
      have hidn : id < n := by rw [hid, HN.out]; exact HO.out.lt hqo
      have lsw := (HS.out.lt gs rfl).2
      have liw := (HI.out.lt gi rfl).2
      obtain ⟨L, hLn, hLb, hLc⟩ := HR.out
      have lrw := heap_lt hLb
      have hsz := HB.out.size
      have ls : gs < wr.heap.size := by omega
      have li : gi < wr.heap.size := by omega
      have lr : r < wr.heap.size := by omega
      have hsat : ∀ j (hj : j < order.length), wr.cell? ⟨gs, j, none⟩ = some (.int .i64 (order[j] : Int)) := fun j hj => by
        have h1 := HS.out.cells (g := gs) rfl j (.int .i64 (order[j] : Int)) (by simp [intL, hj])
        rw [add_zero'] at h1
        exact (HB.out.cell (p := ⟨gs, j, none⟩) lsw).trans h1
      have hcq : wr.cell? ⟨gs, q, none⟩ = some (.int .i64 (id : Int)) := by rw [hid]; exact hsat q hqo
      have hrk : wr.cell? ⟨r, id, none⟩ = some (.int .i64 (q : Int)) := by
        refine (HB.out.cell (p := ⟨r, id, none⟩) lrw).trans ?_
        have := hLc q hqo hqn
        rw [← hid] at this
        simp [World.cell?, hLb, this]
      have own' := HI.out
      have hnn := HN.out
      rw [hnn] at own'
      have hidl : id < ids.length := by omega
      obtain ⟨c, hcE⟩ : ∃ c, c = ids[id] := ⟨_, rfl⟩
      have hcat : ∀ (j : Nat) (hj : j < ids.length) (x : Cn), x = ids[j] → wr.cell? ⟨gi, j * 3, none⟩ = some (.int .i64 x.kind) ∧ wr.cell? ⟨gi, j * 3 + 1, none⟩ = some (.int .i64 x.int) ∧ wr.cell? ⟨gi, j * 3 + 2, none⟩ = some (.string ⟨x.text.toArray⟩) := fun j hj x hx => by
        obtain ⟨a0, a1, a2⟩ := cn_cells own' hj
        rw [hx]
        exact ⟨(HB.out.cell (p := ⟨gi, j * 3, none⟩) liw).trans a0, (HB.out.cell (p := ⟨gi, j * 3 + 1, none⟩) liw).trans a1, (HB.out.cell (p := ⟨gi, j * 3 + 2, none⟩) liw).trans a2⟩
      obtain ⟨c0, c1, c2⟩ := hcat id hidl c hcE
      have hidI : (id : Int) < (n : Int) := by omega
      have hid0 : (0 : Int) ≤ (id : Int) := by omega
      by_cases hz : q = 0
      · have hzI : ¬ (0 : Int) < (q : Int) := by omega
        have HQ := Lib.hid hz
        clear hsat hLc hLb hLn own' hnn hcat hid hcE hz
        go_upto_region 6 with fail
        refine wp_region_H (fun x => Below wr.heap.size wr x) (by kernel_rfl) ?_
        have hS0 : Below wr.heap.size wr wr.drew := (Below.refl _ _).drew
        refine wpAnyH_tk 0 (some 28) (.int .i64 (id : Int)) rfl rfl (by kernel_rfl) (fun _ _ _ h => h) (by assumption) (Or.inl ⟨by kernel_rfl, fun z hx => ?_⟩) ?_
        · clear hx; go_simp; first | done | rfl
        refine wpAnyH_tk 1 (some 29) (.bool false) rfl rfl (by kernel_rfl) (fun _ _ _ h => h) (by assumption) (Or.inl ⟨by kernel_rfl, fun z hx => ?_⟩) ?_
        · clear hx; go_simp; first | done | rfl
        refine wpAnyH_tk 2 (some 30) (.bool false) rfl rfl (by kernel_rfl) (fun _ _ _ h => h) (by assumption) (Or.inl ⟨by kernel_rfl, fun z hx => ?_⟩) ?_
        · clear hx; go_simp; first | done | rfl
        refine wpAnyH_tk 3 (some 31) (.int .i64 (id : Int)) rfl rfl (by kernel_rfl) (fun _ _ _ h => h) (by assumption) (Or.inl ⟨by kernel_rfl, fun z hx => ?_⟩) ?_
        · clear hx; go_simp; first | done | rfl
        refine wpAnyH_tk 4 (some 32) (.slice (some ⟨gi, 0, none⟩) n ci) rfl rfl (by kernel_rfl) (fun _ _ _ h => h) (by assumption) (Or.inl ⟨by kernel_rfl, fun z hx => ?_⟩) ?_
        · clear hx; go_simp; first | done | rfl
        refine wpAnyH_tk 5 (some 33) (.int .i64 (n : Int)) rfl rfl (by kernel_rfl) (fun _ _ _ h => h) (by assumption) (Or.inl ⟨by kernel_rfl, fun z hx => ?_⟩) ?_
        · clear hx; go_simp; first | done | rfl
        refine wpAnyH_tk 6 (some 34) (.bool false) rfl rfl (by kernel_rfl) (fun _ _ _ h => h) (by assumption) (Or.inl ⟨by kernel_rfl, fun z hx => ?_⟩) ?_
        · clear hx; go_simp; first | done | rfl
        refine wpAnyH_tk 7 (some 35) (.bool false) rfl rfl (by kernel_rfl) (fun _ _ _ h => h) (by assumption) (Or.inl ⟨by kernel_rfl, fun z hx => ?_⟩) ?_
        · clear hx; go_simp; first | done | rfl
        refine wpAnyH_tk 8 (some 36) (.bool false) rfl rfl (by kernel_rfl) (fun _ _ _ h => h) (by assumption) (Or.inl ⟨by kernel_rfl, fun z hx => ?_⟩) ?_
        · clear hx; go_simp; first | done | rfl
        refine wpAnyH_tk 9 (some 37) (.slice (some ⟨r, 0, none⟩) n n) rfl rfl (by kernel_rfl) (fun _ _ _ h => h) (by assumption) (Or.inl ⟨by kernel_rfl, fun z hx => ?_⟩) ?_
        · clear hx; go_simp; first | done | rfl
        refine wpAnyH_tk 10 (some 38) (.int .i64 (id : Int)) rfl rfl (by kernel_rfl) (fun _ _ _ h => h) (by assumption) (Or.inl ⟨by kernel_rfl, fun z hx => ?_⟩) ?_
        · clear hx; go_simp; first | done | rfl
        refine wpAnyH_tk 11 (some 39) (.pointer (some ⟨r, id, none⟩)) rfl rfl (by kernel_rfl) (fun _ _ _ h => h) (by assumption) (Or.inl ⟨by kernel_rfl, fun z hx => ?_⟩) ?_
        · clear hx; go_simp; first | done | rfl
        refine wpAnyH_tk 12 (some 40) (.int .i64 (q : Int)) rfl rfl (by kernel_rfl) (fun _ _ _ h => h) (by assumption) (Or.inl ⟨by kernel_rfl, fun z hx => ?_⟩) ?_
        · have q0 := (hx.cell (p := ⟨r, id, none⟩) lr).trans hrk; clear hx; go_simp; first | done | rfl
        refine wpAnyH_tk 13 (some 41) (.int .i64 (q : Int)) rfl rfl (by kernel_rfl) (fun _ _ _ h => h) (by assumption) (Or.inl ⟨by kernel_rfl, fun z hx => ?_⟩) ?_
        · clear hx; go_simp; first | done | rfl
        refine wpAnyH_tk 14 (some 42) (.bool false) rfl rfl (by kernel_rfl) (fun _ _ _ h => h) (by assumption) (Or.inl ⟨by kernel_rfl, fun z hx => ?_⟩) ?_
        · clear hx; go_simp; first | done | rfl | simp
        refine wpAnyH_tk 15 (some 43) (.bool false) rfl rfl (by kernel_rfl) (fun _ _ _ h => h) (by assumption) (Or.inl ⟨by kernel_rfl, fun z hx => ?_⟩) ?_
        · clear hx; go_simp; first | done | rfl
        refine wpAnyH_tk 16 (some 44) (.bool false) rfl rfl (by kernel_rfl) (fun _ _ _ h => h) (by assumption) (Or.inl ⟨by kernel_rfl, fun z hx => ?_⟩) ?_
        · clear hx; go_simp; first | done | rfl
        refine wpAnyH_tk 17 (some 45) (.int .i64 (q : Int)) rfl rfl (by kernel_rfl) (fun _ _ _ h => h) (by assumption) (Or.inl ⟨by kernel_rfl, fun z hx => ?_⟩) ?_
        · clear hx; go_simp; first | done | rfl
        refine wpAnyH_tk 18 (some 46) (.bool false) rfl rfl (by kernel_rfl) (fun _ _ _ h => h) (by assumption) (Or.inl ⟨by kernel_rfl, fun z hx => ?_⟩) ?_
        · clear hx; go_simp; first | done | rfl | exact HQ.out | omega
        refine wpAnyH_tk 19 (some 47) (.bool false) rfl rfl (by kernel_rfl) (fun _ _ _ h => h) (by assumption) (Or.inl ⟨by kernel_rfl, fun z hx => ?_⟩) ?_
        · clear hx; go_simp; first | done | rfl
        refine wpAnyH_tk 20 (some 48) undef rfl rfl (by kernel_rfl) (fun _ _ _ h => h) (by assumption) (Or.inr ⟨by kernel_rfl, rfl⟩) ?_
        refine wpAnyH_tk 21 (some 49) undef rfl rfl (by kernel_rfl) (fun _ _ _ h => h) (by assumption) (Or.inr ⟨by kernel_rfl, rfl⟩) ?_
        refine wpAnyH_tk 22 (some 50) undef rfl rfl (by kernel_rfl) (fun _ _ _ h => h) (by assumption) (Or.inr ⟨by kernel_rfl, rfl⟩) ?_
        refine wpAnyH_tk 23 (some 51) undef rfl rfl (by kernel_rfl) (fun _ _ _ h => h) (by assumption) (Or.inr ⟨by kernel_rfl, rfl⟩) ?_
        refine wpAnyH_tk 24 (some 52) undef rfl rfl (by kernel_rfl) (fun _ _ _ h => h) (by assumption) (Or.inr ⟨by kernel_rfl, rfl⟩) ?_
        refine wpAnyH_tk 25 (some 53) undef rfl rfl (by kernel_rfl) (fun _ _ _ h => h) (by assumption) (Or.inr ⟨by kernel_rfl, rfl⟩) ?_
        refine wpAnyH_tk 26 (some 54) undef rfl rfl (by kernel_rfl) (fun _ _ _ h => h) (by assumption) (Or.inr ⟨by kernel_rfl, rfl⟩) ?_
        refine wpAnyH_tk 27 (some 55) undef rfl rfl (by kernel_rfl) (fun _ _ _ h => h) (by assumption) (Or.inr ⟨by kernel_rfl, rfl⟩) ?_
        refine wpAnyH_tk 28 (some 56) undef rfl rfl (by kernel_rfl) (fun _ _ _ h => h) (by assumption) (Or.inr ⟨by kernel_rfl, rfl⟩) ?_
        refine wpAnyH_tk 29 (some 57) undef rfl rfl (by kernel_rfl) (fun _ _ _ h => h) (by assumption) (Or.inr ⟨by kernel_rfl, rfl⟩) ?_
        refine wpAnyH_tk 30 (some 58) undef rfl rfl (by kernel_rfl) (fun _ _ _ h => h) (by assumption) (Or.inr ⟨by kernel_rfl, rfl⟩) ?_
        refine wpAnyH_tk 31 (some 59) undef rfl rfl (by kernel_rfl) (fun _ _ _ h => h) (by assumption) (Or.inr ⟨by kernel_rfl, rfl⟩) ?_
        refine wpAnyH_tk 32 (some 60) undef rfl rfl (by kernel_rfl) (fun _ _ _ h => h) (by assumption) (Or.inr ⟨by kernel_rfl, rfl⟩) ?_
        refine wpAnyH_tk 33 (some 61) undef rfl rfl (by kernel_rfl) (fun _ _ _ h => h) (by assumption) (Or.inr ⟨by kernel_rfl, rfl⟩) ?_
        refine wpAnyH_tk 34 (some 62) (.bool false) rfl rfl (by kernel_rfl) (fun _ _ _ h => h) (by assumption) (Or.inl ⟨by kernel_rfl, fun z hx => ?_⟩) ?_
        · clear hx; go_simp; first | done | rfl
        refine wpAnyH_tk 35 (some 63) (.bool false) rfl rfl (by kernel_rfl) (fun _ _ _ h => h) (by assumption) (Or.inl ⟨by kernel_rfl, fun z hx => ?_⟩) ?_
        · clear hx; go_simp; first | done | rfl
        refine wpAnyH_done (by kernel_rfl) ?_ _
        go_simp
        go_wp2
        go_round
        case rel => exact ⟨_, _, _, .int .i64 ((q + 1 : Nat) : Int), ⟨q + 1, rfl, by omega, Lib.hid (HB.out.trans (hS0.mono hsz))⟩, rfl, rfl, rfl, by go_num⟩
        case measure => simp only [intOf]; omega
      · have hzI : (0 : Int) < (q : Int) := by omega
        obtain ⟨m, hm⟩ : ∃ m, m = q - 1 := ⟨_, rfl⟩
        have hwm : IntKind.i64.wrap ((q : Int) - 1) = (m : Int) := by rw [IntKind.wrap_i64]; omega
        have hmo : m < order.length := by omega
        obtain ⟨p, hp⟩ : ∃ p, p = order[m] := ⟨_, rfl⟩
        have hsm : wr.cell? ⟨gs, m, none⟩ = some (.int .i64 (p : Int)) := by rw [hp]; exact hsat m hmo
        have hpn : p < n := by rw [hp, HN.out]; exact HO.out.lt hmo
        have hpl : p < ids.length := by omega
        obtain ⟨d, hdE⟩ : ∃ d, d = ids[p] := ⟨_, rfl⟩
        obtain ⟨p0, p1, p2⟩ := hcat p hpl d hdE
        have hltc : LtC d c := by
          have h1 := List.pairwise_iff_getElem.1 HO.out.2 m q hmo hqo (by omega)
          rw [← hp, ← hid] at h1
          simp only [List.getD_eq_getElem?_getD, List.getElem?_eq_getElem hpl, List.getElem?_eq_getElem hidl, Option.getD_some] at h1
          rw [hcE, hdE]; exact h1
        have hbef : ¬ (0 : Int) ≤ befC d c := by
          rw [← cmpC_eq (HV.out d (by rw [hdE]; exact List.getElem_mem _)) (HV.out c (by rw [hcE]; exact List.getElem_mem _))]
          have := cmpC_neg.2 hltc
          omega
        have hpI : (p : Int) < (n : Int) := by omega
        have hpI0 : (0 : Int) ≤ (p : Int) := by omega
        have hmI : (m : Int) < (n : Int) := by omega
        have hmI0 : (0 : Int) ≤ (m : Int) := by omega
        clear hsat hLc hLb hLn own' hnn hcat hid hcE hdE hp hm hz
        go_upto_region 6 with fail
        refine wp_region_H (fun x => Below wr.heap.size wr x) (by kernel_rfl) ?_
        have hS0 : Below wr.heap.size wr wr.drew := (Below.refl _ _).drew
        refine wpAnyH_tk 0 (some 28) (.int .i64 (id : Int)) rfl rfl (by kernel_rfl) (fun _ _ _ h => h) (by assumption) (Or.inl ⟨by kernel_rfl, fun z hx => ?_⟩) ?_
        · clear hx; go_simp; first | done | rfl
        refine wpAnyH_tk 1 (some 29) (.bool false) rfl rfl (by kernel_rfl) (fun _ _ _ h => h) (by assumption) (Or.inl ⟨by kernel_rfl, fun z hx => ?_⟩) ?_
        · clear hx; go_simp; first | done | rfl
        refine wpAnyH_tk 2 (some 30) (.bool false) rfl rfl (by kernel_rfl) (fun _ _ _ h => h) (by assumption) (Or.inl ⟨by kernel_rfl, fun z hx => ?_⟩) ?_
        · clear hx; go_simp; first | done | rfl
        refine wpAnyH_tk 3 (some 31) (.int .i64 (id : Int)) rfl rfl (by kernel_rfl) (fun _ _ _ h => h) (by assumption) (Or.inl ⟨by kernel_rfl, fun z hx => ?_⟩) ?_
        · clear hx; go_simp; first | done | rfl
        refine wpAnyH_tk 4 (some 32) (.slice (some ⟨gi, 0, none⟩) n ci) rfl rfl (by kernel_rfl) (fun _ _ _ h => h) (by assumption) (Or.inl ⟨by kernel_rfl, fun z hx => ?_⟩) ?_
        · clear hx; go_simp; first | done | rfl
        refine wpAnyH_tk 5 (some 33) (.int .i64 (n : Int)) rfl rfl (by kernel_rfl) (fun _ _ _ h => h) (by assumption) (Or.inl ⟨by kernel_rfl, fun z hx => ?_⟩) ?_
        · clear hx; go_simp; first | done | rfl
        refine wpAnyH_tk 6 (some 34) (.bool false) rfl rfl (by kernel_rfl) (fun _ _ _ h => h) (by assumption) (Or.inl ⟨by kernel_rfl, fun z hx => ?_⟩) ?_
        · clear hx; go_simp; first | done | rfl
        refine wpAnyH_tk 7 (some 35) (.bool false) rfl rfl (by kernel_rfl) (fun _ _ _ h => h) (by assumption) (Or.inl ⟨by kernel_rfl, fun z hx => ?_⟩) ?_
        · clear hx; go_simp; first | done | rfl
        refine wpAnyH_tk 8 (some 36) (.bool false) rfl rfl (by kernel_rfl) (fun _ _ _ h => h) (by assumption) (Or.inl ⟨by kernel_rfl, fun z hx => ?_⟩) ?_
        · clear hx; go_simp; first | done | rfl
        refine wpAnyH_tk 9 (some 37) (.slice (some ⟨r, 0, none⟩) n n) rfl rfl (by kernel_rfl) (fun _ _ _ h => h) (by assumption) (Or.inl ⟨by kernel_rfl, fun z hx => ?_⟩) ?_
        · clear hx; go_simp; first | done | rfl
        refine wpAnyH_tk 10 (some 38) (.int .i64 (id : Int)) rfl rfl (by kernel_rfl) (fun _ _ _ h => h) (by assumption) (Or.inl ⟨by kernel_rfl, fun z hx => ?_⟩) ?_
        · clear hx; go_simp; first | done | rfl
        refine wpAnyH_tk 11 (some 39) (.pointer (some ⟨r, id, none⟩)) rfl rfl (by kernel_rfl) (fun _ _ _ h => h) (by assumption) (Or.inl ⟨by kernel_rfl, fun z hx => ?_⟩) ?_
        · clear hx; go_simp; first | done | rfl
        refine wpAnyH_tk 12 (some 40) (.int .i64 (q : Int)) rfl rfl (by kernel_rfl) (fun _ _ _ h => h) (by assumption) (Or.inl ⟨by kernel_rfl, fun z hx => ?_⟩) ?_
        · have q0 := (hx.cell (p := ⟨r, id, none⟩) lr).trans hrk; clear hx; go_simp; first | done | rfl
        refine wpAnyH_tk 13 (some 41) (.int .i64 (q : Int)) rfl rfl (by kernel_rfl) (fun _ _ _ h => h) (by assumption) (Or.inl ⟨by kernel_rfl, fun z hx => ?_⟩) ?_
        · clear hx; go_simp; first | done | rfl
        refine wpAnyH_tk 14 (some 42) (.bool false) rfl rfl (by kernel_rfl) (fun _ _ _ h => h) (by assumption) (Or.inl ⟨by kernel_rfl, fun z hx => ?_⟩) ?_
        · clear hx; go_simp; first | done | rfl | simp
        refine wpAnyH_tk 15 (some 43) (.bool false) rfl rfl (by kernel_rfl) (fun _ _ _ h => h) (by assumption) (Or.inl ⟨by kernel_rfl, fun z hx => ?_⟩) ?_
        · clear hx; go_simp; first | done | rfl
        refine wpAnyH_tk 16 (some 44) (.bool false) rfl rfl (by kernel_rfl) (fun _ _ _ h => h) (by assumption) (Or.inl ⟨by kernel_rfl, fun z hx => ?_⟩) ?_
        · clear hx; go_simp; first | done | rfl
        refine wpAnyH_tk 17 (some 45) (.int .i64 (q : Int)) rfl rfl (by kernel_rfl) (fun _ _ _ h => h) (by assumption) (Or.inl ⟨by kernel_rfl, fun z hx => ?_⟩) ?_
        · clear hx; go_simp; first | done | rfl
        refine wpAnyH_tk 18 (some 46) (.bool true) rfl rfl (by kernel_rfl) (fun _ _ _ h => h) (by assumption) (Or.inl ⟨by kernel_rfl, fun z hx => ?_⟩) ?_
        · clear hx; go_simp; first | done | rfl | omega
        refine wpAnyH_tk 19 (some 47) (.bool true) rfl rfl (by kernel_rfl) (fun _ _ _ h => h) (by assumption) (Or.inl ⟨by kernel_rfl, fun z hx => ?_⟩) ?_
        · clear hx; go_simp; first | done | rfl
        refine wpAnyH_tk 20 (some 48) (.slice (some ⟨gi, 0, none⟩) n ci) rfl rfl (by kernel_rfl) (fun _ _ _ h => h) (by assumption) (Or.inl ⟨by kernel_rfl, fun z hx => ?_⟩) ?_
        · clear hx; go_simp; first | done | rfl
        refine wpAnyH_tk 21 (some 49) (.slice (some ⟨gs, 0, none⟩) n cs) rfl rfl (by kernel_rfl) (fun _ _ _ h => h) (by assumption) (Or.inl ⟨by kernel_rfl, fun z hx => ?_⟩) ?_
        · clear hx; go_simp; first | done | rfl
        refine wpAnyH_tk 22 (some 50) (.int .i64 (q : Int)) rfl rfl (by kernel_rfl) (fun _ _ _ h => h) (by assumption) (Or.inl ⟨by kernel_rfl, fun z hx => ?_⟩) ?_
        · clear hx; go_simp; first | done | rfl
        refine wpAnyH_tk 23 (some 51) (.int .i64 (m : Int)) rfl rfl (by kernel_rfl) (fun _ _ _ h => h) (by assumption) (Or.inl ⟨by kernel_rfl, fun z hx => ?_⟩) ?_
        · clear hx; go_simp; first | done | rfl
        refine wpAnyH_tk 24 (some 52) (.pointer (some ⟨gs, m, none⟩)) rfl rfl (by kernel_rfl) (fun _ _ _ h => h) (by assumption) (Or.inl ⟨by kernel_rfl, fun z hx => ?_⟩) ?_
        · clear hx; go_simp; first | done | rfl
        refine wpAnyH_tk 25 (some 53) (.int .i64 (p : Int)) rfl rfl (by kernel_rfl) (fun _ _ _ h => h) (by assumption) (Or.inl ⟨by kernel_rfl, fun z hx => ?_⟩) ?_
        · have q0 := (hx.cell (p := ⟨gs, m, none⟩) ls).trans hsm; clear hx; go_simp; first | done | rfl
        refine wpAnyH_tk 26 (some 54) (.pointer (some ⟨gi, p * 3, none⟩)) rfl rfl (by kernel_rfl) (fun _ _ _ h => h) (by assumption) (Or.inl ⟨by kernel_rfl, fun z hx => ?_⟩) ?_
        · clear hx; go_simp; first | done | rfl
        refine wpAnyH_tk 27 (some 55) (.agg #[.int .i64 d.kind, .int .i64 d.int, .string ⟨d.text.toArray⟩]) rfl rfl (by kernel_rfl) (fun _ _ _ h => h) (by assumption) (Or.inl ⟨by kernel_rfl, fun z hx => ?_⟩) ?_
        · have q0 := (hx.cell (p := ⟨gi, p * 3, none⟩) li).trans p0; have q1 := (hx.cell (p := ⟨gi, p * 3 + 1, none⟩) li).trans p1; have q2 := (hx.cell (p := ⟨gi, p * 3 + 2, none⟩) li).trans p2; clear hx; go_simp; first | done | rfl
        refine wpAnyH_tk 28 (some 56) (.slice (some ⟨gi, 0, none⟩) n ci) rfl rfl (by kernel_rfl) (fun _ _ _ h => h) (by assumption) (Or.inl ⟨by kernel_rfl, fun z hx => ?_⟩) ?_
        · clear hx; go_simp; first | done | rfl
        refine wpAnyH_tk 29 (some 57) (.int .i64 (id : Int)) rfl rfl (by kernel_rfl) (fun _ _ _ h => h) (by assumption) (Or.inl ⟨by kernel_rfl, fun z hx => ?_⟩) ?_
        · clear hx; go_simp; first | done | rfl
        refine wpAnyH_tk 30 (some 58) (.pointer (some ⟨gi, id * 3, none⟩)) rfl rfl (by kernel_rfl) (fun _ _ _ h => h) (by assumption) (Or.inl ⟨by kernel_rfl, fun z hx => ?_⟩) ?_
        · clear hx; go_simp; first | done | rfl
        refine wpAnyH_tk 31 (some 59) (.agg #[.int .i64 c.kind, .int .i64 c.int, .string ⟨c.text.toArray⟩]) rfl rfl (by kernel_rfl) (fun _ _ _ h => h) (by assumption) (Or.inl ⟨by kernel_rfl, fun z hx => ?_⟩) ?_
        · have q0 := (hx.cell (p := ⟨gi, id * 3, none⟩) li).trans c0; have q1 := (hx.cell (p := ⟨gi, id * 3 + 1, none⟩) li).trans c1; have q2 := (hx.cell (p := ⟨gi, id * 3 + 2, none⟩) li).trans c2; clear hx; go_simp; first | done | rfl
        refine wpAnyH_one 32 rfl (by kernel_rfl) (fun K' hK' => ?_)
        rw [if_pos (by kernel_rfl)]
        go_simp
        go_at_call 15
        refine (before_any d c _).mono ?_
        rintro e w5 ⟨rfl, hb5⟩
        have hS5 : Below wr.heap.size wr w5 := hS0.trans hb5
        clear hb5
        go_simp
        refine hK' _ _ hS5 ?_
        clear hK'
        clear hS0
        refine wpAnyH_tk 33 (some 61) (.bool false) rfl rfl (by kernel_rfl) (fun _ _ _ h => h) (by assumption) (Or.inl ⟨by kernel_rfl, fun z hx => ?_⟩) ?_
        · clear hx; go_simp; first | done | rfl | (simp; omega)
        refine wpAnyH_tk 34 (some 62) (.bool false) rfl rfl (by kernel_rfl) (fun _ _ _ h => h) (by assumption) (Or.inl ⟨by kernel_rfl, fun z hx => ?_⟩) ?_
        · clear hx; go_simp; first | done | rfl
        refine wpAnyH_tk 35 (some 63) (.bool false) rfl rfl (by kernel_rfl) (fun _ _ _ h => h) (by assumption) (Or.inl ⟨by kernel_rfl, fun z hx => ?_⟩) ?_
        · clear hx; go_simp; first | done | rfl
        refine wpAnyH_done (by kernel_rfl) ?_ _
        go_simp
        go_wp2
        go_round
        case rel => exact ⟨_, _, _, .int .i64 ((q + 1 : Nat) : Int), ⟨q + 1, rfl, by omega, Lib.hid (HB.out.trans (hS5.mono hsz))⟩, rfl, rfl, rfl, by go_num⟩
        case measure => simp only [intOf]; omega
    · have hqe : q = n := by omega
      have hqI : ¬ (q : Int) < (n : Int) := by omega
      clear hqe hq
      go_wp2
      all_goals go_ret
      exact ⟨rfl, HB.out⟩
end Go.Proofs.YtijmogehmcjopaaDoor
