/-
  The walk of ownRows: a list of rows of the call's own. Conditions: the lists within the form's own reach.
-/
import Derived.Test.YtmkoejpdoeblkaaW3
namespace Go.Proofs.Ytmkoejpdoeblkaa
open Go.RowKit Pl

theorem one_row (p : Int) (a : Option Addr) (n c : Nat) : ∀ u ∈ [Value.int .i64 p, .slice a n c], u.oneCell' = true := by
  intro u hu
  simp only [List.mem_cons, List.not_mem_nil, or_false] at hu
  rcases hu with rfl | rfl <;> rfl
def okRows (l : List Rw) : Prop := ∀ r ∈ l, okRow r
def RowsOwn (l : List Rw) (w : World) (e : Ending) (w' : World) : Prop := ∃ v, e = .returned v ∧ OwnRows w' (fun k => w.heap.size ≤ k) v l ∧ Below w.heap.size w w'

set_option maxRecDepth 100000 in
set_option maxHeartbeats 3200000 in
theorem ownRows_any (l : List Rw) (y : Value) (w : World) (hy : RowsIn w All y l) (hr : okRows l) (hl : l.length ≤ 1048576) :
    Calls Try.prog 10 #[y] w (RowsOwn l w) := by
  obtain ⟨i34, qi, q0, q1, q2⟩ := info_parts Try.info34
  obtain ⟨a, ca, rfl, hfa⟩ := hy.form
  have HX := Lib.hid hy
  have HFA := Lib.hid hfa
  have HR := Lib.hid hr
  clear hy hfa hr
  go_enter Try.func10, Try.ntmps10
  go_wp2
  go_loopw [8, 3] (fun k x wr => ∃ (i : Nat) (us : List Value) (v : Value), k = .int .i64 (i : Int) ∧ v = x ∧ i ≤ l.length ∧ Below w.heap.size w wr ∧ us.length = (l.take i).length ∧ wr.ownsRow 0 34 2 v (l.take i).length (flat (l.take i) us) ∧ (∀ k, v.ownBlock = some k → w.heap.size ≤ k) ∧
      (∀ (j : Nat) (r : Rw) (u : Value), (l.take i)[j]? = some r → us[j]? = some u → OwnD wr (fun k => w.heap.size ≤ k) u r.2)) (fun k _ _ => l.length - (intOf k).toNat)
  case atStart => exact ⟨0, [], _, rfl, rfl, Nat.zero_le _, Below.refl _ _, rfl, World.ownsRow_nil _ _ _ _, (fun k h => by cases h), fun j r u h => by simp at h⟩
  case round =>
    obtain ⟨i, us, x, rfl, rfl, hil, hnx, h1, h2, h3, h4⟩ := hrel
    have NX := Lib.hid hnx
    have H1 := Lib.hid h1
    have H2 := Lib.hid h2
    have H3 := Lib.hid h3
    have H4 := Lib.hid h4
    clear hnx h1 h2 h3 h4
    by_cases h1 : i < l.length
    · obtain ⟨g, off, rfl⟩ := HFA.out (fun e => by rw [e] at h1; simp at h1)
      obtain ⟨s, hsi⟩ : ∃ s, l[i]? = some s := ⟨l[i], List.getElem?_eq_getElem h1⟩
      obtain ⟨us', d0, d1, hus⟩ := (HX.out.below NX.out).at hsi
      have hok := HR.out s (List.mem_of_getElem? hsi)
      have htl : (l.take i).length = i := by rw [List.length_take]; omega
      have hsn : l.take (i + 1) = l.take i ++ [s] := by rw [List.take_add_one, hsi]; rfl
      obtain ⟨L, hL⟩ : ∃ L, L = l.take i := ⟨_, rfl⟩
      rw [← hL] at H1 H2 H4 htl hsn
      have HSN := Lib.hid hsn
      have HTL := Lib.hid htl
      have HUS := Lib.hid (hus.alloc (.cells #[.int .i64 s.1, us'] 34))
      obtain ⟨ua, uc, rfl, _⟩ := hus.form
      obtain ⟨sp, hsp⟩ : ∃ sp, sp = s.1 := ⟨_, rfl⟩
      obtain ⟨sl, hsl⟩ : ∃ sl, sl = s.2 := ⟨_, rfl⟩
      have hse : s = (sp, sl) := by rw [hsp, hsl]
      subst hse
      simp only at d0 d1 HUS
      clear hsp hsl hus hL hsn htl hsi
      go_wp2_with fail
      refine (ownRow_any (sp, sl) _ _ ⟨_, rfl, HUS.out.all⟩ hok.2.2).mono ?_
      rintro e w3 ⟨u', rfl, ho', hb'⟩
      obtain ⟨a', n', c', rfl⟩ := ho'.form
      have hb3 : Below wr.heap.size wr w3 := (up_alloc wr (.cells #[.int .i64 sp, .slice ua sl.length uc] 34)).trans (hb'.mono (by simp))
      have hwz : w.heap.size ≤ wr.heap.size := NX.out.size
      have hod : OwnD w3 (fun k => w.heap.size ≤ k) (.slice a' n' c') sl := OwnD.of ho' (fun k hk _ => by simp at hk; omega)
      have HOD := Lib.hid hod
      have HB3 := Lib.hid hb3
      have H23 : Hid (w3.ownsRow 0 34 2 x L.length (flat L us)) := Lib.hid (ownsRow_kp (D := All) H2.out (Kp.of hb3) (fun _ _ => trivial))
      have hLl : L.length ≤ 1048576 := by have := HTL.out; omega
      clear ho' hb' hod hb3
      go_wp2_with (at_builtin; refine wpList_append_own_at _ rfl _ _ 29 rfl 0 34 i34 (.agg #[.int .i64 0, .slice none 0 0]) 2 32 Try.underlying29 qi q0 q1 q2 rfl (by decide) x L.length (flat L us) rfl (H23.out.alloc (.cells #[.int .i64 sp, .slice a' n' c'] 34)) ⟨w3.heap.size, 0, none⟩ 1 1 [.int .i64 sp, .slice a' n' c'] rfl rfl (World.news_of_block (cs := #[.int .i64 sp, .slice a' n' c']) (t := 34) (fr := (0, 0)) (heap_alloc_new w3 _)) (one_row _ _ _ _) (by unfold maxLen; omega) (by omega) (by omega) ?_; intro v' w4 hown' hgrow hnl hat)
      have hz : wr.heap.size ≤ w3.heap.size := HB3.out.size
      have hat' : v'.ownBlock = x.ownBlock ∨ ∃ g, v'.ownBlock = some g ∧ wr.heap.size ≤ g := hat.imp id (fun e => ⟨_, e, by simp; omega⟩)
      have HNEW := Lib.hid (OwnRows.snoc (D := fun k => w.heap.size ≤ k) (r := (sp, sl)) H1.out H2.out H3.out H4.out HB3.out HOD.out hown' hgrow hat' (fun k hk => by omega))
      have HBB := Lib.hid (show Below w.heap.size w w4 from ((NX.out.trans (HB3.out.mono hwz)).alloc (by omega) _).grown hgrow (by simp; omega) (fun k hk => H3.out k hk))
      clear hown' hgrow hnl hat hat'
      go_roundw
      case rel =>
        obtain ⟨us2, g1, g2, g3, g4⟩ := HNEW.out
        rw [← HSN.out] at g1 g2 g4
        exact ⟨i + 1, us2, _, by go_num, rfl, by omega, HBB.out, g1, g2, g3, g4⟩
      case measure => simp only [intOf]; omega
    · have e : i = l.length := by omega
      subst e
      rw [List.take_length] at H1 H2 H4
      go_wp2
      go_ret
      exact ⟨_, rfl, ⟨us, H1.out, H2.out, H3.out, H4.out⟩, NX.out⟩
end Go.Proofs.Ytmkoejpdoeblkaa
