/-
  edicttop.spells is true at every token's spelling. Conditions: the spelling is at most 65536 bytes long and is that token; the variables hold what the program's text lays.
-/
import Derived.Test.YthidnjnaifcfoaaDoorW19
import Derived.Test.YthidnjnaifcfoaaDoorW20
namespace Go.Proofs.YthidnjnaifcfoaaDoor
open Go.RowKit Go.Shelf Pl

theorem L_inj {s t : ByteArray} (h : L s = L t) : s = t := by rw [of_L h, ← of_L (rfl : L t = L t)]
theorem L_nil {t : ByteArray} (h : L t = []) : t = ⟨#[]⟩ := of_L h
theorem spells_any (s tx : ByteArray) (kind op off fin B : Nat) (int : Int) (w : World) (hs : s.size ≤ 65536) (hG : Gl B w) (hok : TokOk (L s) kind op (L tx) int) :
    Calls Tryd.prog 14 #[.string s, .agg #[.int .i64 (kind : Int), .string tx, .int .i64 int, .int .i64 (op : Int), .int .i64 (off : Int), .int .i64 (fin : Int)]] w fun e w' => e = .returned (.bool true) ∧ Below w.heap.size w w' := by
  obtain ⟨l, hl⟩ : ∃ l, l = L s := ⟨_, rfl⟩
  obtain ⟨tl, htl⟩ : ∃ tl, tl = L tx := ⟨_, rfl⟩
  rw [← hl, ← htl] at hok
  have hlen : l.length = s.size := by rw [hl, L_len]
  cases hok with
  | int w' f v h1 h2 h3 h4 =>
    rw [L_nil htl.symm]
    rw [hl] at h1 h4
    exact spells_int s _ off fin w hs ⟨f, h1, h2, h3⟩ h4
  | no w' h1 =>
    rw [L_nil htl.symm, of_nats (s := s) (p := [110, 111, 116]) (by rw [← hl]; exact h1)]
    exact spells_no B off fin w hG
  | name c r h1 h2 h3 h4 =>
    have : tx = s := L_inj (by rw [← htl, ← hl])
    subst this
    have h0 : 0 < tx.size := by rw [← hlen]; simp
    have hc : tx[0] = c := by
      have h5 := L_drop h0
      rw [List.drop_zero, ← hl] at h5
      injection h5 with h6 _; exact h6.symm
    exact spells_name tx off fin w h0 (by rw [← hlen]; exact h2) (by rw [← hl]; exact h1) (by rw [← hl]; exact h3) (by rw [hc]; exact h4)
  | var c r h1 h2 h3 h4 =>
    have : tx = s := L_inj (by rw [← htl, ← hl])
    subst this
    have h0 : 0 < tx.size := by rw [← hlen]; simp
    have hc : tx[0] = c := by
      have h5 := L_drop h0
      rw [List.drop_zero, ← hl] at h5
      injection h5 with h6 _; exact h6.symm
    refine spells_var tx off fin w h0 (by rw [← hlen]; exact h2) (by rw [← hl]; exact h1) ?_ (by rw [hc]; exact h3) (by rw [hc]; exact h4)
    rw [← hl]
    intro h
    rw [List.map_cons] at h
    injection h with h5 _
    simp [isL, h5] at h3
  | text c w' t h1 h2 h3 =>
    rw [htl] at h2 h3
    rw [L_len] at h3
    exact spells_text s tx off fin w hs c w' hl.symm h1 h2 h3
  | sign w' p kind op hm hw =>
    rw [L_nil htl.symm]
    rw [hl] at hw
    simp only [signs, List.mem_cons, Prod.mk.injEq, List.not_mem_nil, or_false] at hm
    rcases hm with ⟨rfl, rfl, rfl⟩ | ⟨rfl, rfl, rfl⟩ | ⟨rfl, rfl, rfl⟩ | ⟨rfl, rfl, rfl⟩ | ⟨rfl, rfl, rfl⟩ | ⟨rfl, rfl, rfl⟩ | ⟨rfl, rfl, rfl⟩ | ⟨rfl, rfl, rfl⟩ | ⟨rfl, rfl, rfl⟩ | ⟨rfl, rfl, rfl⟩ | ⟨rfl, rfl, rfl⟩
    all_goals rw [of_nats hw]
    · exact spells_58_45 B off fin w hG
    · exact spells_33_61 B off fin w hG
    · exact spells_60_61 B off fin w hG
    · exact spells_62_61 B off fin w hG
    · exact spells_60 B off fin w hG
    · exact spells_62 B off fin w hG
    · exact spells_61 B off fin w hG
    · exact spells_40 B off fin w hG
    · exact spells_41 B off fin w hG
    · exact spells_44 B off fin w hG
    · exact spells_46 B off fin w hG
end Go.Proofs.YthidnjnaifcfoaaDoor
