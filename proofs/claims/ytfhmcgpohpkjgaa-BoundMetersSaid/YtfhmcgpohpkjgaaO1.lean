/-
  Opening of arguments: a slice of uint64 values that came in, as the walks are told of it. No condition.
-/
import Derived.Test.YtfhmcgpohpkjgaaL4
import Derived.ProofKit
import Derived.SizedLaws
import Derived.OpenShut
namespace Go.Proofs.Ytfhmcgpohpkjgaa
open Go.RowKit Plain Go.ChangeShapes Go.WideShapes Go.ChangeAt

def U64Arg (W : World) (v : Value) (l : List Nat) : Prop :=
  ReadsO W W.heap.size v l ∧ (∀ n c, v = .slice none n c → n = 0 ∧ c = 0) ∧ U64s l ∧ l.length ≤ 17592186043904

theorem Try.cells22 : Try.prog.cellsOf 22 = 1 := by kernel_rfl
theorem Try.bytes22 : Try.prog.bytesOf 22 = 8 := by kernel_rfl

theorem wf_u64 {z : Int} (h : (Lit.int .u64 z).wf = true) : 0 ≤ z ∧ z < 18446744073709551616 := by
  obtain ⟨n, rfl, hn⟩ := nat_u64 h
  omega

set_option maxRecDepth 100000 in
theorem open_u64s {H : Type} {enc : TypeId × Value → H} {W : World} {base : Nat} {v : Value} {d : DataW H} {p : List MemPlace} (hval : Value.okWide Try.prog W .any base 25 v)
    (h : DataW.Trod enc Try.prog W 0 (fun _ => true) true 25 v d p) (hsz : ∀ n ∈ d.weights Try.prog 25, n ≤ reachBytes) : ∃ l, U64Arg W v l := by
  obtain ⟨a0, len, cap, rfl⟩ := okWide_slice Try.underlying25 hval
  obtain ⟨fuel, hf⟩ := h
  rcases open_ints Try.underlying25 Try.underlying22 Try.cells22 hf with ⟨hcs, _⟩ | ⟨x, n, c, zs, hcs, _, hl, hm, hz, hx, hcell, hwz⟩
  · simp [Value.cells] at hcs
    obtain ⟨rfl, rfl, rfl⟩ := hcs
    exact ⟨[], ⟨none, 0, rfl, .inl rfl⟩, fun n c e => by simp at e; omega, fun j => by simp, by simp⟩
  · simp [Value.cells] at hcs
    obtain ⟨rfl, rfl, rfl⟩ := hcs
    simp only [Prod.mk.injEq] at hx
    have hzl : zs.length = cap := by simpa using hz
    have hw : (len + (cap - len)) * 8 ≤ reachBytes := by
      have := hsz ((len + (cap - len)) * 8) (by rw [hx.1]; simp [DataW.weights, Try.underlying25, Try.bytes22, lits, hzl]; omega)
      exact this
    have hlen : ((zs.take len).map Int.toNat).length = len := by simp; omega
    have hget : ∀ j, j < len → ((zs.take len).map Int.toNat)[j]?.getD 0 = (zs.getD j 0).toNat ∧ 0 ≤ zs.getD j 0 ∧ zs.getD j 0 < 18446744073709551616 := by
      intro j hj
      have hjz : j < zs.length := by omega
      have hwf := wf_u64 (hwz zs[j] (List.getElem_mem hjz))
      rw [List.getD_eq_getElem?_getD, List.getElem?_map, List.getElem?_take, if_pos hj, List.getElem?_eq_getElem hjz]
      exact ⟨rfl, hwf.1, hwf.2⟩
    refine ⟨(zs.take len).map Int.toNat, ⟨some x, cap, by rw [hlen], ?_⟩, fun n c e => by simp at e, ?_, ?_⟩
    · by_cases h0 : len = 0
      · left; subst h0; simp
      · right
        obtain ⟨b, off, spot⟩ := x
        have hc0 := hcell 0 (by omega)
        have hspot : spot = none := by simpa [Addr.add] using World.cell?_spot hc0
        subst hspot
        refine ⟨b, off, rfl, ?_, fun j hj => ?_⟩
        · exact World.block_lt_of_cell? W _ hc0
        · rw [hlen] at hj
          have hcj := hcell j (by omega)
          have e : (⟨b, off, none⟩ : Addr).add j = ⟨b, off + j, none⟩ := by unfold Addr.add; split <;> simp_all
          rw [e] at hcj
          obtain ⟨g1, g2, g3⟩ := hget j hj
          rw [hcj, g1]; congr 2; omega
    · intro j
      by_cases hj : j < len
      · obtain ⟨g1, g2, g3⟩ := hget j hj
        rw [g1]; omega
      · rw [List.getElem?_eq_none (by omega)]; simp
    · rw [hlen]; simp only [reachBytes] at hw; omega


theorem sums_row (v : Value) (l : List Nat) {W : World} (h : U64Arg W v l) : Calls Try.prog 5 #[v] W fun e w' => e = .returned (.bool true) ∧ Below W.heap.size W w' :=
  sums_walk l v W h.1 h.2.1 h.2.2.1 h.2.2.2

end Go.Proofs.Ytfhmcgpohpkjgaa
