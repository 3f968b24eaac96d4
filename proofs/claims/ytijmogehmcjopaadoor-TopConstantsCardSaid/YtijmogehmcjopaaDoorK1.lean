/-
  Maps in memory as functions of their keys' values: look-up, store, delete, entry. No condition beyond those that each lemma states.
-/
import Derived.Test.YtijmogehmcjopaaDoorChecked
import Derived.Test.YtijmogehmcjopaaDoorW18
import Derived.Maps.OwnSet
import Derived.Maps.AppendAt
import Derived.WideKeyEntry
import Derived.DeepKeys4
import Derived.ProofKit
import Derived.Lib.Hide
namespace Go.Proofs.YtijmogehmcjopaaDoor
open Go.RowKit Go.Maps Go.ChangeMaps Go.MapKept Ct

/-- An element as it lies there. -/
def raw (v : Value) : Option (DataW Value × List MemPlace) := some (.held v, [])
def un : DataW Value → Option Value
  | .held v => some v
  | _ => none
/-- Block b is a map of at most n entries with these elements. -/
def MapAt (k : TypeId) (w : World) (b n : Nat) (f : Value → Option Value) : Prop :=
  ∃ D, w.ownsMap Tryd.prog k raw b n D ∧ (∀ kl, D.atKey kl .nil = .nil ∨ ∃ v, D.atKey kl .nil = .held v) ∧ ∀ key kl, keyOf Tryd.prog k key = some kl → f key = un (D.atKey kl .nil)
def okKey (k : TypeId) (v : Value) : Prop := ∃ kl, keyOf Tryd.prog k v = some kl

section
variable {k t e b n : Nat} {w : World} {f f' : Value → Option Value} {key : Value}

theorem MapAt.made (w : World) (k : TypeId) : MapAt k (w.alloc (.map #[] 0)) w.heap.size 0 (fun _ => none) :=
  ⟨.map [], World.ownsMap_made _ _ _ _, fun _ => .inl rfl, fun _ _ _ => rfl⟩
theorem MapAt.mono {n' : Nat} (h : MapAt k w b n f) (hn : n ≤ n') : MapAt k w b n' f := by
  obtain ⟨D, h1, h2⟩ := h
  exact ⟨D, h1.mono hn, h2⟩
theorem MapAt.lt (h : MapAt k w b n f) : b < w.heap.size := by obtain ⟨D, h1, _⟩ := h; exact h1.lt
theorem MapAt.same {w' : World} (h : MapAt k w b n f) (e : w'.heap[b]? = w.heap[b]?) : MapAt k w' b n f := by
  obtain ⟨D, ⟨es, ck, hb, r⟩, h2⟩ := h
  exact ⟨D, ⟨es, ck, e.trans hb, r⟩, h2⟩
theorem MapAt.keeps (h : MapAt k w b n f) (hf : ∀ x, okKey k x → f' x = f x) : MapAt k w b n f' := by
  obtain ⟨D, h1, h2, h3⟩ := h
  exact ⟨D, h1, h2, fun key kl hk => (hf key ⟨kl, hk⟩).trans (h3 key kl hk)⟩
theorem held_at {D : DataW Value} {kl : Lit} {v z : Value} (h : w.ownsMap Tryd.prog k raw b n D) (hv : D.atKey kl .nil = .held v) (zd : DataW Value) : D.atKey kl zd = .held v := by
  obtain ⟨es, rfl⟩ := h.isMap
  unfold DataW.atKey at hv ⊢
  simp only at hv ⊢
  split at hv
  · exact hv
  · cases hv
theorem atKey_nil_any {D : DataW Value} {kl : Lit} (h : w.ownsMap Tryd.prog k raw b n D) (hv : D.atKey kl .nil = .nil) (hh : ∀ kl, has D kl = false → True) : (D.atKey kl .nil = .nil) := hv

/-- The look-up with 'ok', and without. -/
theorem MapAt.look (h : MapAt k w b n f) (K : Keyed Tryd.prog k) (ht : Tryd.prog.underlying t = some (.map k e)) {z : Value} (hz : (zeroValue e).run Tryd.prog w = .ok z w) (hk : okKey k key) (c : Bool) :
    (Instr.lookup t (.map (some b)) key c).run Tryd.prog w = .ok (if c then .tuple #[(f key).getD z, .bool (f key).isSome] else (f key).getD z) w := by
  obtain ⟨D, ⟨es, clock, hb, F, hs, hD⟩, h2, h3⟩ := h
  obtain ⟨kl, hkey⟩ := hk
  rw [h3 key kl hkey]
  rcases fit_look c K ht hz hb F hkey with ⟨hrun, _, hat⟩ | ⟨e0, y, _, _, hrun, hR, hat, _⟩
  · rw [hrun, hD, hat .nil]; cases c <;> rfl
  · rw [hrun, hD, hat .nil]
    simp only [raw, Option.some.injEq] at hR
    rw [← hR]; cases c <;> rfl

theorem put_fun {D : DataW Value} {kl : Lit} {val : Value} (hM : IsMap D) (K : Keyed Tryd.prog k) (hkey : keyOf Tryd.prog k key = some kl)
    (h2 : ∀ kl, D.atKey kl .nil = .nil ∨ ∃ v, D.atKey kl .nil = .held v) (h3 : ∀ key kl, keyOf Tryd.prog k key = some kl → f key = un (D.atKey kl .nil))
    (hf1 : f' key = some val) (hf2 : ∀ x, okKey k x → x ≠ key → f' x = f x) :
    (∀ kl', (D.put kl (.held val)).atKey kl' .nil = .nil ∨ ∃ v, (D.put kl (.held val)).atKey kl' .nil = .held v) ∧ ∀ key' kl', keyOf Tryd.prog k key' = some kl' → f' key' = un ((D.put kl (.held val)).atKey kl' .nil) := by
  refine ⟨fun kl' => ?_, fun key' kl' hk' => ?_⟩
  · by_cases e : kl' = kl
    · rw [e, atKey_put_same hM (K.key hkey)]; exact .inr ⟨_, rfl⟩
    · rw [atKey_put_other e]; exact h2 _
  · by_cases e : kl' = kl
    · have ek : key' = key := K.inj hk' (by rw [e]; exact hkey)
      rw [ek, e, atKey_put_same hM (K.key hkey), hf1]; rfl
    · rw [atKey_put_other e, ← h3 _ _ hk']
      exact hf2 _ ⟨_, hk'⟩ (fun ek => e (by subst ek; exact Option.some.inj (hk'.symm.trans hkey)))

/-- The store. -/
theorem MapAt.store (h : MapAt k w b n f) (K : Keyed Tryd.prog k) (ht : Tryd.prog.underlying t = some (.map k e)) (hn : n < maxLen) (hk : okKey k key) (val : Value)
    (hf1 : f' key = some val) (hf2 : ∀ x, okKey k x → x ≠ key → f' x = f x) :
    ∃ w', (Instr.mapUpdate t (.map (some b)) key val).run Tryd.prog w = .ok () w' ∧ MapAt k w' b (n + 1) f' ∧ w.grownBy w' (some b) := by
  obtain ⟨D, h1, h2, h3⟩ := h
  obtain ⟨kl, hkey⟩ := hk
  obtain ⟨w', hrun, ho, hg⟩ := h1.update (val := val) (d := .held val) (ps := []) K ht hn hkey rfl
  obtain ⟨g1, g2⟩ := put_fun (val := val) h1.isMap K hkey h2 h3 hf1 hf2
  exact ⟨w', hrun, ⟨_, ho, g1, g2⟩, hg⟩

/-- Taken out. -/
theorem MapAt.drop (h : MapAt k w b n f) (K : Keyed Tryd.prog k) (ht : Tryd.prog.underlying t = some (.map k e)) (hk : okKey k key) (ty : TypeId)
    (hf1 : f' key = none) (hf2 : ∀ x, okKey k x → x ≠ key → f' x = f x) :
    ∃ w', (Builtin.delete_ #[t, k] ty #[.map (some b), key]).run Tryd.prog w = .ok (.tuple #[]) w' ∧ MapAt k w' b n f' ∧ w.grownBy w' (some b) := by
  obtain ⟨D, h1, h2, h3⟩ := h
  obtain ⟨kl, hkey⟩ := hk
  obtain ⟨w', hrun, ho, hg⟩ := h1.drop K ht hkey ty
  refine ⟨w', hrun, ⟨_, ho, fun kl' => ?_, fun key' kl' hk' => ?_⟩, hg.grown⟩
  · by_cases e : kl' = kl
    · rw [e, atKey_del_same]; exact .inl rfl
    · rw [atKey_del_other e]; exact h2 _
  · by_cases e : kl' = kl
    · have ek : key' = key := K.inj hk' (by rw [e]; exact hkey)
      rw [ek, e, atKey_del_same, hf1]; rfl
    · rw [atKey_del_other e, ← h3 _ _ hk']
      exact hf2 _ ⟨_, hk'⟩ (fun ek => e (by subst ek; exact Option.some.inj (hk'.symm.trans hkey)))

/-- 'm[k] = append(m[k], ..)': the entry, and the store into it behind whatever does not turn the map. -/
theorem MapAt.entry (h : MapAt k w b n f) (K : WideMaps.KeyLaw Tryd.prog k) (ht : Tryd.prog.underlying t = some (.map k e)) {z : Value} (hz : ∀ u : World, (zeroValue e).run Tryd.prog u = .ok z u) (hn : n < maxLen) (hk : okKey k key) :
    ∃ (st : Nat) (w1 : World), (Instr.mapEntry t (.map (some b)) key).run Tryd.prog w = .ok (.tuple #[(f key).getD z, goInt st]) w1 ∧ w.grownBy w1 (some b) ∧ w1.heap.size = w.heap.size ∧
      ∀ (w2 : World) (val : Value) (f' : Value → Option Value), w2.heap[b]? = w1.heap[b]? → f' key = some val → (∀ x, okKey k x → x ≠ key → f' x = f x) →
        ∃ w3, (Instr.entryStore t (.map (some b)) (goInt st) val).run Tryd.prog w2 = .ok () w3 ∧ MapAt k w3 b (n + 1) f' ∧ w2.grownBy w3 (some b) := by
  have hA := h
  obtain ⟨D, ⟨es, clock, hb, F, hs, hD⟩, h2, h3⟩ := h
  have hl := hA.look (Keyed.of_law K) ht (hz w) hk false
  obtain ⟨kl, hkey⟩ := hk
  obtain ⟨v0, st, es1, ck1, hrun, hwho, hst⟩ := WideElems.entry_then_store K ht hz hb F hkey
  have hv0 : v0 = (f key).getD z := by
    rcases fit_look false (Keyed.of_law K) ht (hz w) hb F hkey with ⟨hr, hno, hat⟩ | ⟨e0, y, hm, he, hr, hR, hat, _⟩
    · rw [h3 key kl hkey, hD, hat .nil]
      rcases hwho with ⟨e0, hm, he, rfl⟩ | ⟨_, rfl⟩
      · exact absurd he (hno e0 hm)
      · rfl
    · rw [hr] at hl
      have hl2 : e0.val = (f key).getD z := by simpa using hl
      rw [← hl2]
      rcases hwho with ⟨e1, hm1, he1, rfl⟩ | ⟨hno, _⟩
      · have := ((stamped_iff es clock).1 F.stamped).2.2
        obtain ⟨i, hi, rfl⟩ := List.getElem_of_mem hm
        obtain ⟨j, hj, rfl⟩ := List.getElem_of_mem hm1
        by_cases hij : i = j
        · subst hij; rfl
        · exfalso
          rcases Nat.lt_or_gt_of_ne hij with h9 | h9
          · exact List.pairwise_iff_getElem.1 this i j hi hj h9 (he.trans he1.symm)
          · exact List.pairwise_iff_getElem.1 this j i hj hi h9 (he1.trans he.symm)
      · exact absurd he (hno e0 hm)
  have hlt : b < w.heap.size := (Array.getElem?_eq_some_iff.1 hb).1
  refine ⟨st, setBlock w b (.map es1 ck1), by rw [hrun, hv0], ⟨rfl, rfl, rfl, by simp [setBlock], fun i _ hi => heap_setBlock_other hb _ (fun e => hi (by rw [e]))⟩, by simp [setBlock], fun w2 val f' hw2 hf1 hf2 => ?_⟩
  have hw2' : w2.heap[b]? = some (.map es1 ck1) := by rw [hw2]; exact heap_setBlock_same hb _
  obtain ⟨es', ck', hr1, hr2⟩ := hst w2 val hw2'
  obtain ⟨w', hu, hM, hg⟩ := hA.store (f' := f') (Keyed.of_law K) ht hn ⟨kl, hkey⟩ val hf1 hf2
  rw [hr2] at hu
  have hw' : w' = setBlock w b (.map es' ck') := by
    have := hu
    simp only [Result.ok.injEq, true_and] at this
    exact this.symm
  refine ⟨_, hr1, hM.same ?_, ⟨rfl, rfl, rfl, by simp [setBlock], fun i _ hi => heap_setBlock_other hw2' _ (fun e => hi (by rw [e]))⟩⟩
  rw [heap_setBlock_same hw2' _, hw', heap_setBlock_same hb _]
end

/-! ### The keys -/
theorem laidOut : laidOutB Tryd.prog = true := by kernel_rfl
theorem row26 : (26 : TypeId) < Tryd.prog.types.size := of_decide_eq_true (by kernel_rfl)
theorem law26 : WideMaps.KeyLaw Tryd.prog 26 := deep_law_laid laidOut (m := 3) (by omega) row26 (by kernel_rfl) (by rw [Tryd.underlying26])
theorem InR.wf {n : Int} (h : InR n) : (Lit.int .i64 n).wf = true := by
  have h1 : IntKind.i64.min = -9223372036854775808 := rfl
  have h2 : IntKind.i64.max = 9223372036854775807 := rfl
  unfold InR at h
  simp only [Lit.wf, Bool.and_eq_true, decide_eq_true_eq]
  omega
theorem cells26 : Tryd.prog.cellsOf 26 = 3 := by kernel_rfl
theorem cells3' : Tryd.prog.cellsOf 3 = 1 := by kernel_rfl
theorem key26 : Tryd.prog.keyType 26 = true := by kernel_rfl
theorem sizes : ∃ s, Tryd.prog.types.size = s + 1 := by
  have h : (26 : Nat) < Tryd.prog.types.size := row26
  exact ⟨Tryd.prog.types.size - 1, by omega⟩
theorem cells2' : Tryd.prog.cellsOf 2 = 1 := by kernel_rfl
theorem cells9' : Tryd.prog.cellsOf 9 = 1 := by kernel_rfl
/-- What a constant in memory is: numbers of 64 bits, a text that memory can hold. -/
def InC (c : Cn) : Prop := InR c.kind ∧ InR c.int ∧ c.text.length ≤ maxLen
theorem agg_key {P : Program} {s : Nat} {x y : Int} {t : ByteArray} (hu : P.underlying 26 = some (.struct #[{ name := "Kind", type := 3, offset := 0, embedded := false, tag := "", pkgPath := "", byteOffset := 0 }, { name := "Int", type := 2, offset := 1, embedded := false, tag := "", pkgPath := "", byteOffset := 8 }, { name := "Text", type := 9, offset := 2, embedded := false, tag := "", pkgPath := "", byteOffset := 16 }]))
    (h3 : P.underlying 3 = some (.int .i64)) (h2 : P.underlying 2 = some (.int .i64)) (h9 : P.underlying 9 = some .string) (c26 : P.cellsOf 26 = 3) (c3 : P.cellsOf 3 = 1) (c2 : P.cellsOf 2 = 1) (c9 : P.cellsOf 9 = 1) (hk : P.keyType 26 = true) (hs : P.types.size = s + 1)
    (hx : (Lit.int .i64 x).wf = true) (hy : (Lit.int .i64 y).wf = true) (ht : t.size ≤ maxLen) : ∃ kl, keyOf P 26 (.agg #[.int .i64 x, .int .i64 y, .string t]) = some kl := by
  unfold keyOf
  simp [hu, h3, h2, h9, hk, Value.formed, c26, hs, Program.keyLits, Value.cells, c3, c2, c9, hx, hy, ht]
theorem ok26 {c : Cn} (h : InC c) : okKey 26 (cnV c) := by
  obtain ⟨s, hs⟩ := sizes
  exact agg_key Tryd.underlying26 Tryd.underlying3 Tryd.underlying2 Tryd.underlying9 cells26 cells3' cells2' cells9' key26 hs h.1.wf h.2.1.wf (by rw [size_mk]; exact h.2.2)
end Go.Proofs.YtijmogehmcjopaaDoor
