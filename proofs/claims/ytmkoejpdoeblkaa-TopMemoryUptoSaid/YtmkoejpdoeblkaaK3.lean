/-
  A store in memory: its blocks told apart by what they are for. No condition beyond those that each lemma states.
-/
import Derived.Test.YtmkoejpdoeblkaaW3
namespace Go.Proofs.Ytmkoejpdoeblkaa
open Go.RowKit Pl

/-- What a block is for. -/
inductive Rl where
  | out | st | rows | undo | num | of | whr | lows | imm
  | ofv (p : Int)
  | whv (p : Int) (i : Nat) (d : Int)
deriving DecidableEq

/-- Of what there was, blocks for other things than ex stand, and what a block is for stays. -/
structure Tr (ex : Rl → Prop) (G : Nat → Rl) (w : World) (G' : Nat → Rl) (w' : World) : Prop where
  kp : Kp (fun k => ¬ ex (G k)) w w'
  agree : ∀ k, k < w.heap.size → G' k = G k
section
variable {ex ex' : Rl → Prop} {G G' G2 : Nat → Rl} {w w' w2 : World}
theorem Tr.refl (ex : Rl → Prop) (G : Nat → Rl) (w : World) : Tr ex G w G w := ⟨Kp.refl _ _, fun _ _ => rfl⟩
theorem Tr.trans (h : Tr ex G w G' w') (k : Tr ex G' w' G2 w2) : Tr ex G w G2 w2 :=
  ⟨⟨k.kp.os.trans h.kp.os, k.kp.tape.trans h.kp.tape, k.kp.output.trans h.kp.output, Nat.le_trans h.kp.size k.kp.size, fun j hj hx =>
    (k.kp.block j (Nat.lt_of_lt_of_le hj h.kp.size) (by rw [h.agree j hj]; exact hx)).trans (h.kp.block j hj hx)⟩, fun j hj => (k.agree j (Nat.lt_of_lt_of_le hj h.kp.size)).trans (h.agree j hj)⟩
theorem Tr.wide (h : Tr ex G w G' w') (he : ∀ r, ex r → ex' r) : Tr ex' G w G' w' := ⟨h.kp.sub (fun _ _ hx hy => hx (he _ hy)), h.agree⟩
theorem Tr.drewN (h : Tr ex G w G' w') (n : Nat) : Tr ex G w G' (w'.drewN n) := ⟨h.kp.drewN n, h.agree⟩
theorem Tr.drew (h : Tr ex G w G' w') : Tr ex G w G' w'.drew := ⟨h.kp.drew, h.agree⟩
theorem Tr.up (h : Below w.heap.size w w') : Tr ex G w G w' := ⟨Kp.of h, fun _ _ => rfl⟩
theorem Tr.own {ρ : Rl} {u : Value} {l : List Int} (h : Tr ex G w G' w') (ho : OwnD w (fun k => G k = ρ) u l) (hx : ¬ ex ρ) : OwnD w' (fun k => G' k = ρ) u l :=
  ⟨ownsRow_kp ho.1 h.kp (fun k hk => by rw [show G k = ρ from ho.2 k hk]; exact hx), fun k hk => (h.agree k (ho.1.lt k hk).2).trans (ho.2 k hk)⟩
theorem Tr.map {ρ : Rl} {k b n : Nat} {f : Value → Option Value} (h : Tr ex G w G' w') (ho : MapAt k w b n f) (hb : G b = ρ) (hx : ¬ ex ρ) : MapAt k w' b n f ∧ G' b = ρ :=
  ⟨ho.same (h.kp.block b ho.lt (by rw [hb]; exact hx)), by rw [h.agree b ho.lt]; exact hb⟩
theorem Tr.row {ρ : Rl} {e size n : Nat} {v : Value} {xs : List Value} (h : Tr ex G w G' w') (ho : w.ownsRow 0 e size v n xs) (ht : ∀ k, v.ownBlock = some k → G k = ρ) (hx : ¬ ex ρ) :
    w'.ownsRow 0 e size v n xs ∧ ∀ k, v.ownBlock = some k → G' k = ρ :=
  ⟨ownsRow_kp ho h.kp (fun k hk => by rw [ht k hk]; exact hx), fun k hk => by rw [h.agree k (ho.lt k hk).2]; exact ht k hk⟩
theorem Tr.cells {ρ : Rl} {b : Nat} {o : Obj} (h : Tr ex G w G' w') (ho : w.heap[b]? = some o) (hb : G b = ρ) (hx : ¬ ex ρ) : w'.heap[b]? = some o ∧ G' b = ρ := by
  have hl := (Array.getElem?_eq_some_iff.1 ho).1
  exact ⟨(h.kp.block b hl (by rw [hb]; exact hx)).trans ho, by rw [h.agree b hl]; exact hb⟩
end
/-- Block g is for r. -/
def setR (G : Nat → Rl) (g : Nat) (r : Rl) : Nat → Rl := fun k => if k = g then r else G k
theorem setR_same (G : Nat → Rl) (g : Nat) (r : Rl) : setR G g r g = r := if_pos rfl
theorem setR_other {G : Nat → Rl} {g k : Nat} {r : Rl} (h : k ≠ g) : setR G g r k = G k := if_neg h
def Out (G : Nat → Rl) (w : World) : Prop := ∀ k, w.heap.size ≤ k → G k = .out
theorem Out.up {G : Nat → Rl} {w w' : World} (h : Out G w) (hz : w.heap.size ≤ w'.heap.size) : Out G w' := fun k hk => h k (Nat.le_trans hz hk)
/-- A new block, for r. -/
theorem Tr.made {ex : Rl → Prop} {G : Nat → Rl} {w : World} (r : Rl) (o : Obj) (hO : Out G w) : Tr ex G w (setR G w.heap.size r) (w.alloc o) ∧ Out (setR G w.heap.size r) (w.alloc o) :=
  ⟨⟨Kp.of (up_alloc w o), fun k hk => setR_other (by omega)⟩, fun k hk => by
    rw [World.size_alloc] at hk
    rw [setR_other (by omega)]; exact hO k (by omega)⟩
/-- Behind an append: the old row or a new one. -/
theorem app_tr {G : Nat → Rl} {w w1 : World} {ρ : Rl} {v v' : Value} {o : Obj} (ht : ∀ k, v.ownBlock = some k → G k = ρ) (hg : (w.alloc o).grownBy w1 v.ownBlock) {e size n : Nat} {xs : List Value} (ho : w1.ownsRow 0 e size v' n xs)
    (hat : v'.ownBlock = v.ownBlock ∨ v'.ownBlock = some (w.alloc o).heap.size) (hO : Out G w) : ∃ G1, Tr (fun r => r = ρ) G w G1 w1 ∧ (∀ k, v'.ownBlock = some k → G1 k = ρ) ∧ Out G1 w1 := by
  have hsz := hg.size
  simp only [World.size_alloc] at hsz
  have hk : Kp (fun k => ¬ G k = ρ) w w1 := ⟨hg.os, hg.tape, hg.output, by omega, fun k hk hx => (hg.block k (by simp; omega) (fun e => hx (ht k e.symm))).trans (Below.heap_alloc _ _ _ hk)⟩
  rcases hat with h | h
  · exact ⟨G, ⟨hk, fun _ _ => rfl⟩, fun k hk => ht k (by rw [← h]; exact hk), hO.up (by omega)⟩
  · refine ⟨setR G (w.alloc o).heap.size ρ, ⟨hk, fun k hk => setR_other (by simp; omega)⟩, fun k hk => ?_, fun k hk => ?_⟩
    · rw [h] at hk
      obtain rfl := Option.some.inj hk
      exact setR_same _ _ _
    · have := (ho.lt _ h).2
      rw [setR_other (by omega)]
      exact hO k (by omega)

/-! ### Families of lists in a map -/
def nilS : Value := .slice none 0 0
theorem OwnD.nil (w : World) (D : Nat → Prop) : OwnD w D nilS [] := ⟨World.ownsRow_nil _ _ _ _, fun k h => by cases h⟩
structure Fam (ι : Type) where
  k : TypeId
  tag : Rl
  key : ι → Value
  role : ι → Rl
  good : ι → Prop
  ok : ∀ i, good i → okKey k (key i)
  inj : ∀ i j, key i = key j → i = j
  rinj : ∀ i j, role i = role j → i = j
  apart : ∀ i, role i ≠ tag
structure FamF {ι : Type} (F : Fam ι) (w : World) (G : Nat → Rl) (b n : Nat) (C : ι → List Int) (f : Value → Option Value) : Prop where
  map : MapAt F.k w b n f
  tagged : G b = F.tag
  vals : ∀ i, F.good i → OwnD w (fun k => G k = F.role i) ((f (F.key i)).getD nilS) (C i)
def FamP {ι : Type} (F : Fam ι) (w : World) (G : Nat → Rl) (b n : Nat) (C : ι → List Int) : Prop := ∃ f, FamF F w G b n C f
section
variable {ι : Type} {F : Fam ι} {w w' w1 w2 : World} {G G' G1 : Nat → Rl} {b n n' : Nat} {C C' : ι → List Int} {f f' : Value → Option Value} {ex : Rl → Prop}
theorem FamF.tr (h : FamF F w G b n C f) (t : Tr ex G w G' w') (h1 : ¬ ex F.tag) (h2 : ∀ i, ¬ ex (F.role i)) : FamF F w' G' b n C f := by
  obtain ⟨m1, m2⟩ := t.map h.map h.tagged h1
  exact ⟨m1, m2, fun i hi => t.own (h.vals i hi) (h2 i)⟩
theorem FamP.tr (h : FamP F w G b n C) (t : Tr ex G w G' w') (h1 : ¬ ex F.tag) (h2 : ∀ i, ¬ ex (F.role i)) : FamP F w' G' b n C := by
  obtain ⟨f, h⟩ := h
  exact ⟨f, h.tr t h1 h2⟩
theorem FamP.same (h : FamP F w G b n C) (e : ∀ i, C' i = C i) : FamP F w G b n C' := by
  obtain ⟨f, h1, h2, h3⟩ := h
  exact ⟨f, h1, h2, fun i hi => by rw [e]; exact h3 i hi⟩
theorem FamP.mono (h : FamP F w G b n C) (hn : n ≤ n') : FamP F w G b n' C := by
  obtain ⟨f, h1, h2, h3⟩ := h
  exact ⟨f, h1.mono hn, h2, h3⟩
/-- One list turns, then the map. -/
theorem FamF.step (h : FamF F w G b n C f) {i0 : ι} {v' : Value} (t : Tr (fun r => r = F.role i0) G w G1 w1) (hv : OwnD w1 (fun k => G1 k = F.role i0) v' (C' i0))
    (hM : MapAt F.k w2 b n' f') (hg : w1.grownBy w2 (some b)) (hf1 : (f' (F.key i0)).getD nilS = v') (hf2 : ∀ x, okKey F.k x → x ≠ F.key i0 → f' x = f x) (hC : ∀ i, i ≠ i0 → C' i = C i) :
    FamP F w2 G1 b n' C' ∧ Tr (fun r => r = F.role i0 ∨ r = F.tag) G w G1 w2 := by
  have hb1 : G1 b = F.tag := by rw [t.agree b h.map.lt]; exact h.tagged
  have t2 : Tr (fun r => r = F.tag) G1 w1 G1 w2 := ⟨(Kp.refl _ w1).grown hg (fun k hk hx => by obtain rfl := Option.some.inj hk; exact absurd hb1 hx), fun _ _ => rfl⟩
  refine ⟨⟨f', hM, hb1, fun i hi => ?_⟩, (t.wide (fun r hr => Or.inl hr)).trans (t2.wide (fun r hr => Or.inr hr))⟩
  by_cases e : i = i0
  · subst e
    rw [hf1]
    exact t2.own hv (F.apart i)
  · rw [hf2 _ (F.ok i hi) (fun h9 => e (F.inj _ _ h9)), hC i e]
    exact t2.own (t.own (h.vals i hi) (fun h9 => e (F.rinj _ _ h9))) (F.apart i)
end
open Classical in
noncomputable def upF (f : Value → Option Value) (x : Value) (o : Option Value) : Value → Option Value := fun y => if y = x then o else f y
theorem upF_same (f : Value → Option Value) (x : Value) (o : Option Value) : upF f x o x = o := if_pos rfl
theorem upF_other {f : Value → Option Value} {x y : Value} {o : Option Value} (h : y ≠ x) : upF f x o y = f y := if_neg h

def ofF : Fam Int where
  k := 3
  tag := .of
  key p := .int .i64 p
  role p := .ofv p
  good p := I64 p
  ok p h := ok3 h
  inj i j h := by simpa using h
  rinj i j h := by simpa using h
  apart i h := by cases h
def whF : Fam (Int × Nat × Int) where
  k := 72
  tag := .whr
  key x := .agg #[.int .i64 x.1, .int .i64 (x.2.1 : Int), .int .i64 x.2.2]
  role x := .whv x.1 x.2.1 x.2.2
  good x := I64 x.1 ∧ x.2.1 ≤ 2097152 ∧ I64 x.2.2
  ok x h := ok72 h.1 (by unfold I64; omega) h.2.2
  inj i j h := by
    obtain ⟨a, b, c⟩ := i
    obtain ⟨a', b', c'⟩ := j
    simp at h
    simp; omega
  rinj i j h := by
    obtain ⟨a, b, c⟩ := i
    obtain ⟨a', b', c'⟩ := j
    simp at h
    simp [h]
  apart i h := by cases h

/-! ### The parts of a store -/
def flat3 : List Rw → List Value → List Int → List Value
  | s :: ss, u :: vs, b :: bs => .int .i64 s.1 :: u :: .int .i64 b :: flat3 ss vs bs
  | _, _, _ => []
theorem flat3_length : ∀ (ss : List Rw) (vs : List Value) (bs : List Int), vs.length = ss.length → bs.length = ss.length → (flat3 ss vs bs).length = ss.length * 3
  | [], [], _, _, _ => rfl
  | s :: ss, u :: vs, b :: bs, h, h2 => by
    have := flat3_length ss vs bs (by simpa using h) (by simpa using h2)
    simp [flat3, this]; omega
  | _ :: _, _ :: _, [], _, h => by simp at h
  | [], _ :: _, _, h, _ => by simp at h
  | _ :: _, [], _, h, _ => by simp at h
theorem flat3_snoc : ∀ (ss : List Rw) (vs : List Value) (bs : List Int) (s : Rw) (u : Value) (b : Int), vs.length = ss.length → bs.length = ss.length → flat3 (ss ++ [s]) (vs ++ [u]) (bs ++ [b]) = flat3 ss vs bs ++ [.int .i64 s.1, u, .int .i64 b]
  | [], [], [], _, _, _, _, _ => rfl
  | [], [], _ :: _, _, _, _, _, h => by simp at h
  | t :: ss, x :: vs, y :: bs, s, u, b, h, h2 => by
    have := flat3_snoc ss vs bs s u b (by simpa using h) (by simpa using h2)
    simp [flat3, this]
  | _ :: _, _ :: _, [], _, _, _, _, h => by simp at h
  | [], _ :: _, _, _, _, _, h, _ => by simp at h
  | _ :: _, [], _, _, _, _, h, _ => by simp at h
theorem flat3_get : ∀ (ss : List Rw) (vs : List Value) (bs : List Int) (j : Nat) (s : Rw) (u : Value) (b : Int), ss[j]? = some s → vs[j]? = some u → bs[j]? = some b →
    (flat3 ss vs bs)[j * 3]? = some (.int .i64 s.1) ∧ (flat3 ss vs bs)[j * 3 + 1]? = some u ∧ (flat3 ss vs bs)[j * 3 + 2]? = some (.int .i64 b)
  | [], _, _, _, _, _, _, h, _, _ => by simp at h
  | _ :: _, [], _, _, _, _, _, _, h, _ => by simp at h
  | _ :: _, _ :: _, [], _, _, _, _, _, _, h => by simp at h
  | t :: ss, x :: vs, y :: bs, 0, s, u, b, h1, h2, h3 => by simp at h1 h2 h3; subst h1 h2 h3; exact ⟨rfl, rfl, rfl⟩
  | t :: ss, x :: vs, y :: bs, j + 1, s, u, b, h1, h2, h3 => by
    have := flat3_get ss vs bs j s u b (by simpa using h1) (by simpa using h2) (by simpa using h3)
    rw [show (j + 1) * 3 = j * 3 + 1 + 1 + 1 by omega]
    exact this
structure RowsF (w : World) (G : Nat → Rl) (rv : Value) (l : List Rw) (us : List Value) (bs : List Int) : Prop where
  ul : us.length = l.length
  bl : bs.length = l.length
  row : w.ownsRow 0 63 3 rv l.length (flat3 l us bs)
  tagged : ∀ k, rv.ownBlock = some k → G k = .rows
  ids : ∀ (j : Nat) (r : Rw) (u : Value), l[j]? = some r → us[j]? = some u → OwnD w (fun k => G k = .imm) u r.2
def RowsP (w : World) (G : Nat → Rl) (rv : Value) (l : List Rw) : Prop := ∃ us bs, RowsF w G rv l us bs
def keyC (r : Rw) : Array Value := #[.int .i64 r.1, .int .i64 (at' r.2 0), .int .i64 (at' r.2 1), .int .i64 (at' r.2 2), .int .i64 (at' r.2 3), .int .i64 (at' r.2 4), .int .i64 (at' r.2 5), .int .i64 (at' r.2 6), .int .i64 (at' r.2 7)]
def keyV (r : Rw) : Value := .agg (keyC r)
def clo (c0 c1 c2 c3 : Nat) : Value := .func (.func 30) #[] #[.pointer (some ⟨c0, 0, none⟩), .pointer (some ⟨c1, 0, none⟩), .pointer (some ⟨c2, 0, none⟩), .pointer (some ⟨c3, 0, none⟩)]
/-- What takes row j out again. -/
structure CloAt (w : World) (G : Nat → Rl) (X j : Nat) (r : Rw) (c0 c1 c2 c3 : Nat) (u : Value) : Prop where
  b0 : w.heap[c0]? = some (.cells #[.pointer (some ⟨X, 0, none⟩)] 24)
  b1 : w.heap[c1]? = some (.cells (keyC r) 58)
  b2 : w.heap[c2]? = some (.cells #[.int .i64 r.1, u] 34)
  b3 : w.heap[c3]? = some (.cells #[.int .i64 (j : Int)] 3)
  t0 : G c0 = .imm
  t1 : G c1 = .imm
  t2 : G c2 = .imm
  t3 : G c3 = .imm
  ids : OwnD w (fun k => G k = .imm) u r.2
structure UndoP (w : World) (G : Nat → Rl) (X : Nat) (uv : Value) (l : List Rw) (fs : List Value) : Prop where
  row : w.ownsRow 0 1 1 uv fs.length fs
  tagged : ∀ k, uv.ownBlock = some k → G k = .undo
  len : l.length ≤ fs.length
  clos : ∀ (j : Nat) (r : Rw), l[j]? = some r → ∃ c0 c1 c2 c3 u, fs[j]? = some (clo c0 c1 c2 c3) ∧ CloAt w G X j r c0 c1 c2 c3 u
def NumP (w : World) (G : Nat → Rl) (bn n : Nat) (A : List Int) (C : Rw → Option Nat) : Prop :=
  G bn = .num ∧ ∃ f, MapAt 58 w bn n f ∧ ∀ r, fitsB A r = true → okRow r → f (keyV r) = (C r).map fun i => .int .i64 (i : Int)
def ofQ (p : Int) (r : Rw) : Bool := decide (r.1 = p)
def whQ (x : Int × Nat × Int) (r : Rw) : Bool := decide (r.1 = x.1 ∧ r.2[x.2.1]? = some x.2.2)
structure SV where
  av : Value
  rv : Value
  uv : Value
  bn : Nat
  bo : Nat
  bw : Nat
  N : Nat
  lv : Value
def Blk (w : World) (X : Nat) (V : SV) : Prop := w.heap[X]? = some (.cells #[V.av, V.rv, V.uv, .map (some V.bn), .map (some V.bo), .map (some V.bw), .int .i64 (V.N : Int), V.lv] 53)
structure StoreAt (G : Nat → Rl) (X : Nat) (A : List Int) (l : List Rw) (fs : List Value) (V : SV) (w : World) : Prop where
  blk : Blk w X V
  tag : G X = .st
  ars : OwnD w (fun k => G k = .imm) V.av A
  rows : RowsP w G V.rv l
  undo : UndoP w G X V.uv l fs
  num : NumP w G V.bn V.N A (idx l)
  of : FamP ofF w G V.bo V.N (fun p => pick (ofQ p) l)
  whr : FamP whF w G V.bw (8 * V.N) (fun x => pick (whQ x) l)
  len : l.length ≤ V.N
  fits : ∀ r ∈ l, fitsB A r = true ∧ okRow r
  nodup : l.Nodup
  out : Out G w
  okA : okA A = true
section
variable {ex : Rl → Prop} {G G' : Nat → Rl} {w w' : World} {X j : Nat} {A : List Int} {l : List Rw} {fs us : List Value} {bs : List Int} {V : SV} {rv uv u : Value} {r : Rw} {bn n : Nat} {C : Rw → Option Nat}
theorem RowsF.tr (h : RowsF w G rv l us bs) (t : Tr ex G w G' w') (h1 : ¬ ex .rows) (h2 : ¬ ex .imm) : RowsF w' G' rv l us bs := by
  obtain ⟨r1, r2⟩ := t.row h.row h.tagged h1
  exact ⟨h.ul, h.bl, r1, r2, fun j r u hj hu => t.own (h.ids j r u hj hu) h2⟩
theorem RowsP.tr (h : RowsP w G rv l) (t : Tr ex G w G' w') (h1 : ¬ ex .rows) (h2 : ¬ ex .imm) : RowsP w' G' rv l := by
  obtain ⟨us, bs, h⟩ := h
  exact ⟨us, bs, h.tr t h1 h2⟩
theorem CloAt.tr {c0 c1 c2 c3 : Nat} (h : CloAt w G X j r c0 c1 c2 c3 u) (t : Tr ex G w G' w') (h2 : ¬ ex .imm) : CloAt w' G' X j r c0 c1 c2 c3 u := by
  obtain ⟨a0, a1⟩ := t.cells h.b0 h.t0 h2
  obtain ⟨b0, b1⟩ := t.cells h.b1 h.t1 h2
  obtain ⟨d0, d1⟩ := t.cells h.b2 h.t2 h2
  obtain ⟨e0, e1⟩ := t.cells h.b3 h.t3 h2
  exact ⟨a0, b0, d0, e0, a1, b1, d1, e1, t.own h.ids h2⟩
theorem UndoP.tr (h : UndoP w G X uv l fs) (t : Tr ex G w G' w') (h1 : ¬ ex .undo) (h2 : ¬ ex .imm) : UndoP w' G' X uv l fs := by
  obtain ⟨r1, r2⟩ := t.row h.row h.tagged h1
  refine ⟨r1, r2, h.len, fun j r hj => ?_⟩
  obtain ⟨c0, c1, c2, c3, u, e, h⟩ := h.clos j r hj
  exact ⟨c0, c1, c2, c3, u, e, h.tr t h2⟩
theorem NumP.tr (h : NumP w G bn n A C) (t : Tr ex G w G' w') (h1 : ¬ ex .num) : NumP w' G' bn n A C := by
  obtain ⟨ht, f, hm, hf⟩ := h
  obtain ⟨m1, m2⟩ := t.map hm ht h1
  exact ⟨m2, f, m1, hf⟩
theorem Blk.lt (h : Blk w X V) : X < w.heap.size := (Array.getElem?_eq_some_iff.1 h).1
theorem StoreAt.tr (h : StoreAt G X A l fs V w) (t : Tr ex G w G' w') (hx : ∀ r, r ≠ .out → r ≠ .lows → ¬ ex r) (hO : Out G' w') : StoreAt G' X A l fs V w' := by
  obtain ⟨b1, b2⟩ := t.cells h.blk h.tag (hx _ (by simp) (by simp))
  exact ⟨b1, b2, t.own h.ars (hx _ (by simp) (by simp)), h.rows.tr t (hx _ (by simp) (by simp)) (hx _ (by simp) (by simp)), h.undo.tr t (hx _ (by simp) (by simp)) (hx _ (by simp) (by simp)), h.num.tr t (hx _ (by simp) (by simp)),
    h.of.tr t (hx _ (by simp [ofF]) (by simp [ofF])) (fun i => hx _ (by simp [ofF]) (by simp [ofF])), h.whr.tr t (hx _ (by simp [whF]) (by simp [whF])) (fun i => hx _ (by simp [whF]) (by simp [whF])), h.len, h.fits, h.nodup, hO, h.okA⟩
end
end Go.Proofs.Ytmkoejpdoeblkaa
