/-
  The walk of edictlaw10.unused: a number that no variable of the pattern has; xor with a number is a renaming. Conditions: the numbers are ints, the list is within the form's own reach.
-/
import Derived.Test.YtlandkindbmbfaaW17
import Derived.Test.YtlandkindbmbfaaPlain7
namespace Go.Proofs.Ytlandkindbmbfaa
open Go.RowKit Plain

def UnusedIs (l : List Slt) (w : World) (e : Ending) (w' : World) : Prop := ∃ n : Nat, e = .returned (.int .i64 (n : Int)) ∧ ¬ (n : Int) ∈ vars l ∧ n ≤ l.length ∧ Below w.heap.size w w'

set_option maxRecDepth 100000 in
set_option maxHeartbeats 1600000 in
theorem unused_any (p : Int) (l : List Slt) (v : Value) (w : World) (hv : SlotsAt w w.heap.size v l) (hn : l.length ≤ 8796093021952) :
    Calls Try.prog 33 #[.agg #[.int .i64 p, v]] w (UnusedIs l w) := by
  obtain ⟨a, cap, rfl, ha⟩ := hv.form
  have HA := Lib.hid ha
  obtain ⟨W0, hW0⟩ : ∃ W0, W0 = w.alloc (.cells #[.int .i64 p, .slice a l.length cap] 39) := ⟨_, rfl⟩
  have HB0 := Lib.hid (show Below w.heap.size w W0 by rw [hW0]; exact up_alloc _ _)
  have HV := Lib.hid (hv.below HB0.out)
  have hk : W0.cell? ⟨w.heap.size, 1, none⟩ = some (.slice a l.length cap) := by rw [hW0]; simp
  have HVL := Lib.hid (vars_len l)
  clear hv ha
  go_enter Try.func33, Try.ntmps33
  go_wp2
  rw [← hW0]
  clear hW0
  go_loop [3] (fun k => ∃ n : Nat, k = .int .i64 (n : Int) ∧ n ≤ l.length ∧ Hid (Near (vars l) [] 0 n)) (fun k => l.length + 1 - (intOf k).toNat)
  case atStart => exact ⟨0, rfl, Nat.zero_le _, Near.start _ _⟩
  case round =>
    obtain ⟨n, rfl, hnl, hN⟩ := hrel
    go_wp2
    go_loop [4, 5] (fun o k => ∃ (old : Bool) (i : Nat), o = .bool old ∧ k = .int .i64 (i : Int) ∧ i ≤ l.length ∧ Hid (SeenV l n i old)) (fun _ k => l.length - (intOf k).toNat)
    case atStart => exact ⟨false, 0, rfl, rfl, Nat.zero_le _, SeenV.start l n⟩
    case round =>
      obtain ⟨old, i, rfl, rfl, hil, hS⟩ := hrel
      by_cases h1 : i < l.length
      · obtain ⟨g, off, rfl⟩ := HA.out (ne_of_lt_len h1)
        obtain ⟨b, m, hsi⟩ : ∃ b m, l[i]? = some (b, m) := ⟨l[i].1, l[i].2, List.getElem?_eq_getElem h1⟩
        obtain ⟨hg, c0, c1⟩ := SlotsAt.get HV.out hsi
        have hr := hS.out.round hsi
        clear hsi hS
        cases old with
        | true =>
          have HR := Lib.hid (show SeenV l n (i + 1) true by simpa using hr)
          clear hr
          go_wp2
          go_round
          case rel => exact ⟨true, i + 1, rfl, by go_num, by omega, HR.out⟩
          case measure => simp only [intOf]; omega
        | false =>
          cases b with
          | false =>
            have HR := Lib.hid (show SeenV l n (i + 1) false by simpa using hr)
            clear hr
            go_wp2
            go_round
            case rel => exact ⟨false, i + 1, rfl, by go_num, by omega, HR.out⟩
            case measure => simp only [intOf]; omega
          | true =>
            by_cases hm : m = (n : Int)
            · have hb : (m == (n : Int)) = true := by simp [hm]
              have HR := Lib.hid (show SeenV l n (i + 1) true by simpa [hm] using hr)
              clear hr hm
              go_wp2
              go_round
              case rel => exact ⟨true, i + 1, rfl, by go_num, by omega, HR.out⟩
              case measure => simp only [intOf]; omega
            · have hb : (m == (n : Int)) = false := by simpa using hm
              have HR := Lib.hid (show SeenV l n (i + 1) false by simpa [hb] using hr)
              clear hr hm
              go_wp2
              go_round
              case rel => exact ⟨false, i + 1, rfl, by go_num, by omega, HR.out⟩
              case measure => simp only [intOf]; omega
      · have e : i = l.length := by omega
        rw [e] at hS
        clear e
        cases old with
        | true =>
          have hk2 := hN.out.skip (.inl hS.out.yes)
          have hle := hk2.le
          have hvl := HVL.out
          simp only [List.length_nil] at hle
          have HK := Lib.hid hk2
          have hn1 : n + 1 ≤ l.length := by omega
          clear hk2 hle hvl hS hN
          go_wp2
          go_round
          case rel => exact ⟨n + 1, by go_num, hn1, HK.out⟩
          case measure => simp only [intOf]; omega
        | false =>
          have HR := Lib.hid hS.out.no
          clear hS hN
          go_wp2
          go_ret
          exact ⟨n, rfl, HR.out, hnl, HB0.out⟩

/-- xor by x on 64-bit ints. -/
def xr (x n : Int) : Int := bits .xor .i64 n x
theorem xr_bound (x n : Int) : Bnd (xr x n) := by
  have h : ∀ y : Int, Bnd (IntKind.i64.wrap y) := fun y => by rw [IntKind.wrap_i64]; unfold Bnd; omega
  exact h _
theorem bv_inj {a b : Int} (ha : Bnd a) (hb : Bnd b) (h : BitVec.ofInt 64 a = BitVec.ofInt 64 b) : a = b := by
  have := congrArg BitVec.toInt h
  rw [BitVec.toInt_ofInt, BitVec.toInt_ofInt] at this
  obtain ⟨a1, a2⟩ := ha
  obtain ⟨b1, b2⟩ := hb
  rw [Int.bmod_def, Int.bmod_def] at this
  omega
theorem xr_inj {x a b : Int} (ha : Bnd a) (hb : Bnd b) (h : xr x a = xr x b) : a = b := by
  have h1 : IntKind.i64.wrap (((BitVec.ofInt 64 a ^^^ BitVec.ofInt 64 x).toNat : Nat) : Int) = IntKind.i64.wrap (((BitVec.ofInt 64 b ^^^ BitVec.ofInt 64 x).toNat : Nat) : Int) := h
  have l1 := (BitVec.ofInt 64 a ^^^ BitVec.ofInt 64 x).isLt
  have l2 := (BitVec.ofInt 64 b ^^^ BitVec.ofInt 64 x).isLt
  rw [IntKind.wrap_i64, IntKind.wrap_i64] at h1
  have h2 : (BitVec.ofInt 64 a ^^^ BitVec.ofInt 64 x).toNat = (BitVec.ofInt 64 b ^^^ BitVec.ofInt 64 x).toNat := by omega
  have h3 := BitVec.eq_of_toNat_eq h2
  have h4 : BitVec.ofInt 64 a = BitVec.ofInt 64 b := by
    have := congrArg (· ^^^ BitVec.ofInt 64 x) h3
    simpa [BitVec.xor_assoc] using this
  exact bv_inj ha hb h4

end Go.Proofs.Ytlandkindbmbfaa
