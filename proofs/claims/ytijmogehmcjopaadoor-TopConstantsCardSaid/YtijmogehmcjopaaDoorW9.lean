/-
  The walk of the law's signed: FormatInt's numeral. Conditions: a number's reach.
-/
import Derived.Test.YtijmogehmcjopaaDoorW8
namespace Go.Proofs.YtijmogehmcjopaaDoor
open Go.RowKit Go.Shelf Ct

set_option maxRecDepth 100000 in
set_option maxHeartbeats 3200000 in
theorem signed_any (n : Int) (w : World) (h0 : -9223372036854775808 ≤ n) (h1 : n ≤ 9223372036854775807) : Calls Tryd.prog 26 #[.int .i64 n] w fun e w' => e = .returned (.string ⟨(Lib.itoa n).toArray⟩) ∧ Below w.heap.size w w' := by
  rcases Int.lt_or_le n 0 with h | h
  · obtain ⟨u, rfl⟩ : ∃ u : Nat, n = -(u : Int) := ⟨n.natAbs, by omega⟩
    rw [Lib.itoa_neg u (by omega)]
    have hc := decimal_any u
    have hlen : ¬ 9223372036854775807 < 1 + (Lib.decDigits u).length := by
      have := dec_len 19 u (by omega)
      omega
    go_enter Tryd.func26, Tryd.ntmps26
    have HC := Lib.hid hc
    clear hc
    have he : -(-(u : Int) + 1) + 1 = (u : Int) := by omega
    have hb0 : u < 18446744073709551616 := by omega
    go_wp2_with fail
    refine (HC.out w hb0).mono ?_
    rintro e w' ⟨rfl, hb⟩
    go_wp2
    all_goals go_ret
    all_goals exact ⟨by first | rfl | (simp [ByteArray.ext_iff]), by assumption⟩
  · obtain ⟨u, rfl⟩ : ∃ u : Nat, n = (u : Int) := ⟨n.toNat, by omega⟩
    rw [Lib.itoa_nonneg]
    have hc := decimal_any u w (by omega)
    have hw : IntKind.u64.wrap (u : Int) = (u : Int) := by rw [IntKind.wrap_u64]; omega
    have HC := Lib.hid hc
    clear hc h0 h1
    go_enter Tryd.func26, Tryd.ntmps26
    go_wp2_with (go_at_call 45; refine HC.out.mono ?_; rintro e w' ⟨rfl, hb⟩)
    all_goals go_ret
    all_goals exact ⟨rfl, by assumption⟩
end Go.Proofs.YtijmogehmcjopaaDoor
