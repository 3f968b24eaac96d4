/-
  Texts of this seat, one behind the other: Shelf, K1, W1, W2, W3. Conditions: those that each of them states.
-/
import Derived.Shelf.Strings.Prefix
import Derived.Shelf.Strconv.ErrVarParseInt
import Derived.Test.YtncdjkdpoinfaaaGreatDoorProg
import Derived.Test.YtncdjkdpoinfaaaGreatDoorG1
import Derived.WalkKit
import Derived.WalkLawsBesides
import Derived.Lib.Hide
import Derived.Lib.SmallJoins
import Derived.Lib.Strings
import Derived.Laws.ResultCell
import Derived.Deep.Onto
import Derived.Deep.QuietTactic
import Derived.BigQuiet
import Derived.Deep.RegionLaw
import Derived.Deep.CutRange
import Derived.IntWalk
import Derived.Test.YtncdjkdpoinfaaaGreatDoorG3
/-
  Two contracts of the library's functions, laid at this program: the table of numbers, and a field a fact of the program. No condition.
-/
namespace Go.Proofs
open Go.Shelf
def Tryz.lays99_ren : Go.Shelf.Ren := ⟨fun | 99 => 66 | 206 => 74 | n => n, fun | 9 => 9 | 4 => 4 | 3 => 3 | n => n, fun | n => n⟩
theorem Tryz.lays99 : Go.Proofs.Lays.n99 Tryz.prog Tryz.lays99_ren := {
  mixed := by kernel_rfl
  f99 := Tryz.func66.trans (congrArg some (by kernel_rfl))
  f206 := Tryz.func74.trans (congrArg some (by kernel_rfl))
  t3 := Tryz.underlying3
  a3 := Tryz.isAgg3
  z3 := Tryz.sizeOf3
  v3 := Tryz.zeroValue3
  t4 := Tryz.underlying4
  a4 := Tryz.isAgg4
  z4 := Tryz.sizeOf4
  v4 := Tryz.zeroValue4
  t9 := Tryz.underlying9
  a9 := Tryz.isAgg9
  z9 := Tryz.sizeOf9
  v9 := Tryz.zeroValue9 }
def Tryz.laysC174_ren : Go.Shelf.Ren := ⟨fun | 174 => 70 | 247 => 75 | 245 => 76 | 287 => 78 | 279 => 79 | 280 => 80 | 281 => 81 | 282 => 82 | 321 => 83 | 322 => 84 | 316 => 85 | 171 => 87 | 205 => 86 | 243 => 88 | 246 => 89 | 283 => 90 | 284 => 91 | 285 => 92 | 286 => 93 | 129 => 95 | 317 => 94 | 318 => 96 | 319 => 97 | 320 => 98 | 337 => 99 | 338 => 100 | n => n, fun | 9 => 9 | 3 => 3 | 2 => 2 | 75 => 128 | 85 => 129 | 4 => 4 | 167 => 135 | 5 => 5 | 53 => 125 | 175 => 136 | 46 => 134 | 168 => 138 | 37 => 131 | 0 => 0 | 210 => 144 | 21 => 21 | 127 => 147 | 145 => 150 | 143 => 148 | 171 => 152 | 173 => 155 | 212 => 158 | 51 => 159 | 20 => 20 | 213 => 160 | 232 => 163 | 233 => 164 | 80 => 165 | n => n, fun | 15 => 3 | 16 => 4 | 17 => 5 | 18 => 6 | 19 => 7 | n => n⟩
theorem Tryz.laysC174 : Go.Proofs.LaysC.n174 Tryz.prog Tryz.laysC174_ren := {
  mixed := by kernel_rfl
  f129 := Tryz.func95.trans (congrArg some (by kernel_rfl))
  f171 := Tryz.func87.trans (congrArg some (by kernel_rfl))
  f174 := Tryz.func70.trans (congrArg some (by kernel_rfl))
  f205 := Tryz.func86.trans (congrArg some (by kernel_rfl))
  f243 := Tryz.func88.trans (congrArg some (by kernel_rfl))
  f245 := Tryz.func76.trans (congrArg some (by kernel_rfl))
  f246 := Tryz.func89.trans (congrArg some (by kernel_rfl))
  f247 := Tryz.func75.trans (congrArg some (by kernel_rfl))
  f279 := Tryz.func79.trans (congrArg some (by kernel_rfl))
  f280 := Tryz.func80.trans (congrArg some (by kernel_rfl))
  f281 := Tryz.func81.trans (congrArg some (by kernel_rfl))
  f282 := Tryz.func82.trans (congrArg some (by kernel_rfl))
  f283 := Tryz.func90.trans (congrArg some (by kernel_rfl))
  f284 := Tryz.func91.trans (congrArg some (by kernel_rfl))
  f285 := Tryz.func92.trans (congrArg some (by kernel_rfl))
  f286 := Tryz.func93.trans (congrArg some (by kernel_rfl))
  f287 := Tryz.func78.trans (congrArg some (by kernel_rfl))
  f316 := Tryz.func85.trans (congrArg some (by kernel_rfl))
  f317 := Tryz.func94.trans (congrArg some (by kernel_rfl))
  f318 := Tryz.func96.trans (congrArg some (by kernel_rfl))
  f319 := Tryz.func97.trans (congrArg some (by kernel_rfl))
  f320 := Tryz.func98.trans (congrArg some (by kernel_rfl))
  f321 := Tryz.func83.trans (congrArg some (by kernel_rfl))
  f322 := Tryz.func84.trans (congrArg some (by kernel_rfl))
  f337 := Tryz.func99.trans (congrArg some (by kernel_rfl))
  f338 := Tryz.func100.trans (congrArg some (by kernel_rfl))
  t0 := Tryz.underlying0
  a0 := Tryz.isAgg0
  z0 := Tryz.sizeOf0
  v0 := Tryz.zeroValue0
  t2 := Tryz.underlying2
  a2 := Tryz.isAgg2
  z2 := Tryz.sizeOf2
  v2 := Tryz.zeroValue2
  t3 := Tryz.underlying3
  a3 := Tryz.isAgg3
  z3 := Tryz.sizeOf3
  v3 := Tryz.zeroValue3
  t4 := Tryz.underlying4
  a4 := Tryz.isAgg4
  z4 := Tryz.sizeOf4
  v4 := Tryz.zeroValue4
  t5 := Tryz.underlying5
  a5 := Tryz.isAgg5
  z5 := Tryz.sizeOf5
  v5 := Tryz.zeroValue5
  t9 := Tryz.underlying9
  a9 := Tryz.isAgg9
  z9 := Tryz.sizeOf9
  v9 := Tryz.zeroValue9
  t20 := Tryz.underlying20
  a20 := Tryz.isAgg20
  z20 := Tryz.sizeOf20
  v20 := Tryz.zeroValue20
  t21 := Tryz.underlying21
  a21 := Tryz.isAgg21
  z21 := Tryz.sizeOf21
  v21 := Tryz.zeroValue21
  t37 := Tryz.underlying131
  a37 := Tryz.isAgg131
  z37 := Tryz.sizeOf131
  v37 := Tryz.zeroValue131
  t46 := Tryz.underlying134
  a46 := Tryz.isAgg134
  z46 := Tryz.sizeOf134
  v46 := Tryz.zeroValue134
  t51 := Tryz.underlying159
  a51 := Tryz.isAgg159
  z51 := Tryz.sizeOf159
  v51 := Tryz.zeroValue159
  t53 := Tryz.underlying125
  a53 := Tryz.isAgg125
  z53 := Tryz.sizeOf125
  v53 := Tryz.zeroValue125
  t75 := Tryz.underlying128
  a75 := Tryz.isAgg128
  z75 := Tryz.sizeOf128
  v75 := Tryz.zeroValue128
  t85 := Tryz.underlying129
  a85 := Tryz.isAgg129
  z85 := Tryz.sizeOf129
  v85 := Tryz.zeroValue129
  t127 := Tryz.underlying147
  a127 := Tryz.isAgg147
  z127 := Tryz.sizeOf147
  v127 := Tryz.zeroValue147
  t143 := Tryz.underlying148
  a143 := Tryz.isAgg148
  z143 := Tryz.sizeOf148
  v143 := Tryz.zeroValue148
  t145 := Tryz.underlying150
  a145 := Tryz.isAgg150
  z145 := Tryz.sizeOf150
  v145 := Tryz.zeroValue150
  t167 := Tryz.underlying135
  a167 := Tryz.isAgg135
  z167 := Tryz.sizeOf135
  v167 := Tryz.zeroValue135
  t168 := Tryz.underlying138
  a168 := Tryz.isAgg138
  z168 := Tryz.sizeOf138
  v168 := Tryz.zeroValue138
  t171 := Tryz.underlying152
  a171 := Tryz.isAgg152
  z171 := Tryz.sizeOf152
  v171 := Tryz.zeroValue152
  t173 := Tryz.underlying155
  a173 := Tryz.isAgg155
  z173 := Tryz.sizeOf155
  v173 := Tryz.zeroValue155
  t175 := Tryz.underlying136
  a175 := Tryz.isAgg136
  z175 := Tryz.sizeOf136
  v175 := Tryz.zeroValue136
  t210 := Tryz.underlying144
  a210 := Tryz.isAgg144
  z210 := Tryz.sizeOf144
  v210 := Tryz.zeroValue144
  t212 := Tryz.underlying158
  a212 := Tryz.isAgg158
  z212 := Tryz.sizeOf158
  v212 := Tryz.zeroValue158
  t213 := Tryz.underlying160
  a213 := Tryz.isAgg160
  z213 := Tryz.sizeOf160
  t232 := Tryz.underlying163
  a232 := Tryz.isAgg163
  z232 := Tryz.sizeOf163
  v232 := Tryz.zeroValue163
  t233 := Tryz.underlying164
  a233 := Tryz.isAgg164
  z233 := Tryz.sizeOf164
  v233 := Tryz.zeroValue164
  g15 := by kernel_rfl
  g16 := by kernel_rfl
  g17 := by kernel_rfl
  g18 := by kernel_rfl
  g19 := by kernel_rfl
  t80 := Tryz.underlying165
  a80 := Tryz.isAgg165
  z80 := Tryz.sizeOf165
  v80 := Tryz.zeroValue165
  i0 := by kernel_rfl
  i2 := by kernel_rfl
  i3 := by kernel_rfl
  i4 := by kernel_rfl
  i5 := by kernel_rfl
  i9 := by kernel_rfl
  i20 := by kernel_rfl
  i21 := by kernel_rfl
  i37 := by kernel_rfl
  i46 := by kernel_rfl
  i51 := by kernel_rfl
  i53 := by kernel_rfl
  i75 := by kernel_rfl
  i80 := by kernel_rfl
  i85 := by kernel_rfl
  i127 := by kernel_rfl
  i143 := by kernel_rfl
  i145 := by kernel_rfl
  i167 := by kernel_rfl
  i168 := by kernel_rfl
  i171 := by kernel_rfl
  i173 := by kernel_rfl
  i175 := by kernel_rfl
  i210 := by kernel_rfl
  i212 := by kernel_rfl
  i232 := by kernel_rfl
  i233 := by kernel_rfl
  m15 := by kernel_rfl
  m16 := by kernel_rfl
  m17 := by kernel_rfl
  m18 := by kernel_rfl
  m19 := by kernel_rfl
  c0 := by kernel_rfl
  c2 := by kernel_rfl
  c3 := by kernel_rfl
  c4 := by kernel_rfl
  c5 := by kernel_rfl
  c9 := by kernel_rfl
  c20 := by kernel_rfl
  c21 := by kernel_rfl
  c37 := by kernel_rfl
  c46 := by kernel_rfl
  c51 := by kernel_rfl
  c53 := by kernel_rfl
  c75 := by kernel_rfl
  c80 := by kernel_rfl
  c85 := by kernel_rfl
  c127 := by kernel_rfl
  c143 := by kernel_rfl
  c145 := by kernel_rfl
  c167 := by kernel_rfl
  c168 := by kernel_rfl
  c171 := by kernel_rfl
  c173 := by kernel_rfl
  c175 := by kernel_rfl
  c210 := by kernel_rfl
  c212 := by kernel_rfl
  c213 := by kernel_rfl
  c232 := by kernel_rfl
  c233 := by kernel_rfl }
end Go.Proofs
/-
  Bytes and strings in the walks: what a byte is told to be, a string's bytes by place. No condition beyond those that each lemma states.
-/
namespace Go.Proofs.YtncdjkdpoinfaaaGreatDoor
open Go.RowKit Go.Shelf Pl

theorem ret_bool {b c : Bool} (h : b = c) : Ending.returned (.bool b) = .returned (.bool c) := by rw [h]
theorem up_alloc (w : World) (o : Obj) : Below w.heap.size w (w.alloc o) := (Below.refl _ _).alloc (Nat.le_refl _) o

section
variable (c : UInt8) (w : World)
theorem isD_any : Calls Tryz.prog 60 #[.int .u8 (c.toNat : Int)] w fun e w' => e = .returned (.bool (isD c)) ∧ w = w' := by
  go_enter Tryz.func60, Tryz.ntmps60
  go_wp2
  all_goals go_ret
  all_goals refine ⟨ret_bool ?_, rfl⟩
  all_goals (rw [Bool.eq_iff_iff]; simp [isD]; try omega)
theorem isU_any : Calls Tryz.prog 71 #[.int .u8 (c.toNat : Int)] w fun e w' => e = .returned (.bool (isU c)) ∧ w = w' := by
  go_enter Tryz.func71, Tryz.ntmps71
  go_wp2
  all_goals go_ret
  all_goals refine ⟨ret_bool ?_, rfl⟩
  all_goals (rw [Bool.eq_iff_iff]; simp [isU]; try omega)
theorem isL_any : Calls Tryz.prog 72 #[.int .u8 (c.toNat : Int)] w fun e w' => e = .returned (.bool (isL c)) ∧ w = w' := by
  go_enter Tryz.func72, Tryz.ntmps72
  go_wp2
  all_goals go_ret
  all_goals refine ⟨ret_bool ?_, rfl⟩
  all_goals (rw [Bool.eq_iff_iff]; simp [isL]; try omega)
theorem isB_any : Calls Tryz.prog 68 #[.int .u8 (c.toNat : Int)] w fun e w' => e = .returned (.bool (isB c)) ∧ w = w' := by
  go_enter Tryz.func68, Tryz.ntmps68
  go_wp2
  all_goals go_ret
  all_goals refine ⟨ret_bool ?_, rfl⟩
  all_goals (rw [Bool.eq_iff_iff]; simp [isB]; try omega)
theorem digit_any : Calls Tryz.prog 43 #[.int .u8 (c.toNat : Int)] w fun e w' => e = .returned (.bool (isD c)) ∧ w = w' := by
  go_enter Tryz.func43, Tryz.ntmps43
  go_wp2
  all_goals go_ret
  all_goals refine ⟨ret_bool ?_, rfl⟩
  all_goals (rw [Bool.eq_iff_iff]; simp [isD]; try omega)
theorem wordByte_any : Calls Tryz.prog 42 #[.int .u8 (c.toNat : Int)] w fun e w' => e = .returned (.bool (isW c)) ∧ w = w' := by
  go_enter Tryz.func42, Tryz.ntmps42
  go_wp2
  all_goals go_ret
  all_goals refine ⟨ret_bool ?_, rfl⟩
  all_goals (rw [Bool.eq_iff_iff]; simp [isW, isD, isU, isL]; try omega)
theorem isW_any : Calls Tryz.prog 63 #[.int .u8 (c.toNat : Int)] w fun e w' => e = .returned (.bool (isW c)) ∧ w = w' := by
  have HW : Hid (isW c = (isD c || isU c || isL c)) := rfl
  go_enter Tryz.func63, Tryz.ntmps63
  go_wp2_with fail
  refine (isD_any c w).mono ?_
  rintro e w' ⟨rfl, rfl⟩
  cases h1 : isD c with
  | true =>
    go_wp2
    go_ret
    exact ⟨ret_bool (by rw [HW.out, h1]; rfl), rfl⟩
  | false =>
    go_wp2_with fail
    refine (isU_any c w).mono ?_
    rintro e w' ⟨rfl, rfl⟩
    cases h2 : isU c with
    | true =>
      go_wp2
      go_ret
      exact ⟨ret_bool (by rw [HW.out, h1, h2]; rfl), rfl⟩
    | false =>
      go_wp2_with fail
      refine (isL_any c w).mono ?_
      rintro e w' ⟨rfl, rfl⟩
      go_wp2
      go_ret
      exact ⟨ret_bool (by rw [HW.out, h1, h2]; rfl), rfl⟩
end
end Go.Proofs.YtncdjkdpoinfaaaGreatDoor
/-
  The walk of edicttop.skip: where a gap ends. Conditions: the text is at most 65536 bytes long.
-/
namespace Go.Proofs.YtncdjkdpoinfaaaGreatDoor
open Go.RowKit Go.Shelf Pl

def L (s : ByteArray) : List UInt8 := s.data.toList
theorem L_len (s : ByteArray) : (L s).length = s.size := Array.length_toList
theorem L_get {s : ByteArray} {i : Nat} (h : i < s.size) : (L s)[i]'(by rw [L_len]; exact h) = s[i]'h := by
  simp only [L, Array.getElem_toList]; rfl
theorem L_drop {s : ByteArray} {i : Nat} (h : i < s.size) : (L s).drop i = s[i]'h :: (L s).drop (i + 1) := by
  rw [drop_at (by rw [L_len]; exact h), L_get h]
theorem L_end (s : ByteArray) : (L s).drop s.size = [] := List.drop_eq_nil_of_le (by rw [L_len]; exact Nat.le_refl _)

def SkipIs (s : ByteArray) (T : List UInt8 ⊕ List UInt8) (e : Ending) : Prop :=
  match T with
  | .inl r => e = .returned (.tuple #[.int .i64 ((s.size - r.length : Nat) : Int), .int .i64 (-1)])
  | .inr st => e = .returned (.tuple #[.int .i64 ((s.size - st.length : Nat) : Int), .int .i64 ((s.size - st.length : Nat) : Int)])

set_option maxRecDepth 100000 in
set_option maxHeartbeats 3200000 in
theorem skip_any (s : ByteArray) (p : Nat) (w : World) (hp : p ≤ s.size) (hs : s.size ≤ 65536) : Calls Tryz.prog 40 #[.string s, .int .i64 (p : Int)] w fun e w' => SkipIs s (gap .out ((L s).drop p)) e ∧ w = w' := by
  obtain ⟨T, hT⟩ : ∃ T, T = gap .out ((L s).drop p) := ⟨_, rfl⟩
  rw [← hT]
  have HT := Lib.hid hT.symm
  clear hT
  go_enter Tryz.func40, Tryz.ntmps40
  go_wp2
  go_loop [1] (fun k => ∃ q : Nat, k = .int .i64 (q : Int) ∧ q ≤ s.size ∧ Hid (gap .out ((L s).drop q) = T)) (fun k => s.size - (intOf k).toNat)
  case atStart => exact ⟨p, rfl, hp, HT⟩
  case round =>
    obtain ⟨q, rfl, hq, HQ⟩ := hrel
    by_cases h1 : q < s.size
    · have hqI : (q : Int) < (s.size : Int) := by omega
      have hq0 : (0 : Int) ≤ (q : Int) := by omega
      have HD := Lib.hid (L_drop h1)
      obtain ⟨c, hc⟩ : ∃ c, c = s[q] := ⟨_, rfl⟩
      go_upto_region 3 with fail
      rw [← hc] at HD ⊢
      have HCQ := Lib.hid hc
      clear hc
      have hw1 : IntKind.i64.wrap ((q : Int) + 1) = (q : Int) + 1 := by rw [IntKind.wrap_i64]; omega
      by_cases b32 : c.toNat = 32
      · have e32 : ((c.toNat : Int) == 32) = true := by simp; omega
        have HN : Hid (gap .out ((L s).drop (q + 1)) = T) := by rw [← gap_blank (a := c) (by simp [isB, b32]), ← HD.out]; exact HQ.out
        clear HD
        go_wp2
        go_round
        case rel => exact ⟨q + 1, by go_num, by omega, HN⟩
        case measure => simp only [intOf]; omega
      have e32 : ((c.toNat : Int) == 32) = false := by simp; omega
      by_cases b9 : c.toNat = 9
      · have e9 : ((c.toNat : Int) == 9) = true := by simp; omega
        have HN : Hid (gap .out ((L s).drop (q + 1)) = T) := by rw [← gap_blank (a := c) (by simp [isB, b9]), ← HD.out]; exact HQ.out
        clear HD
        go_wp2
        go_round
        case rel => exact ⟨q + 1, by go_num, by omega, HN⟩
        case measure => simp only [intOf]; omega
      have e9 : ((c.toNat : Int) == 9) = false := by simp; omega
      by_cases b10 : c.toNat = 10
      · have e10 : ((c.toNat : Int) == 10) = true := by simp; omega
        have HN : Hid (gap .out ((L s).drop (q + 1)) = T) := by rw [← gap_blank (a := c) (by simp [isB, b10]), ← HD.out]; exact HQ.out
        clear HD
        go_wp2
        go_round
        case rel => exact ⟨q + 1, by go_num, by omega, HN⟩
        case measure => simp only [intOf]; omega
      have e10 : ((c.toNat : Int) == 10) = false := by simp; omega
      by_cases b13 : c.toNat = 13
      · have e13 : ((c.toNat : Int) == 13) = true := by simp; omega
        have HN : Hid (gap .out ((L s).drop (q + 1)) = T) := by rw [← gap_blank (a := c) (by simp [isB, b13]), ← HD.out]; exact HQ.out
        clear HD
        go_wp2
        go_round
        case rel => exact ⟨q + 1, by go_num, by omega, HN⟩
        case measure => simp only [intOf]; omega
      have e13 : ((c.toNat : Int) == 13) = false := by simp; omega
      by_cases b37 : c.toNat = 37
      · have e37 : ((c.toNat : Int) == 37) = true := by simp; omega
        have HN : Hid (gap .line ((L s).drop q) = T) := by
          rw [HD.out]
          rw [HD.out, gap_mark b37] at HQ
          rw [line_step (by omega)]
          exact HQ.out
        clear HD HQ
        go_wp2
        go_loop [1] (fun k => ∃ q2 : Nat, k = .int .i64 (q2 : Int) ∧ q ≤ q2 ∧ q2 ≤ s.size ∧ Hid (gap .line ((L s).drop q2) = T)) (fun k => s.size - (intOf k).toNat)
        case atStart => exact ⟨q, rfl, Nat.le_refl _, hq, HN⟩
        case round =>
          obtain ⟨q2, rfl, hqq, hq2, HQ2⟩ := hrel
          by_cases h2 : q2 < s.size
          · have h2I : (q2 : Int) < (s.size : Int) := by omega
            have h20 : (0 : Int) ≤ (q2 : Int) := by omega
            have hw2 : IntKind.i64.wrap ((q2 : Int) + 1) = (q2 : Int) + 1 := by rw [IntKind.wrap_i64]; omega
            have HD2 := Lib.hid (L_drop h2)
            by_cases b10' : s[q2].toNat = 10
            · have e10' : ((s[q2].toNat : Int) != 10) = false := by simp; omega
              have hne : q2 ≠ q := fun e => by
                subst e
                have := HCQ.out
                rw [← this] at b10'
                omega
              have HN2 : Hid (gap .out ((L s).drop q2) = T) := by rw [HD2.out, ← line_stop b10', ← HD2.out]; exact HQ2.out
              clear HD2
              go_wp2
              go_round
              case rel => exact ⟨q2, by first | rfl | go_num, by omega, HN2⟩
              case measure => simp only [intOf]; omega
            · have e10' : ((s[q2].toNat : Int) != 10) = true := by simp; omega
              have HN2 : Hid (gap .line ((L s).drop (q2 + 1)) = T) := by rw [← line_step b10', ← HD2.out]; exact HQ2.out
              clear HD2
              go_wp2
              go_round
              case rel => exact ⟨q2 + 1, by go_num, by omega, by omega, HN2⟩
              case measure => simp only [intOf]; omega
          · have e : q2 = s.size := by omega
            have HN2 : Hid (gap .out ((L s).drop q2) = T) := by
              have h5 := HQ2.out
              rw [e, L_end] at h5 ⊢
              rw [← line_end]; exact h5
            go_wp2
            go_round
            case rel => exact ⟨q2, by first | rfl | go_num, by omega, HN2⟩
            case measure => simp only [intOf]; omega
      have e37 : ((c.toNat : Int) == 37) = false := by simp; omega
      by_cases b47 : c.toNat = 47 ∧ hdP (fun c => decide (c.toNat = 42)) ((L s).drop (q + 1)) = true
      · have h3 : q + 1 < s.size := by
          rcases Nat.lt_or_ge (q + 1) s.size with h5 | h5
          · exact h5
          · have h6 := b47.2
            rw [hdP_end (by rw [L_len]; exact h5)] at h6; cases h6
        have b42 : s[q + 1].toNat = 42 := by
          have h6 := b47.2
          rw [L_drop h3] at h6
          exact of_decide_eq_true h6
        have e47 : ((c.toNat : Int) != 47) = false := by simp; omega
        have e42 : ((s[q + 1].toNat : Int) != 42) = false := by simp; omega
        have h3I : (q : Int) + 1 < (s.size : Int) := by omega
        have h30 : (0 : Int) ≤ (q : Int) + 1 := by omega
        have hge : decide ((s.size : Int) ≤ (q : Int) + 1) = false := decide_eq_false (by omega)
        have hw2 : IntKind.i64.wrap ((q : Int) + 2) = (q : Int) + 2 := by rw [IntKind.wrap_i64]; omega
        have HN : Hid (gap (.block 1 ((L s).drop q)) ((L s).drop (q + 2)) = T) := by
          have h5 := HQ.out
          rw [HD.out, L_drop h3, gap_open b47.1 b42] at h5
          rw [HD.out, L_drop h3]; exact h5
        have hl0 : ((L s).drop q).length = s.size - q := by rw [List.length_drop, L_len]
        have HL0 := Lib.hid hl0
        clear b47 b42 HD HQ hl0
        go_wp2
        go_loop [1, 8] (fun k d => ∃ (q2 n : Nat), k = .int .i64 (q2 : Int) ∧ d = .int .i64 (n : Int) ∧ q < q2 ∧ q2 ≤ s.size ∧ n ≤ q2 ∧ Hid ((0 < n ∧ gap (.block n ((L s).drop q)) ((L s).drop q2) = T) ∨ (n = 0 ∧ gap .out ((L s).drop q2) = T))) (fun k _ => s.size - (intOf k).toNat)
        case atStart => exact ⟨q + 2, 1, by go_num, rfl, by omega, by omega, by omega, .inl ⟨by omega, HN⟩⟩
        case round =>
          obtain ⟨q2, n, rfl, rfl, hqq, hq2, hn2, HQ2⟩ := hrel
          by_cases hn : 0 < n
          · have hnI : decide ((n : Int) > 0) = true := decide_eq_true (by omega)
            have hx : gap (.block n ((L s).drop q)) ((L s).drop q2) = T := by
              rcases HQ2.out with h5 | h5
              · exact h5.2
              · omega
            have HX := Lib.hid hx
            have hw3 : IntKind.i64.wrap ((q2 : Int) + 1) = (q2 : Int) + 1 := by rw [IntKind.wrap_i64]; omega
            have hw4 : IntKind.i64.wrap ((q2 : Int) + 2) = (q2 : Int) + 2 := by rw [IntKind.wrap_i64]; omega
            have hw5 : IntKind.i64.wrap ((n : Int) + 1) = (n : Int) + 1 := by rw [IntKind.wrap_i64]; omega
            have hw6 : IntKind.i64.wrap ((n : Int) - 1) = (n : Int) - 1 := by rw [IntKind.wrap_i64]; omega
            clear hx HQ2
            by_cases h5 : q2 + 1 < s.size
            · have hgd : decide ((q2 : Int) + 1 ≥ (s.size : Int)) = false := decide_eq_false (by omega)
              have k0 : (q2 : Int) < (s.size : Int) := by omega
              have k1 : (0 : Int) ≤ (q2 : Int) := by omega
              have k2 : (q2 : Int) + 1 < (s.size : Int) := by omega
              have k3 : (0 : Int) ≤ (q2 : Int) + 1 := by omega
              have HD2 := Lib.hid (show (L s).drop q2 = s[q2] :: s[q2 + 1] :: (L s).drop (q2 + 2) by rw [L_drop (by omega), L_drop h5])
              by_cases x47 : s[q2].toNat = 47
              · have e1 : ((s[q2].toNat : Int) == 47) = true := by simp; omega
                have e2 : ((s[q2].toNat : Int) == 42) = false := by simp; omega
                by_cases y42 : s[q2 + 1].toNat = 42
                · have e3 : ((s[q2 + 1].toNat : Int) == 42) = true := by simp; omega
                  have HN3 : Hid (gap (.block (n + 1) ((L s).drop q)) ((L s).drop (q2 + 2)) = T) := by
                    have h6 := HX.out
                    rw [HD2.out, block_up x47 y42] at h6
                    exact h6
                  clear HD2
                  go_wp2
                  go_round
                  case rel => exact ⟨q2 + 2, n + 1, by go_num, by go_num, by omega, by omega, by omega, .inl ⟨by omega, HN3⟩⟩
                  case measure => simp only [intOf]; omega
                · have e3 : ((s[q2 + 1].toNat : Int) == 42) = false := by simp; omega
                  have HN3 : Hid (gap (.block n ((L s).drop q)) ((L s).drop (q2 + 1)) = T) := by
                    have h6 := HX.out
                    rw [HD2.out, block_step (by omega) (by omega)] at h6
                    rw [L_drop h5]; exact h6
                  clear HD2
                  go_wp2
                  go_round
                  case rel => exact ⟨q2 + 1, n, by go_num, rfl, by omega, by omega, by omega, .inl ⟨hn, HN3⟩⟩
                  case measure => simp only [intOf]; omega
              · have e1 : ((s[q2].toNat : Int) == 47) = false := by simp; omega
                by_cases x42 : s[q2].toNat = 42
                · have e2 : ((s[q2].toNat : Int) == 42) = true := by simp; omega
                  by_cases y47 : s[q2 + 1].toNat = 47
                  · have e3 : ((s[q2 + 1].toNat : Int) == 47) = true := by simp; omega
                    have HN3 : Hid ((0 < n - 1 ∧ gap (.block (n - 1) ((L s).drop q)) ((L s).drop (q2 + 2)) = T) ∨ (n - 1 = 0 ∧ gap .out ((L s).drop (q2 + 2)) = T)) := by
                      have h6 := HX.out
                      rw [HD2.out, block_down x42 y47] at h6
                      by_cases h7 : n = 1
                      · rw [if_pos h7] at h6; exact .inr ⟨by omega, h6⟩
                      · rw [if_neg h7] at h6; exact .inl ⟨by omega, h6⟩
                    have hn1 : (n : Int) - 1 = ((n - 1 : Nat) : Int) := by omega
                    clear HD2
                    go_wp2
                    go_round
                    case rel => exact ⟨q2 + 2, n - 1, by go_num, by first | (rw [← hn1]) | (rw [hw6, hn1]) | (simp only [hw6, hn1]), by omega, by omega, by omega, HN3⟩
                    case measure => simp only [intOf]; omega
                  · have e3 : ((s[q2 + 1].toNat : Int) == 47) = false := by simp; omega
                    have HN3 : Hid (gap (.block n ((L s).drop q)) ((L s).drop (q2 + 1)) = T) := by
                      have h6 := HX.out
                      rw [HD2.out, block_step (by omega) (by omega)] at h6
                      rw [L_drop h5]; exact h6
                    clear HD2
                    go_wp2
                    go_round
                    case rel => exact ⟨q2 + 1, n, by go_num, rfl, by omega, by omega, by omega, .inl ⟨hn, HN3⟩⟩
                    case measure => simp only [intOf]; omega
                · have e2 : ((s[q2].toNat : Int) == 42) = false := by simp; omega
                  have HN3 : Hid (gap (.block n ((L s).drop q)) ((L s).drop (q2 + 1)) = T) := by
                    have h6 := HX.out
                    rw [HD2.out, block_step (by omega) (by omega)] at h6
                    rw [L_drop h5]; exact h6
                  clear HD2
                  go_wp2
                  go_round
                  case rel => exact ⟨q2 + 1, n, by go_num, rfl, by omega, by omega, by omega, .inl ⟨hn, HN3⟩⟩
                  case measure => simp only [intOf]; omega
            · have hgd : decide ((q2 : Int) + 1 ≥ (s.size : Int)) = true := decide_eq_true (by omega)
              have hfin : Hid (SkipIs s T (.returned (.tuple #[.int .i64 (q : Int), .int .i64 (q : Int)]))) := by
                have h6 := HX.out
                rw [block_short _ _ _ (by rw [List.length_drop, L_len]; omega)] at h6
                unfold Hid SkipIs
                rw [← h6]
                simp only
                rw [HL0.out, show s.size - (s.size - q) = q by omega]
              go_wp2
              go_ret2
              exact ⟨hfin.out, rfl⟩
          · have hnI : decide ((n : Int) > 0) = false := decide_eq_false (by omega)
            have HN2 : Hid (gap .out ((L s).drop q2) = T) := by
              rcases HQ2.out with h5 | h5
              · omega
              · exact h5.2
            go_wp2
            go_round
            case rel => exact ⟨q2, by first | rfl | go_num, by omega, HN2⟩
            case measure => simp only [intOf]; omega
      · have HN : Hid (T = .inl ((L s).drop q)) := by
          rw [← HQ.out, HD.out]
          exact gap_stop (by simp [isB]; omega) b37 b47
        have hfin : Hid (SkipIs s T (.returned (.tuple #[.int .i64 (q : Int), .int .i64 (-1)]))) := by
          unfold Hid SkipIs
          rw [HN.out]
          simp only [List.length_drop, L_len]
          rw [show s.size - (s.size - q) = q by omega]
        by_cases b47' : c.toNat = 47
        · have e47 : ((c.toNat : Int) != 47) = false := by simp; omega
          by_cases h3 : q + 1 < s.size
          · have h4 : s[q + 1].toNat ≠ 42 := fun e => b47 ⟨b47', by rw [L_drop h3]; exact decide_eq_true e⟩
            have e42 : ((s[q + 1].toNat : Int) != 42) = true := by simp; omega
            have h3I : (q : Int) + 1 < (s.size : Int) := by omega
            have h30 : (0 : Int) ≤ (q : Int) + 1 := by omega
            have hge : decide ((s.size : Int) ≤ (q : Int) + 1) = false := decide_eq_false (by omega)
            clear b47 HD
            go_wp2
            go_ret2
            exact ⟨hfin.out, rfl⟩
          · have hge : decide ((s.size : Int) ≤ (q : Int) + 1) = true := decide_eq_true (by omega)
            clear b47 HD
            go_wp2
            go_ret2
            exact ⟨hfin.out, rfl⟩
        · have e47 : ((c.toNat : Int) != 47) = true := by simp; omega
          clear b47 HD
          go_wp2
          go_ret2
          exact ⟨hfin.out, rfl⟩
    · have e : q = s.size := by omega
      have hfin : Hid (SkipIs s T (.returned (.tuple #[.int .i64 (q : Int), .int .i64 (-1)]))) := by
        have h5 := HQ.out
        rw [e, L_end, gap_end] at h5
        unfold Hid SkipIs
        rw [← h5]
        simp only [List.length_nil, Nat.sub_zero, e]
      clear e
      go_wp2
      go_ret2
      exact ⟨hfin.out, rfl⟩
end Go.Proofs.YtncdjkdpoinfaaaGreatDoor
/-
  The walks of edicttop.hexValue, edicttop.escape and lex.hex. Conditions: the text is at most 65536 bytes long; the place lies in it.
-/
namespace Go.Proofs.YtncdjkdpoinfaaaGreatDoor
open Go.RowKit Go.Shelf Pl

def hexI (c : UInt8) : Int := if hexV c < 16 then (hexV c : Int) else -1
theorem ret_i64 {a b : Int} (h : a = b) : Ending.returned (.int .i64 a) = .returned (.int .i64 b) := by rw [h]
theorem hexI_d {c : UInt8} (h : 48 ≤ c.toNat ∧ c.toNat ≤ 57) : hexI c = (c.toNat : Int) - 48 := by
  have : hexV c = c.toNat - 48 := by unfold hexV; rw [if_pos h]
  unfold hexI; rw [this, if_pos (by omega)]; omega
theorem hexI_l {c : UInt8} (h : 97 ≤ c.toNat ∧ c.toNat ≤ 102) : hexI c = (c.toNat : Int) - 97 + 10 := by
  have : hexV c = c.toNat - 97 + 10 := by unfold hexV; rw [if_neg (by omega), if_pos h]
  unfold hexI; rw [this, if_pos (by omega)]; omega
theorem hexI_u {c : UInt8} (h : 65 ≤ c.toNat ∧ c.toNat ≤ 70) : hexI c = (c.toNat : Int) - 65 + 10 := by
  have : hexV c = c.toNat - 65 + 10 := by unfold hexV; rw [if_neg (by omega), if_neg (by omega), if_pos h]
  unfold hexI; rw [this, if_pos (by omega)]; omega
theorem hexI_no {c : UInt8} (h1 : ¬ (48 ≤ c.toNat ∧ c.toNat ≤ 57)) (h2 : ¬ (97 ≤ c.toNat ∧ c.toNat ≤ 102)) (h3 : ¬ (65 ≤ c.toNat ∧ c.toNat ≤ 70)) : hexI c = -1 := by
  have : hexV c = 16 := by unfold hexV; rw [if_neg h1, if_neg h2, if_neg h3]
  unfold hexI; rw [this, if_neg (by omega)]

theorem hexValue_any (c : UInt8) (w : World) : Calls Tryz.prog 67 #[.int .u8 (c.toNat : Int)] w fun e w' => e = .returned (.int .i64 (hexI c)) ∧ w = w' := by
  have hc : c.toNat < 256 := c.toNat_lt
  obtain ⟨T, hT⟩ : ∃ T, T = hexI c := ⟨_, rfl⟩
  rw [← hT]
  have HT := Lib.hid hT
  clear hT
  go_enter Tryz.func67, Tryz.ntmps67
  by_cases h1 : 48 ≤ c.toNat ∧ c.toNat ≤ 57
  · have k1 : decide ((c.toNat : Int) ≥ 48) = true := decide_eq_true (by omega)
    have k2 : decide ((c.toNat : Int) ≤ 57) = true := decide_eq_true (by omega)
    have k3 : IntKind.u8.wrap ((c.toNat : Int) - 48) = (c.toNat : Int) - 48 := by rw [IntKind.wrap_u8]; omega
    have k4 : IntKind.i64.wrap ((c.toNat : Int) - 48) = (c.toNat : Int) - 48 := by rw [IntKind.wrap_i64]; omega
    have hf : Hid ((c.toNat : Int) - 48 = T) := by rw [HT.out]; exact (hexI_d h1).symm
    clear HT
    go_wp2
    go_ret
    exact ⟨ret_i64 hf.out, rfl⟩
  have g1 : (decide ((c.toNat : Int) ≥ 48) && decide ((c.toNat : Int) ≤ 57)) = false := by rw [Bool.and_eq_false_iff]; simp; omega
  by_cases h2 : 97 ≤ c.toNat ∧ c.toNat ≤ 102
  · have k1 : decide ((c.toNat : Int) ≥ 97) = true := decide_eq_true (by omega)
    have k0 : decide ((c.toNat : Int) ≥ 48) = true := decide_eq_true (by omega)
    have k00 : decide ((c.toNat : Int) ≤ 57) = false := decide_eq_false (by omega)
    have k2 : decide ((c.toNat : Int) ≤ 102) = true := decide_eq_true (by omega)
    have k3 : IntKind.u8.wrap ((c.toNat : Int) - 97) = (c.toNat : Int) - 97 := by rw [IntKind.wrap_u8]; omega
    have k4 : IntKind.i64.wrap ((c.toNat : Int) - 97) = (c.toNat : Int) - 97 := by rw [IntKind.wrap_i64]; omega
    have k5 : IntKind.i64.wrap ((c.toNat : Int) - 97 + 10) = (c.toNat : Int) - 97 + 10 := by rw [IntKind.wrap_i64]; omega
    have hf : Hid ((c.toNat : Int) - 97 + 10 = T) := by rw [HT.out]; exact (hexI_l h2).symm
    clear HT
    go_wp2
    go_ret
    exact ⟨ret_i64 hf.out, rfl⟩
  by_cases h3 : 65 ≤ c.toNat ∧ c.toNat ≤ 70
  · have k1 : decide ((c.toNat : Int) ≥ 97) = false := decide_eq_false (by omega)
    have k0 : decide ((c.toNat : Int) ≥ 48) = true := decide_eq_true (by omega)
    have k00 : decide ((c.toNat : Int) ≤ 57) = false := decide_eq_false (by omega)
    have k2 : decide ((c.toNat : Int) ≥ 65) = true := decide_eq_true (by omega)
    have k22 : decide ((c.toNat : Int) ≤ 70) = true := decide_eq_true (by omega)
    have k3 : IntKind.u8.wrap ((c.toNat : Int) - 65) = (c.toNat : Int) - 65 := by rw [IntKind.wrap_u8]; omega
    have k4 : IntKind.i64.wrap ((c.toNat : Int) - 65) = (c.toNat : Int) - 65 := by rw [IntKind.wrap_i64]; omega
    have k5 : IntKind.i64.wrap ((c.toNat : Int) - 65 + 10) = (c.toNat : Int) - 65 + 10 := by rw [IntKind.wrap_i64]; omega
    have hf : Hid ((c.toNat : Int) - 65 + 10 = T) := by rw [HT.out]; exact (hexI_u h3).symm
    clear HT
    go_wp2
    go_ret
    exact ⟨ret_i64 hf.out, rfl⟩
  have hf : Hid (-1 = T) := by rw [HT.out]; exact (hexI_no h1 h2 h3).symm
  have g2 : (decide ((c.toNat : Int) ≥ 97) && decide ((c.toNat : Int) ≤ 102)) = false := by rw [Bool.and_eq_false_iff]; simp; omega
  have g3 : (decide ((c.toNat : Int) ≥ 65) && decide ((c.toNat : Int) ≤ 70)) = false := by rw [Bool.and_eq_false_iff]; simp; omega
  clear HT
  go_wp2
  all_goals go_ret
  all_goals exact ⟨ret_i64 hf.out, rfl⟩

theorem hex_any (c : UInt8) (w : World) : Calls Tryz.prog 77 #[.int .u8 (c.toNat : Int)] w fun e w' => e = .returned (.int .i64 (hexI c)) ∧ w = w' := by
  have hc : c.toNat < 256 := c.toNat_lt
  obtain ⟨T, hT⟩ : ∃ T, T = hexI c := ⟨_, rfl⟩
  rw [← hT]
  have HT := Lib.hid hT
  clear hT
  go_enter Tryz.func77, Tryz.ntmps77
  by_cases h1 : 48 ≤ c.toNat ∧ c.toNat ≤ 57
  · have k3 : IntKind.u8.wrap ((c.toNat : Int) - 48) = (c.toNat : Int) - 48 := by rw [IntKind.wrap_u8]; omega
    have k4 : IntKind.i64.wrap ((c.toNat : Int) - 48) = (c.toNat : Int) - 48 := by rw [IntKind.wrap_i64]; omega
    have hf : Hid ((c.toNat : Int) - 48 = T) := by rw [HT.out]; exact (hexI_d h1).symm
    have hd : isD c = true := by simp [isD]; omega
    clear HT
    go_wp2_with fail
    refine (isD_any c w).mono ?_
    rintro e w' ⟨rfl, rfl⟩
    rw [hd]
    go_wp2
    go_ret
    exact ⟨ret_i64 hf.out, rfl⟩
  have hd : isD c = false := by simp [isD]; omega
  by_cases h2 : 97 ≤ c.toNat ∧ c.toNat ≤ 102
  · have k1 : decide (97 ≤ (c.toNat : Int)) = true := decide_eq_true (by omega)
    have k2 : decide ((c.toNat : Int) ≤ 102) = true := decide_eq_true (by omega)
    have k3 : IntKind.u8.wrap ((c.toNat : Int) - 97) = (c.toNat : Int) - 97 := by rw [IntKind.wrap_u8]; omega
    have k4 : IntKind.i64.wrap ((c.toNat : Int) - 97) = (c.toNat : Int) - 97 := by rw [IntKind.wrap_i64]; omega
    have k5 : IntKind.i64.wrap ((c.toNat : Int) - 97 + 10) = (c.toNat : Int) - 97 + 10 := by rw [IntKind.wrap_i64]; omega
    have hf : Hid ((c.toNat : Int) - 97 + 10 = T) := by rw [HT.out]; exact (hexI_l h2).symm
    clear HT
    go_wp2_with fail
    refine (isD_any c w).mono ?_
    rintro e w' ⟨rfl, rfl⟩
    rw [hd]
    go_wp2
    go_ret
    exact ⟨ret_i64 hf.out, rfl⟩
  by_cases h3 : 65 ≤ c.toNat ∧ c.toNat ≤ 70
  · have k1 : decide (97 ≤ (c.toNat : Int)) = false := decide_eq_false (by omega)
    have k2 : decide (65 ≤ (c.toNat : Int)) = true := decide_eq_true (by omega)
    have k22 : decide ((c.toNat : Int) ≤ 70) = true := decide_eq_true (by omega)
    have k3 : IntKind.u8.wrap ((c.toNat : Int) - 65) = (c.toNat : Int) - 65 := by rw [IntKind.wrap_u8]; omega
    have k4 : IntKind.i64.wrap ((c.toNat : Int) - 65) = (c.toNat : Int) - 65 := by rw [IntKind.wrap_i64]; omega
    have k5 : IntKind.i64.wrap ((c.toNat : Int) - 65 + 10) = (c.toNat : Int) - 65 + 10 := by rw [IntKind.wrap_i64]; omega
    have hf : Hid ((c.toNat : Int) - 65 + 10 = T) := by rw [HT.out]; exact (hexI_u h3).symm
    clear HT
    go_wp2_with fail
    refine (isD_any c w).mono ?_
    rintro e w' ⟨rfl, rfl⟩
    rw [hd]
    go_wp2
    go_ret
    exact ⟨ret_i64 hf.out, rfl⟩
  have hf : Hid (-1 = T) := by rw [HT.out]; exact (hexI_no h1 h2 h3).symm
  clear HT
  go_wp2_with fail
  refine (isD_any c w).mono ?_
  rintro e w' ⟨rfl, rfl⟩
  rw [hd]
  go_wp2
  all_goals go_ret
  all_goals first | exact ⟨ret_i64 hf.out, rfl⟩ | omega

/-- What an escape answers. -/
def EscIs (E : Option (UInt8 × Nat)) (e : Ending) : Prop :=
  match E with
  | none => e = .returned (.tuple #[.int .u8 0, .int .i64 0])
  | some (c, n) => e = .returned (.tuple #[.int .u8 (c.toNat : Int), .int .i64 (n : Int)])
theorem hexV_le (c : UInt8) : hexV c ≤ 16 := by
  unfold hexV
  repeat' split
  all_goals omega
theorem hexI_ge {c : UInt8} : decide (hexI c ≥ 0) = decide (hexV c < 16) := by
  unfold hexI
  split <;> simp <;> omega

theorem ofNat_back {n : Nat} (h : n < 256) : (UInt8.ofNat n).toNat = n := by
  simp only [UInt8.toNat_ofNat']
  omega
theorem hexValue_same (c : UInt8) (w : World) : Calls Tryz.prog 67 #[.int .u8 (c.toNat : Int)] w fun e w' => e = .returned (.int .i64 (hexI c)) ∧ w' = w :=
  (hexValue_any c w).mono fun _ _ h => ⟨h.1, h.2.symm⟩

set_option maxRecDepth 100000 in
set_option maxHeartbeats 3200000 in
theorem escape_any (s : ByteArray) (q : Nat) (w : World) (hq : q < s.size) (hs : s.size ≤ 65536) : Calls Tryz.prog 56 #[.string s, .int .i64 (q : Int)] w fun e w' => EscIs (esc ((L s).drop q)) e ∧ ∃ m, w' = w.drewN m := by
  obtain ⟨T, hT⟩ : ∃ T, T = esc ((L s).drop q) := ⟨_, rfl⟩
  rw [← hT]
  rw [L_drop hq] at hT
  have hw1 : IntKind.i64.wrap ((q : Int) + 1) = (q : Int) + 1 := by rw [IntKind.wrap_i64]; omega
  by_cases h1 : q + 1 < s.size
  · have k0 : decide ((q : Int) + 1 ≥ (s.size : Int)) = false := decide_eq_false (by omega)
    have k1 : (0 : Int) ≤ (q : Int) + 1 := by omega
    have k2 : (q : Int) + 1 < (s.size : Int) := by omega
    rw [L_drop h1] at hT
    obtain ⟨b, hb⟩ : ∃ b, b = s[q + 1] := ⟨_, rfl⟩
    rw [← hb] at hT
    have HB := Lib.hid hb
    have HT := Lib.hid hT
    clear hT hb
    go_enter Tryz.func56, Tryz.ntmps56
    go_upto_region 4 with fail
    rw [← HB.out]
    by_cases b34 : b.toNat = 34
    · have e34 : ((b.toNat : Int) == 34) = true := by simp; omega
      have hf : Hid (T = some (b, 2)) := Lib.hid (by rw [HT.out]; simp [esc, b34])
      clear HT
      go_wp2
      go_ret2
      exact ⟨by rw [hf.out, HB.out]; rfl, 0, rfl⟩
    have e34 : ((b.toNat : Int) == 34) = false := by simp; omega
    by_cases b92 : b.toNat = 92
    · have e92 : ((b.toNat : Int) == 92) = true := by simp; omega
      have hf : Hid (T = some (b, 2)) := Lib.hid (by rw [HT.out]; simp [esc, b92])
      clear HT
      go_wp2
      go_ret2
      exact ⟨by rw [hf.out, HB.out]; rfl, 0, rfl⟩
    have e92 : ((b.toNat : Int) == 92) = false := by simp; omega
    by_cases b110 : b.toNat = 110
    · have e110 : ((b.toNat : Int) == 110) = true := by simp; omega
      have hf : Hid (T = some (10, 2)) := Lib.hid (by rw [HT.out]; simp [esc, b110])
      clear HT
      go_wp2
      go_ret2
      exact ⟨by rw [hf.out]; rfl, 0, rfl⟩
    have e110 : ((b.toNat : Int) == 110) = false := by simp; omega
    by_cases b116 : b.toNat = 116
    · have e116 : ((b.toNat : Int) == 116) = true := by simp; omega
      have hf : Hid (T = some (9, 2)) := Lib.hid (by rw [HT.out]; simp [esc, b116])
      clear HT
      go_wp2
      go_ret2
      exact ⟨by rw [hf.out]; rfl, 0, rfl⟩
    have e116 : ((b.toNat : Int) == 116) = false := by simp; omega
    by_cases b114 : b.toNat = 114
    · have e114 : ((b.toNat : Int) == 114) = true := by simp; omega
      have hf : Hid (T = some (13, 2)) := Lib.hid (by rw [HT.out]; simp [esc, b114])
      clear HT
      go_wp2
      go_ret2
      exact ⟨by rw [hf.out]; rfl, 0, rfl⟩
    have e114 : ((b.toNat : Int) == 114) = false := by simp; omega
    by_cases b120 : b.toNat = 120
    · have e120 : ((b.toNat : Int) == 120) = true := by simp; omega
      have hT2 : T = match (L s).drop (q + 2) with
          | h :: l :: _ => if hexV h < 16 ∧ hexV l < 16 then some (UInt8.ofNat (hexV h * 16 + hexV l), 4) else none
          | _ => none := by rw [HT.out]; simp only [esc, b120]; rfl
      clear HT
      by_cases h3 : q + 3 < s.size
      · have k3 : decide ((q : Int) + 3 < (s.size : Int)) = true := decide_eq_true (by omega)
        have k31 : (0 : Int) ≤ (q : Int) + 3 := by omega
        have k32 : (q : Int) + 3 < (s.size : Int) := by omega
        have k21 : (0 : Int) ≤ (q : Int) + 2 := by omega
        have k22 : (q : Int) + 2 < (s.size : Int) := by omega
        have hw2 : IntKind.i64.wrap ((q : Int) + 2) = (q : Int) + 2 := by rw [IntKind.wrap_i64]; omega
        have hw3 : IntKind.i64.wrap ((q : Int) + 3) = (q : Int) + 3 := by rw [IntKind.wrap_i64]; omega
        rw [L_drop (show q + 2 < s.size by omega), L_drop h3] at hT2
        simp only at hT2
        have hT2 := Lib.hid hT2
        go_wp2_with fail
        refine (hexValue_any _ w).mono ?_
        rintro e w' ⟨rfl, rfl⟩
        have hle := hexV_le s[q + 2]
        have hle2 := hexV_le s[q + 3]
        by_cases x1 : hexV s[q + 2] < 16
        · have j1 : decide (hexI s[q + 2] ≥ 0) = true := by rw [hexI_ge]; exact decide_eq_true x1
          go_wp2_with fail
          refine (hexValue_any _ w).mono ?_
          rintro e w' ⟨rfl, rfl⟩
          by_cases x2 : hexV s[q + 3] < 16
          · have j2 : decide (hexI s[q + 3] ≥ 0) = true := by rw [hexI_ge]; exact decide_eq_true x2
            have i1 : hexI s[q + 2] = (hexV s[q + 2] : Int) := by unfold hexI; rw [if_pos x1]
            have i2 : hexI s[q + 3] = (hexV s[q + 3] : Int) := by unfold hexI; rw [if_pos x2]
            have m1 : IntKind.i64.wrap (hexI s[q + 2] * 16) = hexI s[q + 2] * 16 := by rw [IntKind.wrap_i64]; omega
            have m2 : IntKind.i64.wrap (hexI s[q + 2] * 16 + hexI s[q + 3]) = hexI s[q + 2] * 16 + hexI s[q + 3] := by rw [IntKind.wrap_i64]; omega
            have m3 : IntKind.u8.wrap (hexI s[q + 2] * 16 + hexI s[q + 3]) = hexI s[q + 2] * 16 + hexI s[q + 3] := by rw [IntKind.wrap_u8]; omega
            have hf : Hid (T = some (UInt8.ofNat (hexV s[q + 2] * 16 + hexV s[q + 3]), 4)) := Lib.hid (by rw [hT2.out, if_pos ⟨x1, x2⟩])
            have hu : Hid (hexI s[q + 2] * 16 + hexI s[q + 3] = ((UInt8.ofNat (hexV s[q + 2] * 16 + hexV s[q + 3])).toNat : Int)) := Lib.hid (by rw [i1, i2, ofNat_back (by omega)]; omega)
            clear i1 i2 hT2 hle hle2
            go_wp2_with fail
            go_quiet (first | ((go_at_call 67; exact Calls.quiet_of_same (hexValue_same _ _))))
            go_wp2
            go_ret2
            exact ⟨by rw [hf.out, hu.out]; rfl, _, rfl⟩
          · have j2 : decide (hexI s[q + 3] ≥ 0) = false := by rw [hexI_ge]; exact decide_eq_false x2
            have hf : Hid (T = none) := Lib.hid (by rw [hT2.out, if_neg (fun h => x2 h.2)])
            clear hT2
            go_wp2
            go_ret2
            exact ⟨by rw [hf.out]; rfl, 0, rfl⟩
        · have j1 : decide (hexI s[q + 2] ≥ 0) = false := by rw [hexI_ge]; exact decide_eq_false x1
          have hf : Hid (T = none) := Lib.hid (by rw [hT2.out, if_neg (fun h => x1 h.1)])
          clear hT2
          go_wp2
          go_ret2
          exact ⟨by rw [hf.out]; rfl, 0, rfl⟩
      · have k3 : decide ((q : Int) + 3 < (s.size : Int)) = false := decide_eq_false (by omega)
        have hw3 : IntKind.i64.wrap ((q : Int) + 3) = (q : Int) + 3 := by rw [IntKind.wrap_i64]; omega
        have hf : Hid (T = none) := by
          rw [hT2]
          have h5 : ((L s).drop (q + 2)).length ≤ 1 := by rw [List.length_drop, L_len]; omega
          match h6 : (L s).drop (q + 2) with
          | [] => rfl
          | [_] => rfl
          | _ :: _ :: _ => rw [h6] at h5; simp at h5
        clear hT2
        go_wp2
        go_ret2
        exact ⟨by rw [hf.out]; rfl, 0, rfl⟩
    have e120 : ((b.toNat : Int) == 120) = false := by simp; omega
    have hf : Hid (T = none) := Lib.hid (by rw [HT.out]; simp [esc, b34, b92, b110, b116, b114, b120])
    clear HT
    go_wp2
    go_ret2
    exact ⟨by rw [hf.out]; rfl, 0, rfl⟩
  · have k0 : decide ((q : Int) + 1 ≥ (s.size : Int)) = true := decide_eq_true (by omega)
    have hf : Hid (T = none) := by
      rw [hT, show (L s).drop (q + 1) = [] from List.drop_eq_nil_of_le (by rw [L_len]; omega)]; rfl
    clear hT
    go_enter Tryz.func56, Tryz.ntmps56
    go_wp2
    go_ret2
    exact ⟨by rw [hf.out]; rfl, 0, rfl⟩
end Go.Proofs.YtncdjkdpoinfaaaGreatDoor
/-
  The walk of edicttop.whole. Conditions: the text is at most 65536 bytes long, and digits with a minus ahead of them perhaps.
-/
namespace Go.Proofs.YtncdjkdpoinfaaaGreatDoor
open Go.RowKit Go.Shelf Pl

/-- What whole answers. -/
def WholeIs (V : Option Int) (e : Ending) : Prop :=
  match V with
  | some v => e = .returned (.tuple #[.int .i64 v, .bool true])
  | none => ∃ v, e = .returned (.tuple #[.int .i64 v, .bool false])
theorem minus_back {n : Nat} (h : n ≤ 9223372036854775808) : wrap64 (wrap64 (-wrap64 (IntKind.u64.wrap ((n : Int) - 1))) - 1) = -(n : Int) := by
  rw [IntKind.wrap_u64]
  unfold wrap64
  omega
theorem whole_some {V : Option Int} {v x : Int} (h : V = some v) (hx : x = v) : WholeIs V (.returned (.tuple #[.int .i64 x, .bool true])) := by rw [h, hx]; rfl
theorem whole_none {V : Option Int} {x : Int} {b : Bool} (h : V = none) (hb : b = false) : WholeIs V (.returned (.tuple #[.int .i64 x, .bool b])) := by rw [h, hb]; exact ⟨_, rfl⟩
structure UB (n : Nat) : Prop where
  le : n ≤ 18446744073709551615
theorem UB.zero : UB 0 := ⟨Nat.zero_le _⟩
theorem L_extract (s : ByteArray) (a b : Nat) : L (s.extract a b) = ((L s).drop a).take (b - a) := by
  unfold L
  rw [Lib.extract_data]

set_option maxRecDepth 100000 in
set_option maxHeartbeats 3200000 in
theorem whole_any (s : ByteArray) (w : World) (h0 : 0 < s.size) (hs : s.size ≤ 65536) (hsp : IntSp (L s)) : Calls Tryz.prog 54 #[.string s] w fun e w' => WholeIs (intV (L s)) e ∧ w = w' := by
  obtain ⟨T, hT⟩ : ∃ T, T = intV (L s) := ⟨_, rfl⟩
  rw [← hT]
  have h0I : (0 : Int) < (s.size : Int) := by omega
  have h1I : (1 : Int) ≤ (s.size : Int) := by omega
  have hcons : L s = s[0] :: (L s).drop 1 := L_drop h0
  obtain ⟨c0, hc0⟩ : ∃ c0, c0 = s[0] := ⟨_, rfl⟩
  rw [← hc0] at hcons
  by_cases b45 : c0.toNat = 45
  · have e45 : ((c0.toNat : Int) == 45) = true := by simp; omega
    obtain ⟨f, hf⟩ : ∃ f, f = s.extract 1 s.size := ⟨_, rfl⟩
    have hLf : L f = (L s).drop 1 := by
      rw [hf, L_extract, List.take_of_length_le (by rw [List.length_drop, L_len]; exact Nat.le_refl _)]
    have hfs : f.size ≤ 65536 := by
      have := L_len f
      rw [hLf, List.length_drop, L_len] at this
      omega
    have hall : (L f).all isD = true := by
      obtain ⟨g, hg, hg1, hg2⟩ := hsp
      rcases hg with hg | ⟨c, hg, hc⟩
      · exfalso
        rw [← hg, hcons] at hg2
        simp [isD] at hg2
        omega
      · rw [hcons, List.cons.injEq] at hg
        rw [hLf, hg.2]; exact hg2
    have hTV : T = if digV 0 (L f) ≤ 9223372036854775808 then some (-(digV 0 (L f) : Int)) else none := by
      rw [hT, hcons, hLf]
      simp only [intV]
      rw [if_pos b45]
    have HF := Lib.hid hf
    have HC0 := Lib.hid hc0
    have HALL := Lib.hid hall
    have HT := Lib.hid hTV
    clear hT hcons hsp hLf hall hTV hf hc0
    go_enter Tryz.func54, Tryz.ntmps54
    go_upto_region 2 with fail
    rw [← HC0.out]
    go_upto_region 4 with fail
    rw [← HF.out]
    have hz : Hid (0 = digV 0 ((L f).take 0)) := Lib.hid (by rw [List.take_zero]; rfl)
    go_upto_region 5 with fail
    go_wp2
    go_loop [5, 6] (fun k i => ∃ (n j : Nat), k = .int .u64 (n : Int) ∧ i = .int .i64 (j : Int) ∧ j ≤ f.size ∧ Hid (n = digV 0 ((L f).take j)) ∧ UB n) (fun _ i => f.size - (intOf i).toNat)
    case atStart => exact ⟨0, 0, by first | rfl | go_num, by first | rfl | go_num, by omega, hz, UB.zero⟩
    case round =>
      obtain ⟨n, j, rfl, rfl, hj, HN, HN2⟩ := hrel
      by_cases h1 : j < f.size
      · have k1 : (j : Int) < (f.size : Int) := by omega
        have k0 : (0 : Int) ≤ (j : Int) := by omega
        have hw1 : IntKind.i64.wrap ((j : Int) + 1) = (j : Int) + 1 := by rw [IntKind.wrap_i64]; omega
        obtain ⟨d, hd⟩ : ∃ d, d = f[j].toNat - 48 := ⟨_, rfl⟩
        have hdig : isD f[j] = true := by
          have h5 := all_at HALL.out (show j < (L f).length by rw [L_len]; exact h1)
          rw [L_get h1] at h5; exact h5
        have hd2 : 48 ≤ f[j].toNat ∧ f[j].toNat ≤ 57 := by simpa [isD] using hdig
        have hd9 : d ≤ 9 := by omega
        have hw2 : IntKind.u8.wrap ((f[j].toNat : Int) - 48) = (d : Int) := by rw [IntKind.wrap_u8]; omega
        have hw3 : IntKind.u64.wrap (d : Int) = (d : Int) := by rw [IntKind.wrap_u64]; omega
        have hnext : digV 0 ((L f).take (j + 1)) = n * 10 + d := by
          rw [digV_next (show j < (L f).length by rw [L_len]; exact h1), ← HN.out, L_get h1, hd]
        have HNX := Lib.hid hnext
        clear hnext hdig hd2 hd
        by_cases hover : 18446744073709551615 < n * 10 + d
        · have hf : Hid (T = none) := by
            have h5 := digV_part (L f) (j + 1)
            rw [HNX.out] at h5
            refine Lib.hid ?_
            rw [HT.out, if_neg (by omega)]
          clear HNX HN HN2
          go_wp2
          go_ret2
          exact ⟨whole_none hf.out rfl, rfl⟩
        · have hn3 : UB (n * 10 + d) := ⟨by omega⟩
          go_wp2
          go_round
          case rel => exact ⟨n * 10 + d, j + 1, by first | rfl | go_num, by go_num, by omega, Lib.hid HNX.out.symm, hn3⟩
          case measure => simp only [intOf]; omega
      · have e : j = f.size := by omega
        have hx : n = digV 0 (L f) := by
          rw [HN.out, List.take_of_length_le (by rw [L_len]; omega)]
        have hnb := HN2.le
        rw [← hx] at HT
        clear hx HN
        go_wp2
        · go_ret2
          exact ⟨whole_some (by rw [HT.out, if_pos (by omega)]) (minus_back (by omega)), rfl⟩
        · go_ret2
          exact ⟨whole_none (by rw [HT.out, if_neg (by omega)]) rfl, rfl⟩
  · have e45 : ((c0.toNat : Int) == 45) = false := by simp; omega
    obtain ⟨f, hf⟩ : ∃ f, f = s := ⟨_, rfl⟩
    have hfs : f.size ≤ 65536 := by rw [hf]; exact hs
    have hall : (L f).all isD = true := by
      obtain ⟨g, hg, hg1, hg2⟩ := hsp
      rcases hg with hg | ⟨c, hg, hc⟩
      · rw [hf, hg]; exact hg2
      · exfalso
        rw [hcons, List.cons.injEq] at hg
        rw [hg.1] at b45
        exact b45 hc
    have hTV : T = if digV 0 (L f) < 9223372036854775808 then some (digV 0 (L f) : Int) else none := by
      rw [hf, hT, hcons]
      simp only [intV]
      rw [if_neg b45]
    have HF := Lib.hid hf
    have HC0 := Lib.hid hc0
    have HALL := Lib.hid hall
    have HT := Lib.hid hTV
    clear hT hcons hsp hall hTV hf hc0
    go_enter Tryz.func54, Tryz.ntmps54
    go_upto_region 2 with fail
    rw [← HC0.out]
    go_upto_region 4 with fail
    rw [← HF.out]
    have hz : Hid (0 = digV 0 ((L f).take 0)) := Lib.hid (by rw [List.take_zero]; rfl)
    go_upto_region 5 with fail
    go_wp2
    go_loop [5, 6] (fun k i => ∃ (n j : Nat), k = .int .u64 (n : Int) ∧ i = .int .i64 (j : Int) ∧ j ≤ f.size ∧ Hid (n = digV 0 ((L f).take j)) ∧ UB n) (fun _ i => f.size - (intOf i).toNat)
    case atStart => exact ⟨0, 0, by first | rfl | go_num, by first | rfl | go_num, by omega, hz, UB.zero⟩
    case round =>
      obtain ⟨n, j, rfl, rfl, hj, HN, HN2⟩ := hrel
      by_cases h1 : j < f.size
      · have k1 : (j : Int) < (f.size : Int) := by omega
        have k0 : (0 : Int) ≤ (j : Int) := by omega
        have hw1 : IntKind.i64.wrap ((j : Int) + 1) = (j : Int) + 1 := by rw [IntKind.wrap_i64]; omega
        obtain ⟨d, hd⟩ : ∃ d, d = f[j].toNat - 48 := ⟨_, rfl⟩
        have hdig : isD f[j] = true := by
          have h5 := all_at HALL.out (show j < (L f).length by rw [L_len]; exact h1)
          rw [L_get h1] at h5; exact h5
        have hd2 : 48 ≤ f[j].toNat ∧ f[j].toNat ≤ 57 := by simpa [isD] using hdig
        have hd9 : d ≤ 9 := by omega
        have hw2 : IntKind.u8.wrap ((f[j].toNat : Int) - 48) = (d : Int) := by rw [IntKind.wrap_u8]; omega
        have hw3 : IntKind.u64.wrap (d : Int) = (d : Int) := by rw [IntKind.wrap_u64]; omega
        have hnext : digV 0 ((L f).take (j + 1)) = n * 10 + d := by
          rw [digV_next (show j < (L f).length by rw [L_len]; exact h1), ← HN.out, L_get h1, hd]
        have HNX := Lib.hid hnext
        clear hnext hdig hd2 hd
        by_cases hover : 18446744073709551615 < n * 10 + d
        · have hf : Hid (T = none) := by
            have h5 := digV_part (L f) (j + 1)
            rw [HNX.out] at h5
            refine Lib.hid ?_
            rw [HT.out, if_neg (by omega)]
          clear HNX HN HN2
          go_wp2
          go_ret2
          exact ⟨whole_none hf.out rfl, rfl⟩
        · have hn3 : UB (n * 10 + d) := ⟨by omega⟩
          go_wp2
          go_round
          case rel => exact ⟨n * 10 + d, j + 1, by first | rfl | go_num, by go_num, by omega, Lib.hid HNX.out.symm, hn3⟩
          case measure => simp only [intOf]; omega
      · have e : j = f.size := by omega
        have hx : n = digV 0 (L f) := by
          rw [HN.out, List.take_of_length_le (by rw [L_len]; omega)]
        have hnb := HN2.le
        rw [← hx] at HT
        clear hx HN
        by_cases hlt : n < 9223372036854775808
        · have hd : decide ((n : Int) < 9223372036854775808) = true := decide_eq_true (by omega)
          go_wp2
          go_ret2
          refine ⟨whole_some (by rw [HT.out, if_pos hlt]) rfl, rfl⟩
        · have hd : decide ((n : Int) < 9223372036854775808) = false := decide_eq_false (by omega)
          go_wp2
          go_ret2
          exact ⟨whole_none (by rw [HT.out, if_neg hlt]) rfl, rfl⟩
end Go.Proofs.YtncdjkdpoinfaaaGreatDoor
