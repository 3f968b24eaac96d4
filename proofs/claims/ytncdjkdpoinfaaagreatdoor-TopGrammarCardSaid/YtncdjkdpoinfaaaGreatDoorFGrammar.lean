/-
  The given statement Rows.TopGrammarCardSaid, out of its walk: whatever the text, the law returns true, and the text reads as it did. Conditions: the listed variables hold what the program's text lays, as the card says.
-/
import Derived.Test.YtncdjkdpoinfaaaGreatDoorCards
import Derived.Test.YtncdjkdpoinfaaaGreatDoorTie
import Derived.Test.YtncdjkdpoinfaaaGreatDoorG25
import Derived.ProofKit
import Derived.OpenShut
import Derived.Deep.DeepHandedRow
import Derived.Deep.DeepWitnessRowRef
import Derived.Lib.LaidTab
import Derived.Stop.LaidErr
import Derived.ShutString
import Derived.Carry
namespace Go.Proofs.YtncdjkdpoinfaaaGreatDoor.topGrammarProof
open Go.ChangeShapes Go.WideShapes Go.ChangeAt Go.RowKit Pl
open Go.ChangeMaps (open_string shut_string)

theorem own : ownKnob Tryz.prog.godebug = none := by kernel_rfl
theorem laidOut : laidOutB Tryz.prog = true := by kernel_rfl
theorem gER : Tryz.prog.globalNamed "strconv.ErrRange" = some 4 := by kernel_rfl
theorem gSG : Tryz.prog.globalNamed "edict/lex.signs" = some 2 := by kernel_rfl
theorem gMK : Tryz.prog.globalNamed "edict/edicttop.marks" = some 1 := by kernel_rfl
theorem gOP : Tryz.prog.globalNamed "edict/edicttop.ops" = some 0 := by kernel_rfl
theorem gERType : (Tryz.prog.globals[4]?).map (·.type) = some 128 := by kernel_rfl
theorem gSGType : (Tryz.prog.globals[2]?).map (·.type) = some 122 := by kernel_rfl
theorem gMKType : (Tryz.prog.globals[1]?).map (·.type) = some 114 := by kernel_rfl
theorem gOPType : (Tryz.prog.globals[0]?).map (·.type) = some 113 := by kernel_rfl
theorem cells150 : Tryz.prog.cellsOf 150 = 1 := by kernel_rfl
theorem cells9 : Tryz.prog.cellsOf 9 = 1 := by kernel_rfl
theorem cells3 : Tryz.prog.cellsOf 3 = 1 := by kernel_rfl
theorem cells124 : Tryz.prog.cellsOf 124 = 3 := by kernel_rfl
theorem star : "*" ++ "errors.errorString" = "*errors.errorString" := by decide
theorem row148 (u : TypeId) (h : Tryz.prog.typeName? 3 u = some "*errors.errorString") : u = 148 :=
  typeName_ptr_named (nm := "errors.errorString") (by rw [star]; kernel_rfl) (by kernel_rfl) (by decide) u (by rw [star]; exact h)
def signL : List (List UInt8 × Int × Int) := [([58, 45], 9, 0), ([33, 61], 11, 2), ([60, 61], 11, 4), ([62, 61], 11, 6), ([60], 11, 3), ([62], 11, 5), ([61], 11, 1), ([40], 5, 0), ([41], 6, 0), ([44], 7, 0), ([46], 8, 0)]

theorem sentinel {W : World} (h : laidMet Tryz.prog Rows.topGrammarRow.laid W) : ErrR W := by
  obtain ⟨a, s, h1, _⟩ := laid_sentinel h.tail.tail.tail gER gERType Tryz.underlying128 row148 Tryz.underlying148 Tryz.underlying150 rfl rfl Tryz.underlying9 cells150 cells9
  exact ⟨_, _, World.var?_cell gER h1 0⟩
theorem glob {W : World} (h : laidMet Tryz.prog Rows.topGrammarRow.laid W) : Gl W.heap.size W := by
  have h4 := sentinel h
  obtain ⟨tp, pv, hc⟩ := h4
  have h5 : 4 < W.heap.size := World.block_lt_of_cell? _ _ hc
  refine ⟨h5, Nat.le_refl _, ⟨tp, pv, hc⟩, ?_, ?_, ?_⟩
  · obtain ⟨b, off, cap, k1, k2, k3⟩ := signs_of_head (L3 := signL) gSG gSGType Tryz.underlying122 Tryz.underlying124 cells124 rfl rfl rfl rfl rfl rfl Tryz.underlying9 Tryz.underlying3 Tryz.underlying3 cells9 cells3 cells3 (by decide) h.tail.tail.tail.tail.tail
    refine ⟨b, off, cap, k1, k2, fun i hi => ?_⟩
    have hi' : i < signL.length := hi
    have e : signL[i].1 = (signs[i].1).map UInt8.ofNat ∧ signL[i].2.1 = (signs[i].2.1 : Int) ∧ signL[i].2.2 = (signs[i].2.2 : Int) := by
      revert i
      decide
    obtain ⟨m0, m1, m2⟩ := k3 i hi'
    rw [e.1] at m0
    rw [e.2.1] at m1
    rw [e.2.2] at m2
    exact ⟨m0, m1, m2⟩
  · intro i hi
    have k := strs_of_head (bs := marksL.map fun p : List Nat => p.map UInt8.ofNat) gMK gMKType Tryz.underlying114 Tryz.underlying9 cells9 h.tail.tail.tail.tail.tail.tail i (by simpa using hi)
    rw [k, List.getElem_map]; rfl
  · intro i hi
    have k := strs_of_head (bs := opsL.map fun p : List Nat => p.map UInt8.ofNat) gOP gOPType Tryz.underlying113 Tryz.underlying9 cells9 h.tail.tail.tail.tail.tail.tail.tail i (by simpa using hi)
    rw [k, List.getElem_map]; rfl

set_option maxRecDepth 100000 in
/-- What the walk gives, for every world that holds what the row lists. -/
theorem contract (H : Type) (enc : TypeId × Value → H) (W : World) (base : Nat) (args : Array Value) (ds gs : List (DataW H)) (before : List MemPlace)
    (hval0 : ∀ (j : Nat) t v, Tryz.f3.params[j]? = some t → args[j]? = some v → Value.okWide Tryz.prog W .any base t v)
    (hW : DataW.Whole enc Tryz.prog Tryz.f3.params.toList Rows.topGrammarSpec.vars false W args.toList ds gs before) (hL : laidMet Tryz.prog Rows.topGrammarRow.laid W) :
    Calls Tryz.prog 3 args W fun e W' => ∃ v, e = .returned v ∧ Rows.topGrammarSpec.post enc Tryz.prog Tryz.f3 false true false false W args v W' := by
  have hW' := hW
  obtain ⟨p, q, hA0, hV, rfl, hfz, hnd⟩ := hW
  have hA : DataW.TrodAll enc Tryz.prog W 0 (fun _ => true) true Tryz.f3.params.toList args.toList ds p := hA0
  have hval := hval0
  rw [Tryz.params3] at hA hval
  obtain ⟨v0, vs0, d0, ds0, p0, q0, hargs, rfl, rfl, h0, r0⟩ := trodAll_cons hA
  obtain ⟨rfl, rfl, rfl⟩ := trodAll_nil r0
  obtain rfl : args = #[v0] := by cases args; simp_all
  obtain ⟨rfl, rfl⟩ := trodVars_none hV
  have k0 := h0
  have lt0 : ∀ x ∈ p0, x.block < W.heap.size := by obtain ⟨m, hm⟩ := k0; exact DataW.trod_lt m _ _ _ hm
  obtain ⟨a0, rfl, rfl, rfl, w0⟩ := open_string Tryz.underlying9 (hval 0 9 v0 rfl rfl) h0
  clear hA0 hval0
  refine (grammar_row a0 W.heap.size W (glob hL)).mono fun e W' ⟨he, bel⟩ => ?_
  subst he
  exact ⟨_, rfl, _, _, _, [], _, [], hW', trodAll_mk1 (shut_bool Tryz.underlying4 _), (trodAll_cons_mk (Below.trod laidOut (by kernel_rfl) (of_decide_eq_true (by kernel_rfl)) k0 bel lt0) trodAll_mk0), rfl, bel.frame _, fun h => by cases h⟩

/-- A world for the witness: the settled one, the variables holding what their initialisers lay. -/
noncomputable def low : Nat := (World.holding Tryz.prog default ⟨#[], #[], []⟩).heap.size
abbrev synS : ByteArray := { data := #[105, 110, 118, 97, 108, 105, 100, 32, 115, 121, 110, 116, 97, 120] }
abbrev rngS : ByteArray := { data := #[118, 97, 108, 117, 101, 32, 111, 117, 116, 32, 111, 102, 32, 114, 97, 110, 103, 101] }
def tab32 : List Int := [0, 1, 28, 2, 29, 14, 24, 3, 30, 22, 20, 15, 25, 17, 4, 8, 31, 27, 13, 23, 21, 19, 16, 7, 26, 12, 18, 6, 11, 5, 10, 9]
def tab64 : List Int := [0, 1, 56, 2, 57, 49, 28, 3, 61, 58, 42, 50, 38, 29, 17, 4, 62, 47, 59, 36, 45, 43, 51, 22, 53, 39, 33, 30, 24, 18, 12, 5, 63, 55, 48, 27, 60, 41, 37, 16, 46, 35, 44, 21, 52, 32, 23, 11, 54, 26, 40, 15, 34, 20, 31, 10, 25, 14, 19, 9, 13, 8, 7, 6]
def tab10 : List Int := [1, 10, 100, 1000, 10000, 100000, 1000000, 10000000, 100000000, 1000000000, 10000000000, 100000000000, 1000000000000, 10000000000000, 100000000000000, 1000000000000000, 10000000000000000, 100000000000000000, 1000000000000000000, 10000000000000000000]
def signC : Array Value := #[.string { data := #[58, 45] }, .int .i64 9, .int .i64 0, .string { data := #[33, 61] }, .int .i64 11, .int .i64 2, .string { data := #[60, 61] }, .int .i64 11, .int .i64 4, .string { data := #[62, 61] }, .int .i64 11, .int .i64 6, .string { data := #[60] }, .int .i64 11, .int .i64 3, .string { data := #[62] }, .int .i64 11, .int .i64 5, .string { data := #[61] }, .int .i64 11, .int .i64 1, .string { data := #[40] }, .int .i64 5, .int .i64 0, .string { data := #[41] }, .int .i64 6, .int .i64 0, .string { data := #[44] }, .int .i64 7, .int .i64 0, .string { data := #[46] }, .int .i64 8, .int .i64 0]
def markC : Array Value := #[.string { data := #[] }, .string { data := #[] }, .string { data := #[] }, .string { data := #[] }, .string { data := #[] }, .string { data := #[40] }, .string { data := #[41] }, .string { data := #[44] }, .string { data := #[46] }, .string { data := #[58, 45] }, .string { data := #[110, 111, 116] }, .string { data := #[] }]
def opC : Array Value := #[.string { data := #[] }, .string { data := #[61] }, .string { data := #[33, 61] }, .string { data := #[60] }, .string { data := #[60, 61] }, .string { data := #[62] }, .string { data := #[62, 61] }]
def setRow (xs : Array Value) : Obj → Obj
  | .cells _ t frozen => .cells xs t frozen
  | o => o
noncomputable abbrev inp : Input := ⟨#[.cells #[.string synS] 150, .cells #[.string rngS] 150, .cells signC 124], #[.string ByteArray.empty], []⟩
noncomputable def laidWorld (os : Os) : World :=
  { World.holding Tryz.prog os inp with heap := ((((((((World.holding Tryz.prog os inp).heap.modify 2 (setRow #[.slice (some ⟨low + 2, 0, none⟩) 11 11])).modify 0 (setRow opC)).modify 1 (setRow markC)).modify 3 (setRow #[.iface 148 (.pointer (some ⟨low, 0, none⟩))])).modify 4 (setRow #[.iface 148 (.pointer (some ⟨low + 1, 0, none⟩))])).modify 5 (setRow (tab10.map fun z => Value.int .u64 z).toArray)).modify 6 (setRow (tab32.map fun z => Value.int .u8 z).toArray)).modify 7 (setRow (tab64.map fun z => Value.int .u8 z).toArray) }
theorem laid_met (os : Os) : laidMet Tryz.prog Rows.topGrammarRow.laid ((laidWorld os).forCall (fun _ _ => 0) ⟨#[], #[.string ByteArray.empty], []⟩).memory :=
  laidMet_of_run' 8 (by kernel_rfl) (by kernel_rfl)
theorem reads (os : Os) {H : Type} (enc : TypeId × Value → H) : ∃ ds places, DataW.whole enc Tryz.prog ((laidWorld os).forCall (fun _ _ => 0) ⟨#[], #[.string ByteArray.empty], []⟩).memory Tryz.f3.params.toList Rows.topGrammarSpec.vars false (#[.string ByteArray.empty] : Array Value).toList 8 = some (ds, [], places) :=
  ⟨[.lit (.string [])], [], by kernel_rfl⟩

set_option maxRecDepth 100000 in
theorem lifted (os : Os) (started : os.Started) (H : Type) (enc : TypeId × Value → H) (F : Stop.Interp) :
    ReturnsInHanded {} Tryz.checked os 3 .any ((OpenSpec.ofChange Rows.topGrammarSpec).preRow enc Tryz.prog Tryz.f3 Rows.topGrammarRow.domain false Rows.topGrammarRow.laid) (((OpenSpec.ofChange Rows.topGrammarSpec).at F).post enc Tryz.prog Tryz.f3 false true false false) := by
  obtain ⟨ds, places, hx⟩ := reads os enc
  refine returnsInHanded_of_row (C := Tryz.checked) (s := OpenSpec.ofChange Rows.topGrammarSpec) own started (by kernel_rfl) Tryz.func3
    (witness_row_atRef (enc := enc) (C := Tryz.checked) false (laidWorld os) #[.string ByteArray.empty] rfl (by kernel_rfl) (by kernel_rfl) (by kernel_rfl)
      (OpenSpec.preRow_of_cond 8 hx (by kernel_rfl) (fun k hk => by cases hk) (by kernel_rfl) (laid_met os))) ?_
  intro W base args ds gs before hval hW _ _ _ hL _ _
  exact contract H enc W base args ds gs before hval hW hL

theorem said : Rows.TopGrammarSaid :=
  OpenClaim.holds_of_cond 3 Tryz.f3 rfl rfl rfl rfl rfl rfl rfl ⟨rfl, rfl, rfl, rfl, rfl⟩ rfl rfl rfl rfl rfl (by kernel_rfl) Tryz.func3 (by kernel_rfl)
    (of_decide_eq_true (by kernel_rfl)) (by unfold Func.isWrapper; first | (rw [if_pos (by decide +kernel)]; kernel_rfl) | (rw [if_neg (by decide +kernel)]; exact ⟨rfl, rfl⟩))
    (fun os started H enc _ F => by rw [OpenClaim.pre_eq_preRow]; exact lifted os started H enc F)

theorem plain (f : FuncId) (fn : Func) (hf : Tryz.pinned.checked.prog.funcNamed "edict/edicttop.TopGrammar" = some f) (hfn : Tryz.pinned.checked.prog.funcs[f]? = some fn) :
    true = Tryz.pinned.checked.prog.looks [] ∧ ∀ (j : Nat) t, fn.params[j]? = some t → Tryz.pinned.checked.prog.wantsStandIn t = false := by
  obtain rfl : f = 3 := Option.some.inj ((show Tryz.prog.funcNamed "edict/edicttop.TopGrammar" = some 3 by kernel_rfl).symm.trans hf) |>.symm
  obtain rfl : fn = Tryz.f3 := (Option.some.inj (Tryz.func3.symm.trans hfn)).symm
  refine ⟨by kernel_rfl, fun j t ht => ?_⟩
  rw [Tryz.params3] at ht
  have h9 : t = 9 := by
    cases j with
    | zero => simpa using ht.symm
    | succ j => simp at ht
  rw [h9]
  exact (show Tryz.prog.wantsStandIn 9 = false by kernel_rfl)

theorem card : Rows.TopGrammarCardSaid :=
  Claim7.holds_tied_plain_at .later [] _ _ _ _ said (fun _ h => by cases h) (by kernel_rfl) (fun _ h => by cases h) topGrammar_row_tie rfl ⟨rfl, rfl⟩ (by kernel_rfl) rfl plain (by kernel_rfl)
#print axioms card
end Go.Proofs.YtncdjkdpoinfaaaGreatDoor.topGrammarProof
