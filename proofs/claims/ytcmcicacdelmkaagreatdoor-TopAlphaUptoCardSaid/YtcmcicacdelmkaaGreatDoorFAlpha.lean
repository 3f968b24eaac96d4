/- The given statement Rows.TopAlphaUptoCardSaid, out of its walk: whatever the two texts, the law returns true, and they read as they did. Conditions: the listed variables hold what the program's text lays, as the card says. (Names, blanks and remarks were cut by a program, for the bound on the size of a claim.) -/
import Derived.Test.YtcmcicacdelmkaaGreatDoorS17
import Derived.Test.YtcmcicacdelmkaaGreatDoorCards
import Derived.Test.YtcmcicacdelmkaaGreatDoorTie
import Derived.ProofKit
import Derived.Deep.DeepHandedRow
import Derived.Deep.DeepWitnessRowRef
import Derived.ShutString
import Derived.Carry
open Option renaming none→Z,some→O
open Bool renaming true→K,false→D
open Go.Value renaming int→Y,slice→J,string→A,pointer→V
open Go.IntKind renaming i64→I
open Go.Obj renaming cells→M
open Go.Proofs.Tryz
set_option maxRecDepth 100000
set_option linter.all false
namespace Go.Proofs.YtcmcicacdelmkaaGreatDoor.topAlphaProof
open Go.ChangeShapes Go.WideShapes Go.ChangeAt Go.RowKit cA
open Go.ChangeMaps(open_string shut_string)
theorem own:ownKnob Tryz.prog.godebug=Z:=by
 kernel_rfl
theorem laidOut:laidOutB Tryz.prog=K:=by
 kernel_rfl
theorem w8:Tryz.prog.globalNamed "strconv.ErrRange"=O 4:=by
 kernel_rfl
theorem F1:Tryz.prog.globalNamed "edict/lex.signs"=O 2:=by
 kernel_rfl
theorem F2:Tryz.prog.globalNamed "edict/edicttop.marks"=O 1:=by
 kernel_rfl
theorem F3:Tryz.prog.globalNamed "edict/edicttop.ops"=O 0:=by
 kernel_rfl
theorem F4:(Tryz.prog.globals[4]?).map (·.type)=O 238:=by
 kernel_rfl
theorem F5:(Tryz.prog.globals[2]?).map (·.type)=O 233:=by
 kernel_rfl
theorem F6:(Tryz.prog.globals[1]?).map (·.type)=O 226:=by
 kernel_rfl
theorem F7:(Tryz.prog.globals[0]?).map (·.type)=O 225:=by
 kernel_rfl
theorem F8:Tryz.prog.cellsOf 260=1:=by
 kernel_rfl
theorem p2:Tryz.prog.cellsOf 9=1:=by
 kernel_rfl
theorem w9:Tryz.prog.cellsOf 3=1:=by
 kernel_rfl
theorem F9:Tryz.prog.cellsOf 235=3:=by
 kernel_rfl
theorem star: "*"++ "errors.errorString"= "*errors.errorString":=by
 decide
theorem F'(u:TypeId)(h:Tryz.prog.typeName? 3 u=O "*errors.errorString"):u=258:=typeName_ptr_named (nm:= "errors.errorString") (by rw[star];kernel_rfl) (by kernel_rfl) (by decide) u (by rw[star];exact h)
def ot:List (List UInt8×Int×Int):=[([58,45],9,0),([33,61],11,2),([60,61],11,4),([62,61],11,6),([60],11,3),([62],11,5),([61],11,1),([40],5,0),([41],6,0),([44],7,0),([46],8,0)]
theorem sentinel{b:World}(h:laidMet Tryz.prog Rows.topAlphaUptoRow.laid b):nU b:=by
 obtain⟨a,s,h1,_⟩:=laid_sentinel h.tail.tail.tail w8 F4 Tryz.underlying238 F' Tryz.underlying258 Tryz.underlying260 rfl rfl Tryz.underlying9 F8 p2;exact⟨_,_,World.var?_cell w8 h1 0⟩
theorem Ga{a:World}(h:laidMet Tryz.prog Rows.topAlphaUptoRow.laid a):eb a.heap.size a:=by
 have h4:=sentinel h;obtain⟨du,aO,ak⟩:=h4;have h5:4<a.heap.size:=World.block_lt_of_cell? _ _ ak;refine⟨h5,aG _,⟨du,aO,ak⟩,?_,?_,?_⟩;·obtain⟨b,off,cap,d,f,g⟩:=BM (L3:=ot) F1 F5 Tryz.underlying233 Tryz.underlying235 F9 rfl rfl rfl rfl rfl rfl Tryz.underlying9 Tryz.underlying3 Tryz.underlying3 p2 w9 w9 (by decide) h.tail.tail.tail.tail.tail;refine⟨b,off,cap,d,f,fun i aj=>?_⟩;have c:i<ot.length:=aj;(have e:ot[i].1=(cx[i].1).map UInt8.ofNat∧ot[i].2.1=(cx[i].2.1:Int)∧ot[i].2.2=(cx[i].2.2:Int):=by revert i;decide);obtain⟨m0,m1,m2⟩:=g i c;rw[e.1]at m0;rw[e.2.1]at m1;rw[e.2.2]at m2;exact⟨m0,m1,m2⟩
 ·intro i aj;have k:=vd (bs:=qZ.map fun p:List Nat=>p.map UInt8.ofNat) F2 F6 Tryz.underlying226 Tryz.underlying9 p2 h.tail.tail.tail.tail.tail.tail i (by simpa using aj);rw[k,List.getElem_map];rfl
 ·intro i aj;have k:=vd (bs:=opsL.map fun p:List Nat=>p.map UInt8.ofNat) F3 F7 Tryz.underlying225 Tryz.underlying9 p2 h.tail.tail.tail.tail.tail.tail.tail i (by simpa using aj);rw[k,List.getElem_map];rfl
theorem Gb(H:Type)(enc:TypeId×Value→H)(a:World)(base:Nat)(args:Array Value)(f gs:List (DataW H))(before:List MemPlace)(k:∀(j:Nat)t v,Tryz.f3.params[j]?=O t→args[j]?=O v→Value.okWide Tryz.prog a .any base t v)(i:DataW.Whole enc Tryz.prog Tryz.f3.params.toList Rows.topAlphaSpec.vars D a args.toList f gs before)(r:laidMet Tryz.prog Rows.topAlphaUptoRow.laid a):Calls Tryz.prog 3 args a fun e d=>∃v,e=.returned v∧Rows.topAlphaSpec.post enc Tryz.prog Tryz.f3 D K D D a args v d:=by
 have u:=i;obtain⟨p,q,hA0,s,rfl,P,Q⟩:=i;have g:DataW.TrodAll enc Tryz.prog a 0 (fun _=>K) K Tryz.f3.params.toList args.toList f p:=hA0;have c:=k;rw[Tryz.params3]at g c;obtain⟨v0,T,d0,F,B,R,L,rfl,rfl,h0,E⟩:=trodAll_cons g;obtain⟨v1,U,d1,G,C,S,rfl,rfl,rfl,h1,aJ⟩:=trodAll_cons E;obtain⟨rfl,rfl,rfl⟩:=trodAll_nil aJ;obtain rfl:args=#[v0,v1]:=by cases args;simp_all
 obtain⟨rfl,rfl⟩:=trodVars_none s;have l:=h0;have y:∀x∈B,x.block<a.heap.size:=by obtain⟨m,b⟩:=l;exact DataW.trod_lt m _ _ _ b
 have n:=h1;have z:∀x∈C,x.block<a.heap.size:=by obtain⟨m,b⟩:=n;exact DataW.trod_lt m _ _ _ b
 obtain⟨a0,rfl,rfl,rfl,aA⟩:=open_string Tryz.underlying9 (c 0 9 v0 rfl rfl) h0;obtain⟨aX,rfl,rfl,rfl,w1⟩:=open_string Tryz.underlying9 (c 1 9 v1 rfl rfl) h1;clear hA0 k;refine(FZ a0 aX a.heap.size a (Ga r)).mono fun e d⟨w,bt⟩=>?_;subst w;exact⟨_,rfl,_,_,_,[],_,[],u,trodAll_mk1 (shut_bool Tryz.underlying4 _),(trodAll_cons_mk (Below.trod laidOut (by kernel_rfl) (ig (by kernel_rfl)) l bt y) (trodAll_cons_mk (Below.trod laidOut (by kernel_rfl) (ig (by kernel_rfl)) n bt z) trodAll_mk0)),rfl,bt.frame _,fun h=>by cases h⟩
noncomputable def low:Nat:=(World.holding Tryz.prog default ⟨#[],#[],[]⟩).heap.size
abbrev Gc:ByteArray:={data:=#[105,110,118,97,108,105,100,32,115,121,110,116,97,120]}
abbrev Gd:ByteArray:={data:=#[118,97,108,117,101,32,111,117,116,32,111,102,32,114,97,110,103,101]}
def Ge:List Int:=[0,1,28,2,29,14,24,3,30,22,20,15,25,17,4,8,31,27,13,23,21,19,16,7,26,12,18,6,11,5,10,9]
def Gf:List Int:=[0,1,56,2,57,49,28,3,61,58,42,50,38,29,17,4,62,47,59,36,45,43,51,22,53,39,33,30,24,18,12,5,63,55,48,27,60,41,37,16,46,35,44,21,52,32,23,11,54,26,40,15,34,20,31,10,25,14,19,9,13,8,7,6]
def Gg:List Int:=[1,10,100,1000,10000,100000,1000000,10000000,100000000,1000000000,10000000000,100000000000,1000000000000,10000000000000,100000000000000,1000000000000000,10000000000000000,100000000000000000,1000000000000000000,10000000000000000000]
def Gh:Array Value:=#[.string {data:=#[58,45]},.int .i64 9,.int .i64 0,.string {data:=#[33,61]},.int .i64 11,.int .i64 2,.string {data:=#[60,61]},.int .i64 11,.int .i64 4,.string {data:=#[62,61]},.int .i64 11,.int .i64 6,.string {data:=#[60]},.int .i64 11,.int .i64 3,.string {data:=#[62]},.int .i64 11,.int .i64 5,.string {data:=#[61]},.int .i64 11,.int .i64 1,.string {data:=#[40]},.int .i64 5,.int .i64 0,.string {data:=#[41]},.int .i64 6,.int .i64 0,.string {data:=#[44]},.int .i64 7,.int .i64 0,.string {data:=#[46]},.int .i64 8,.int .i64 0]
def Gi:Array Value:=#[.string {data:=#[]},.string {data:=#[]},.string {data:=#[]},.string {data:=#[]},.string {data:=#[]},.string {data:=#[40]},.string {data:=#[41]},.string {data:=#[44]},.string {data:=#[46]},.string {data:=#[58,45]},.string {data:=#[110,111,116]},.string {data:=#[]}]
def Gj:Array Value:=#[.string {data:=#[]},.string {data:=#[61]},.string {data:=#[33,61]},.string {data:=#[60]},.string {data:=#[60,61]},.string {data:=#[62]},.string {data:=#[62,61]}]
def setRow(xs:Array Value):Obj→Obj|.cells _ t frozen=>.cells xs t frozen|o=>o
noncomputable abbrev xa:Input:=⟨#[.cells #[.string Gc] 260,.cells #[.string Gd] 260,.cells Gh 235],#[.string ByteArray.empty,.string ByteArray.empty],[]⟩
noncomputable def rZ(os:Os):World:={World.holding Tryz.prog os xa with heap:=((((((((World.holding Tryz.prog os xa).heap.modify 2 (setRow #[.slice (O ⟨low+2,0,Z⟩) 11 11])).modify 0 (setRow Gj)).modify 1 (setRow Gi)).modify 3 (setRow #[.iface 258 (.pointer (O ⟨low,0,Z⟩))])).modify 4 (setRow #[.iface 258 (.pointer (O ⟨low+1,0,Z⟩))])).modify 5 (setRow (Gg.map fun z=>Value.int .u64 z).toArray)).modify 6 (setRow (Ge.map fun z=>Value.int .u8 z).toArray)).modify 7 (setRow (Gf.map fun z=>Value.int .u8 z).toArray)}
theorem Gk(os:Os):laidMet Tryz.prog Rows.topAlphaUptoRow.laid ((rZ os).forCall (fun _ _=>0) ⟨#[],#[.string ByteArray.empty,.string ByteArray.empty],[]⟩).memory:=laidMet_of_run' 8 (by kernel_rfl) (by kernel_rfl)
theorem reads(os:Os){H:Type}(enc:TypeId×Value→H):∃a places,DataW.whole enc Tryz.prog ((rZ os).forCall (fun _ _=>0) ⟨#[],#[.string ByteArray.empty,.string ByteArray.empty],[]⟩).memory Tryz.f3.params.toList Rows.topAlphaSpec.vars D (#[.string ByteArray.empty,.string ByteArray.empty]:Array Value).toList 8=O (a,[],places)∧Rows.uptoSmall H (a++[])=K:=⟨[.lit (.string []),.lit (.string [])],[],by kernel_rfl,by simp[Rows.uptoSmall,Rows.uptoBulkAll,Rows.uptoBulk]⟩
theorem lifted(os:Os)(started:os.Started)(H:Type)(enc:TypeId×Value→H)(b:Stop.Interp):ReturnsInHanded {} Tryz.checked os 3 .any ((Rows.OpenSpec.upto Rows.topAlphaSpec).preRow enc Tryz.prog Tryz.f3 Rows.topAlphaUptoRow.domain D Rows.topAlphaUptoRow.laid) (((Rows.OpenSpec.upto Rows.topAlphaSpec).at b).post enc Tryz.prog Tryz.f3 D K D D):=by
 obtain⟨a,places,i,g⟩:=reads os enc;refine returnsInHanded_of_row (C:=Tryz.checked) (s:=Rows.OpenSpec.upto Rows.topAlphaSpec) own started (by kernel_rfl) Tryz.func3 (witness_row_atRef (enc:=enc) (C:=Tryz.checked) D (rZ os) #[.string ByteArray.empty,.string ByteArray.empty] rfl (by kernel_rfl) (by kernel_rfl) (by kernel_rfl) (OpenSpec.preRow_of_cond 8 i (by kernel_rfl) (fun k f=>by cases f;exact g) (by kernel_rfl) (Gk os))) ?_;intro c base args a gs before h e _ _ _ d _ _;exact Gb H enc c base args a gs before h e d
theorem said:Rows.TopAlphaUptoSaid:=OpenClaim.holds_of_cond 3 Tryz.f3 rfl rfl rfl rfl rfl rfl rfl ⟨rfl,rfl,rfl,rfl,rfl⟩ rfl rfl rfl rfl rfl (by kernel_rfl) Tryz.func3 (by kernel_rfl) (ig (by kernel_rfl)) (by unfold Func.isWrapper;first|(rw[if_pos (by decide+kernel)];kernel_rfl)|(rw[if_neg (by decide+kernel)];exact⟨rfl,rfl⟩)) (fun os started H enc _ a=>by rw[OpenClaim.pre_eq_preRow];exact lifted os started H enc a)
theorem plain(f:FuncId)(fn:Func)(a:Tryz.pinned.checked.prog.funcNamed "edict/edicttop.TopAlpha"=O f)(b:Tryz.pinned.checked.prog.funcs[f]?=O fn):K=Tryz.pinned.checked.prog.looks []∧∀(j:Nat)t,fn.params[j]?=O t→Tryz.pinned.checked.prog.wantsStandIn t=D:=by
 obtain rfl:f=3:=ee ((show Tryz.prog.funcNamed "edict/edicttop.TopAlpha"=O 3 by kernel_rfl).symm.trans a)|>.symm;obtain rfl:fn=Tryz.f3:=(ee (Tryz.func3.symm.trans b)).symm;refine⟨by kernel_rfl,fun j t av=>?_⟩;rw[Tryz.params3]at av;have h9:t=9:=by match j,av with|0,av=>simpa using av.symm|1,av=>simpa using av.symm|j+2,av=>simp at av
 rw[h9];exact(show Tryz.prog.wantsStandIn 9=D by kernel_rfl)
theorem card:Rows.TopAlphaUptoCardSaid:=Claim7.holds_tied_plain_at .later [] _ _ _ _ said (fun _ h=>by cases h) (by kernel_rfl) (fun _ h=>by cases h) topAlphaUpto_row_tie rfl ⟨rfl,rfl⟩ (by kernel_rfl) rfl plain (by kernel_rfl)
#print axioms card
end Go.Proofs.YtcmcicacdelmkaaGreatDoor.topAlphaProof
