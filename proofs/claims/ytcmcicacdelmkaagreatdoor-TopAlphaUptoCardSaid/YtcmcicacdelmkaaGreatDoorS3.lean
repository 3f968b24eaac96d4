/- Texts of this seat. Conditions: those that each of them states. -/
import Derived.Test.YtcmcicacdelmkaaGreatDoorS1
import Derived.Test.YtcmcicacdelmkaaGreatDoorS0
import Derived.OrdersHeld
import Derived.StillTailTactics
import Derived.Deep.RegionWith
import Derived.Shelf.Strings.Prefix
import Derived.Shelf.Strconv.ErrVarParseInt
import Derived.Test.YtcmcicacdelmkaaGreatDoorProg
open Option renaming none→Z,some→O
open Bool renaming true→K,false→D
open Go.Value renaming int→Y,slice→J,string→A,pointer→V
open Go.IntKind renaming i64→I
open Go.Obj renaming cells→M
open Go.Proofs.Tryz
set_option linter.all false
namespace Go.Proofs.YtcmcicacdelmkaaGreatDoor
open Go
section
variable{P:Program}{ops:Array Oper}{Q:Exit→Act→World→Prop}{md:Region.Mode}{S:World→Prop}{last:Nat}
def eD(P:Program)(md:Region.Mode)(ops:Array Oper)(Q:Exit→Act→World→Prop)(S:World→Prop)(last:Nat):Nat→Array Bool→Act→World→Prop|0,listed,a,w=>Region.ready md ops listed=[]∧Q .normal a w|fuel+1,listed,a,w=>(Region.ready md ops listed=[]→Q .normal a w)∧∀i∈Region.ready md ops listed,wpOp P ops Q i (fun b w'=>(i≠last→S w')∧eD P md ops Q S last fuel (listed.setIfInBounds i K) b w') a w
theorem tV:∀(fuel:Nat)(listed:Array Bool)(a:Act)(w:World),eD P md ops Q S last fuel listed a w→wpAny P md ops Q fuel listed a w|0,_,_,_,h=>h|fuel+1,_,_,_,h=>⟨h.1,fun i aj=>wpOp_mono (fun b w' c=>tV fuel _ b w' c.2) (h.2 i aj)⟩
theorem zF{i:Nat}{bn:Oper}{v:Value}(aj:ops[i]?=O bn)(y:∀(j:Nat)(o:Oper)cs b,ops[j]?=O o→o.op≠.select cs b)(T:Region.waitsFor md ops last i=K)(C:∀c a w,Q (.panic c) (a.put bn.dst v) w→Q (.panic c) a w):∀(fuel:Nat)(listed:Array Bool)(a:Act)(w:World),(∀j f,ops[j]?=O f→j≠i→listed.getD j K=D→(∀e∈f.after,Region.binds md e=K→e.on≠i)→bn.apart ops f=K)→i∈Region.ready md ops listed→YieldsIf P ops S bn v a→S w→eD P md ops Q S last fuel (listed.setIfInBounds i K) (a.put bn.dst v) w→eD P md ops Q S last (fuel+1) listed a w:=by
 intro fuel;induction fuel with|zero=>intro listed a w _ g p l H;refine⟨fun h=>(by rw[h]at g;cases g),fun j m=>?_⟩;by_cases d:j=i;(·subst d;exact p.wpOp aj l ⟨fun _=>l,H⟩);(·have:=ready_mono m d;rw[H.1]at this;cases this)|succ fuel aa=>intro listed a w s g p l H;refine⟨fun h=>(by rw[h]at g;cases g),fun j m=>?_⟩;by_cases d:j=i;(·subst d;exact p.wpOp aj l ⟨fun _=>l,H⟩);·have h1:=H.2 j (ready_mono m d);obtain⟨u,f,n,E⟩:=mem_ready.1 m;(have x:∀e∈f.after,Region.binds md e=K→e.on≠i:=fun e r ae heq=>by have h1:=E e r ae;have h0:=(mem_ready.1 g).1;rw[heq]at h1;rcases Nat.lt_or_ge i listed.size with q|q;(·simp[q]at h0 h1;rw[h0]at h1;cases h1);·simp[Array.getElem?_eq_none q]at h1);(have G:j≠last:=fun e=>by subst e;obtain⟨ol,X,e,r,ae,heq⟩:=Region.waitsFor_spec T;obtain rfl:ol=f:=ee (X.symm.trans n);exact x e r ae heq);have h2:=wpOp_putIf n (s j f n d u x) (fun cs b=>y i bn cs b aj) (fun cs b=>y j f cs b n) C p h1;(have F:∀k ok,ops[k]?=O ok→k≠i→(listed.setIfInBounds j K).getD k K=D→(∀e∈ok.after,Region.binds md e=K→e.on≠i)→bn.apart ops ok=K:=fun k ok L R z U=>by refine s k ok L R ?_ U;by_cases t:j=k;(·subst t;exact u);·rw[getD_set_ne K t]at z;exact z);refine wpOp_mono (fun B w' h3=>⟨h3.2.1,aa (listed.setIfInBounds j K) B w' F (ready_mono g (Ne.symm d)) h3.1 (h3.2.1 G) ?_⟩) h2;rw[Array.setIfInBounds_comm _ _ d];exact h3.2.2
theorem zG(i:Nat){bn:Oper}{d:Option Tmp}{v:Value}{fuel:Nat}{listed:Array Bool}{a:Act}{w:World}(aj:ops[i]?=O bn)(ar:bn.dst=d)(ak:(Region.noSelect ops&&Region.free md ops listed i&&(Region.ready md ops listed).contains i&&Region.waitsFor md ops last i)=K)(b:∀c a w,Q (.panic c) (a.put d v) w→Q (.panic c) a w)(e:S w)(f:YieldsIf P ops S bn v a)(h:eD P md ops Q S last fuel (listed.setIfInBounds i K) (a.put d v) w):eD P md ops Q S last (fuel+1) listed a w:=by
 subst ar;simp only[gF]at ak;exact zF aj (Region.noSelect_spec ak.1.1.1) ak.2 b fuel listed a w (Region.free_spec aj ak.1.1.2) (by simpa using ak.1.2) f e h
theorem d'(i:Nat){bn:Oper}{fuel:Nat}{listed:Array Bool}{a:Act}{w:World}(aj:ops[i]?=O bn)(e:Region.ready md ops listed=[i])(h:∀b:Act→World→Prop,(∀c w',(i≠last→S w')→eD P md ops Q S last fuel (listed.setIfInBounds i K) c w'→b c w')→if Region.wanted bn (yielded ops a.tmps)=K then Oper.wp P bn a w b Q else b (a.put bn.dst undef) w):eD P md ops Q S last (fuel+1) listed a w:=by
 refine⟨fun h0=>(by rw[e]at h0;cases h0),fun j d=>?_⟩;rw[e]at d;obtain rfl:j=i:=by simpa using d
 exact wpOp_step aj (fun b f=>h b (fun c w' h1 h2=>f c w' ⟨h1,h2⟩))
theorem fB{listed:Array Bool}{a:Act}{w:World}(b:Region.ready md ops listed=[])(h:Q .normal a w):∀fuel,eD P md ops Q S last fuel listed a w|0=>⟨b,h⟩|_+1=>⟨fun _=>h,by rw[b];simp⟩
theorem fj{id:Nat}{a:Act}{w:World}(S:World→Prop)(last:Nat)(b:P.follows .mixedOrders=K)(h:eD P .any ops Q S last ops.size (Array.replicate ops.size D) a w.drew):(Code.region id ops K).wp P Q a w:=wp_region_any b (tV _ _ _ _ h)
variable{dy rest:List Oper}{k:Nat}{listed:Array Bool}{a:Act}{w:World}{o p:Oper}
def qE(md:Region.Mode)(ops:Array Oper)(listed:Array Bool)(last i:Nat):Bool:=Region.noSelect ops&&Region.free md ops listed i&&(Region.ready md ops listed).contains i&&Region.waitsFor md ops last i
end
end Go.Proofs.YtcmcicacdelmkaaGreatDoor
namespace Go.Proofs
open Go.Shelf
def Tryz.zH:Go.Shelf.Ren:=⟨fun|99=>136|206=>145|n=>n,fun|9=>9|4=>4|3=>3|n=>n,fun|n=>n⟩
theorem Tryz.zI : Go.Proofs.Lays.n99 Tryz.prog Tryz.zH := {
 mixed := by kernel_rfl
 f99 := Tryz.func136.trans (congrArg O (by kernel_rfl))
 f206 := Tryz.func145.trans (congrArg O (by kernel_rfl))
 t3 := Tryz.underlying3
 a3 := Tryz.isAgg3
 z3 := Tryz.sizeOf3
 v3 := Tryz.zeroValue3
 t4 := Tryz.underlying4
 a4 := Tryz.isAgg4
 z4 := Tryz.sizeOf4
 v4 := Tryz.zeroValue4
 t9 := Tryz.underlying9
 a9 := Tryz.isAgg9
 z9 := Tryz.sizeOf9
 v9 := Tryz.zeroValue9 }
def Tryz.zJ:Go.Shelf.Ren:=⟨fun|174=>141|247=>146|245=>147|287=>149|279=>150|280=>151|281=>152|282=>153|321=>154|322=>155|316=>156|171=>158|205=>157|243=>159|246=>160|283=>161|284=>162|285=>163|286=>164|129=>166|317=>165|318=>167|319=>168|320=>169|337=>170|338=>171|n=>n,fun|9=>9|3=>3|2=>2|75=>238|85=>239|4=>4|167=>245|5=>5|53=>78|175=>246|46=>244|168=>248|37=>241|0=>0|210=>255|21=>21|127=>257|145=>260|143=>258|171=>262|173=>265|212=>268|51=>269|20=>20|213=>270|232=>273|233=>274|80=>275|n=>n,fun|15=>3|16=>4|17=>5|18=>6|19=>7|n=>n⟩
theorem Tryz.tW : Go.Proofs.LaysC.n174 Tryz.prog Tryz.zJ := {
 mixed := by kernel_rfl
 f129 := Tryz.func166.trans (congrArg O (by kernel_rfl))
 f171 := Tryz.func158.trans (congrArg O (by kernel_rfl))
 f174 := Tryz.func141.trans (congrArg O (by kernel_rfl))
 f205 := Tryz.func157.trans (congrArg O (by kernel_rfl))
 f243 := Tryz.func159.trans (congrArg O (by kernel_rfl))
 f245 := Tryz.func147.trans (congrArg O (by kernel_rfl))
 f246 := Tryz.func160.trans (congrArg O (by kernel_rfl))
 f247 := Tryz.func146.trans (congrArg O (by kernel_rfl))
 f279 := Tryz.func150.trans (congrArg O (by kernel_rfl))
 f280 := Tryz.func151.trans (congrArg O (by kernel_rfl))
 f281 := Tryz.func152.trans (congrArg O (by kernel_rfl))
 f282 := Tryz.func153.trans (congrArg O (by kernel_rfl))
 f283 := Tryz.func161.trans (congrArg O (by kernel_rfl))
 f284 := Tryz.func162.trans (congrArg O (by kernel_rfl))
 f285 := Tryz.func163.trans (congrArg O (by kernel_rfl))
 f286 := Tryz.func164.trans (congrArg O (by kernel_rfl))
 f287 := Tryz.func149.trans (congrArg O (by kernel_rfl))
 f316 := Tryz.func156.trans (congrArg O (by kernel_rfl))
 f317 := Tryz.func165.trans (congrArg O (by kernel_rfl))
 f318 := Tryz.func167.trans (congrArg O (by kernel_rfl))
 f319 := Tryz.func168.trans (congrArg O (by kernel_rfl))
 f320 := Tryz.func169.trans (congrArg O (by kernel_rfl))
 f321 := Tryz.func154.trans (congrArg O (by kernel_rfl))
 f322 := Tryz.func155.trans (congrArg O (by kernel_rfl))
 f337 := Tryz.func170.trans (congrArg O (by kernel_rfl))
 f338 := Tryz.func171.trans (congrArg O (by kernel_rfl))
 t0 := Tryz.underlying0
 a0 := Tryz.isAgg0
 z0 := Tryz.sizeOf0
 v0 := Tryz.zeroValue0
 t2 := Tryz.underlying2
 a2 := Tryz.isAgg2
 z2 := Tryz.sizeOf2
 v2 := Tryz.zeroValue2
 t3 := Tryz.underlying3
 a3 := Tryz.isAgg3
 z3 := Tryz.sizeOf3
 v3 := Tryz.zeroValue3
 t4 := Tryz.underlying4
 a4 := Tryz.isAgg4
 z4 := Tryz.sizeOf4
 v4 := Tryz.zeroValue4
 t5 := Tryz.underlying5
 a5 := Tryz.isAgg5
 z5 := Tryz.sizeOf5
 v5 := Tryz.zeroValue5
 t9 := Tryz.underlying9
 a9 := Tryz.isAgg9
 z9 := Tryz.sizeOf9
 v9 := Tryz.zeroValue9
 t20 := Tryz.underlying20
 a20 := Tryz.isAgg20
 z20 := Tryz.sizeOf20
 v20 := Tryz.zeroValue20
 t21 := Tryz.underlying21
 a21 := Tryz.isAgg21
 z21 := Tryz.sizeOf21
 v21 := Tryz.zeroValue21
 t37 := Tryz.underlying241
 a37 := Tryz.isAgg241
 z37 := Tryz.sizeOf241
 v37 := Tryz.zeroValue241
 t46 := Tryz.underlying244
 a46 := Tryz.isAgg244
 z46 := Tryz.sizeOf244
 v46 := Tryz.zeroValue244
 t51 := Tryz.underlying269
 a51 := Tryz.isAgg269
 z51 := Tryz.sizeOf269
 v51 := Tryz.zeroValue269
 t53 := Tryz.underlying78
 a53 := Tryz.isAgg78
 z53 := Tryz.sizeOf78
 v53 := Tryz.zeroValue78
 t75 := Tryz.underlying238
 a75 := Tryz.isAgg238
 z75 := Tryz.sizeOf238
 v75 := Tryz.zeroValue238
 t85 := Tryz.underlying239
 a85 := Tryz.isAgg239
 z85 := Tryz.sizeOf239
 v85 := Tryz.zeroValue239
 t127 := Tryz.underlying257
 a127 := Tryz.isAgg257
 z127 := Tryz.sizeOf257
 v127 := Tryz.zeroValue257
 t143 := Tryz.underlying258
 a143 := Tryz.isAgg258
 z143 := Tryz.sizeOf258
 v143 := Tryz.zeroValue258
 t145 := Tryz.underlying260
 a145 := Tryz.isAgg260
 z145 := Tryz.sizeOf260
 v145 := Tryz.zeroValue260
 t167 := Tryz.underlying245
 a167 := Tryz.isAgg245
 z167 := Tryz.sizeOf245
 v167 := Tryz.zeroValue245
 t168 := Tryz.underlying248
 a168 := Tryz.isAgg248
 z168 := Tryz.sizeOf248
 v168 := Tryz.zeroValue248
 t171 := Tryz.underlying262
 a171 := Tryz.isAgg262
 z171 := Tryz.sizeOf262
 v171 := Tryz.zeroValue262
 t173 := Tryz.underlying265
 a173 := Tryz.isAgg265
 z173 := Tryz.sizeOf265
 v173 := Tryz.zeroValue265
 t175 := Tryz.underlying246
 a175 := Tryz.isAgg246
 z175 := Tryz.sizeOf246
 v175 := Tryz.zeroValue246
 t210 := Tryz.underlying255
 a210 := Tryz.isAgg255
 z210 := Tryz.sizeOf255
 v210 := Tryz.zeroValue255
 t212 := Tryz.underlying268
 a212 := Tryz.isAgg268
 z212 := Tryz.sizeOf268
 v212 := Tryz.zeroValue268
 t213 := Tryz.underlying270
 a213 := Tryz.isAgg270
 z213 := Tryz.sizeOf270
 t232 := Tryz.underlying273
 a232 := Tryz.isAgg273
 z232 := Tryz.sizeOf273
 v232 := Tryz.zeroValue273
 t233 := Tryz.underlying274
 a233 := Tryz.isAgg274
 z233 := Tryz.sizeOf274
 v233 := Tryz.zeroValue274
 g15 := by kernel_rfl
 g16 := by kernel_rfl
 g17 := by kernel_rfl
 g18 := by kernel_rfl
 g19 := by kernel_rfl
 t80 := Tryz.underlying275
 a80 := Tryz.isAgg275
 z80 := Tryz.sizeOf275
 v80 := Tryz.zeroValue275
 i0 := by kernel_rfl
 i2 := by kernel_rfl
 i3 := by kernel_rfl
 i4 := by kernel_rfl
 i5 := by kernel_rfl
 i9 := by kernel_rfl
 i20 := by kernel_rfl
 i21 := by kernel_rfl
 i37 := by kernel_rfl
 i46 := by kernel_rfl
 i51 := by kernel_rfl
 i53 := by kernel_rfl
 i75 := by kernel_rfl
 i80 := by kernel_rfl
 i85 := by kernel_rfl
 i127 := by kernel_rfl
 i143 := by kernel_rfl
 i145 := by kernel_rfl
 i167 := by kernel_rfl
 i168 := by kernel_rfl
 i171 := by kernel_rfl
 i173 := by kernel_rfl
 i175 := by kernel_rfl
 i210 := by kernel_rfl
 i212 := by kernel_rfl
 i232 := by kernel_rfl
 i233 := by kernel_rfl
 m15 := by kernel_rfl
 m16 := by kernel_rfl
 m17 := by kernel_rfl
 m18 := by kernel_rfl
 m19 := by kernel_rfl
 c0 := by kernel_rfl
 c2 := by kernel_rfl
 c3 := by kernel_rfl
 c4 := by kernel_rfl
 c5 := by kernel_rfl
 c9 := by kernel_rfl
 c20 := by kernel_rfl
 c21 := by kernel_rfl
 c37 := by kernel_rfl
 c46 := by kernel_rfl
 c51 := by kernel_rfl
 c53 := by kernel_rfl
 c75 := by kernel_rfl
 c80 := by kernel_rfl
 c85 := by kernel_rfl
 c127 := by kernel_rfl
 c143 := by kernel_rfl
 c145 := by kernel_rfl
 c167 := by kernel_rfl
 c168 := by kernel_rfl
 c171 := by kernel_rfl
 c173 := by kernel_rfl
 c175 := by kernel_rfl
 c210 := by kernel_rfl
 c212 := by kernel_rfl
 c213 := by kernel_rfl
 c232 := by kernel_rfl
 c233 := by kernel_rfl }
end Go.Proofs
