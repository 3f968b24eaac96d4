/- Texts of this seat. Conditions: those that each of them states. -/
import Derived.Test.YtcmcicacdelmkaaGreatDoorS4
import Derived.Deep.RegionHeld3
import Derived.Deep.AppendLies
import Derived.Deep.DrawnRows
import Derived.Laws.AppendOwnNone
import Derived.StillTailTactics
open Option renaming none→Z,some→O
open Bool renaming true→K,false→D
open Go.Value renaming int→Y,slice→J,string→A,pointer→V
open Go.IntKind renaming i64→I
open Go.Obj renaming cells→M
open Go.Proofs.Tryz
set_option maxRecDepth 100000
set_option maxHeartbeats 1600000
set_option linter.all false
namespace Go.Proofs.YtcmcicacdelmkaaGreatDoor.bN
open Go.RowKit Plain
theorem lQ{P:Program}(w:World){ops:Array Oper}{o:Oper}{a:Act}{aE:Act→World→Prop}{Q:Exit→Act→World→Prop}{E:Prop}(k:o.guard=Z)(s x:Operand)(t:TypeId)(q:o.op=.call {callee:=.builtin .append,args:=#[s,x],argTypes:=#[t,t]})(base:Nat)(e:TypeId)(i:TypeInfo)(z:Value)(size bytes:Nat)(av:P.underlying t=O (.slice e))(aj:P.info? e=O i)(G:i.zero=O z)(y:i.size=size)(f:i.bytes=bytes)(H:z.cells.size=size)(B:0<size)(v:Value)(n:Nat)(xs:List Value)(aq:a.eval s=v)(r:w.ownsRow base e size v n xs)(b:Addr)(m c:Nat)(news:List Value)(F:a.eval x=J (O b) m c)(l:news.length=m*size)(p:∀j u,news[j]?=O u→w.cell? (b.add j)=O u)(h1:∀u∈news,u.oneCell'=K)(h63:n+m≤maxLen)(g:(n+m)*bytes≤140737488355328)(d:base≤w.heap.size)(h:∀bo w',w'.ownsRow base e size bo (n+m) (xs++news)→w.grownBy w' v.ownBlock→(bo=J Z 0 0↔v=J Z 0 0∧m=0)→aE (a.put o.dst bo) w'):if Region.wanted o (yielded ops a.tmps)=K then Oper.wp P o a w aE Q else E:=by
 have C:Region.wanted o (yielded ops a.tmps)=K:=by simp[Region.wanted,k]
 rw[if_pos C];exact wp_append_own w s x t q base e i z size bytes av aj G y f H B v n xs aq r b m c news F l p h1 h63 g d h
def my(v:Value):Prop:=∀n c,v=J Z n c→n=0∧c=0
theorem addr_add(g off k:Nat):(⟨g,off,Z⟩:Addr).add k=⟨g,off+k,Z⟩:=by
 unfold Addr.add;split;·rename_i h;subst h;rfl
 ·rfl
theorem dB.news{w:World}{B:Nat}{d:Addr}{n c:Nat}{l:List Int}(h:dB w B (J (O d) n c) l):∀j u,(lits l)[j]?=O u→w.cell? (d.add j)=O u:=by
 intro j u f;obtain⟨a,cap,e,h⟩:=h;simp only[Value.slice.injEq]at e;obtain⟨rfl,rfl,rfl⟩:=e;have b:j<l.length:=by rw[←o2];exact(e8.1 f).1
 rcases h with rfl|⟨g,off,h1,_,ak⟩;·simp at b
 ·obtain rfl:=ee h1;rw[addr_add,ak j b,←f,qF l j b]
theorem tY(l:List Int):∀u∈lits l,u.oneCell'=K:=by
 intro u hu;simp[lits]at hu;obtain⟨d,_,rfl⟩:=hu;rfl
def fm(w:World)(B:Nat)(v:Value)(ao:List aD):Prop:=∃(a:Option Addr)(cap:Nat),v=J a ao.length cap∧(ao=[]∨∃g off,a=O ⟨g,off,Z⟩∧g<B∧∀(j:Nat)(s:aD),ao[j]?=O s→∃u,w.cell? ⟨g,off+j*2,Z⟩=O (Y I s.af)∧w.cell? ⟨g,off+j*2+1,Z⟩=O u∧dB w B u s.cells∧my u)
def kA(ao:List aD):Prop:=∀s,s∈ao→hy s∧s.cells.length≤17592186044400
theorem fm.below{w w':World}{B:Nat}{v:Value}{ao:List aD}(h:fm w B v ao)(ae:Below B w w'):fm w' B v ao:=by
 obtain⟨a,cap,rfl,h⟩:=h;refine⟨a,cap,rfl,?_⟩;rcases h with rfl|⟨g,off,rfl,b,ak⟩;·exact .inl rfl
 ·refine .inr ⟨g,off,rfl,b,fun j s c=>?_⟩;obtain⟨u,h1,h2,h3,h4⟩:=ak j s c;exact⟨u,gO ae b h1,gO ae b h2,h3.below ae,h4⟩
theorem fm.mono{w:World}{B cV:Nat}{v:Value}{ao:List aD}(h:fm w B v ao)(ae:B≤cV):fm w cV v ao:=by
 obtain⟨a,cap,rfl,h⟩:=h;refine⟨a,cap,rfl,?_⟩;rcases h with rfl|⟨g,off,rfl,c,ak⟩;·exact .inl rfl
 ·refine .inr ⟨g,off,rfl,by omega,fun j s b=>?_⟩;obtain⟨u,h1,h2,h3,h4⟩:=ak j s b;exact⟨u,h1,h2,h3.mono ae,h4⟩
def flat:List aD→List Value→List Value|s::ao,u::vs=>Y I s.af::u::flat ao vs|_,_=>[]
theorem tZ:∀(ao:List aD)(vs:List Value)(s:aD)(u:Value),vs.length=ao.length→flat (ao++[s]) (vs++[u])=flat ao vs++[Y I s.af,u]|[],[],_,_,_=>rfl|t::ao,x::vs,s,u,h=>by have:=tZ ao vs s u (by simpa using h);simp[flat,this]|[],_::_,_,_,h=>by simp at h|_::_,[],_,_,h=>by simp at h
theorem t':∀(ao:List aD)(vs:List Value)(j:Nat)(s:aD)(u:Value),ao[j]?=O s→vs[j]?=O u→(flat ao vs)[j*2]?=O (Y I s.af)∧(flat ao vs)[j*2+1]?=O u|[],_,_,_,_,h,_=>by simp at h|_::_,[],_,_,_,_,h=>by simp at h|t::ao,x::vs,0,s,u,h1,h2=>by simp at h1 h2;subst h1 h2;exact⟨rfl,rfl⟩|t::ao,x::vs,j+1,s,u,h1,h2=>by have:=t' ao vs j s u (by simpa using h1) (by simpa using h2);rw[show(j+1)*2=j*2+1+1 by omega];exact this
def fY(w:World)(B:Nat)(v:Value)(ao:List aD):Prop:=∃vs:List Value,vs.length=ao.length∧w.ownsRow B 25 2 v ao.length (flat ao vs)∧∀(j:Nat)(s:aD)(u:Value),ao[j]?=O s→vs[j]?=O u→cu w B u s.cells
theorem fY.nil(w:World)(B:Nat):fY w B (J Z 0 0) []:=⟨[],rfl,dX _ _ _ _,fun j s u h=>by simp at h⟩
theorem cu.o5{w:World}{B:Nat}{v:Value}{l:List Int}(h:cu w B v l):my v:=by
 intro n c e;rcases db h with⟨rfl,h0⟩|⟨g,cap,rfl⟩;·simp only[Value.slice.injEq]at e;exact⟨e.2.1.symm,e.2.2.symm⟩
 ·simp at e
theorem fY.at{w:World}{B:Nat}{v:Value}{ao:List aD}(h:fY w B v ao):fm w w.heap.size v ao:=by
 obtain⟨vs,f,a,aj⟩:=h;rcases db a with⟨rfl,h0⟩|⟨g,cap,rfl⟩;·obtain rfl:=jn.1 h0;exact⟨Z,0,rfl,.inl rfl⟩
 ·refine⟨_,cap,rfl,.inr ⟨g,0,rfl,(a.lt g rfl).2,fun j s b=>?_⟩⟩;have e:j<ao.length:=(e8.1 b).1;obtain⟨u,hu⟩:∃u,vs[j]?=O u:=⟨vs[j]'(by omega),cr (by omega)⟩;have c:=t' ao vs j s u b hu;have d:=aj j s u b hu;refine⟨u,?_,?_,d.at,d.o5⟩;(·rw[Nat.zero_add,World.ownsRow.cellAt a (j*2) (by omega)];exact c.1);·rw[Nat.zero_add,World.ownsRow.cellAt a (j*2+1) (by omega)];exact c.2
theorem qG{w:World}{B cV:Nat}{e b:TypeId}{size m:Nat}{v bo:Value}{n l:Nat}{xs p:List Value}(h:w.ownsRow B e size v n xs)(i:w.ownsRow cV b m bo l p)(j:e≠b):v.ownBlock=Z∨v.ownBlock≠bo.ownBlock:=by
 rcases h.2 with⟨rfl,_⟩|⟨g,cap,r,rfl,_,k,_⟩;·exact .inl rfl
 ·rcases i.2 with⟨rfl,_⟩|⟨f,q,s,rfl,_,a,_⟩;(·exact .inr (by simp[Value.ownBlock]));·refine .inr fun c=>j ?_;(have d:g=f:=by simpa[Value.ownBlock]using c);subst d;rw[k]at a;simp only[e9,Obj.cells.injEq]at a;exact a.2.1
theorem o6{w:World}{B:Nat}{e:TypeId}{size:Nat}{v:Value}{n:Nat}{xs:List Value}(h:w.ownsRow B e size v n xs){r:Option Nat}(a:r=Z∨∃k,r=O k∧w.heap.size≤k):v.ownBlock=Z∨v.ownBlock≠r:=by
 rcases b:v.ownBlock with _|k;·exact .inl rfl
 ·right;have:=(h.lt k b).2;rcases a with rfl|⟨d,rfl,c⟩;(·simp);·simp;omega
theorem fY.kept{w w':World}{B:Nat}{v:Value}{ao:List aD}{r:Option Nat}(h:fY w B v ao)(c:r=Z∨∃k,r=O k∧w.heap.size≤k)(a:w.grownBy w' r):fY w' B v ao:=by
 obtain⟨vs,d,b,aj⟩:=h;exact⟨vs,d,b.kept a (o6 b c),fun j s u h1 h2=>(aj j s u h1 h2).kept a (o6 (aj j s u h1 h2) c)⟩
theorem fY.snoc{w an:World}{B:Nat}{v bo u:Value}{ao:List aD}{s:aD}{vs:List Value}(a:vs.length=ao.length)(c:w.ownsRow B 25 2 v ao.length (flat ao vs))(aj:∀(j:Nat)(s:aD)(u:Value),ao[j]?=O s→vs[j]?=O u→cu w B u s.cells)(hu:cu w B u s.cells)(h:an.ownsRow B 25 2 bo (ao.length+1) (flat ao vs++[Y I s.af,u]))(b:w.grownBy an v.ownBlock):fY an B bo (ao++[s]):=by
 refine⟨vs++[u],by simp[a],?_,fun j t x h1 h2=>?_⟩;·rw[tZ _ _ _ _ a,ba,er];exact h
 ·have g:j<(ao++[s]).length:=(e8.1 h1).1;rw[ba,er]at g;by_cases e:j<ao.length;(·rw[ie e]at h1;rw[ie (by omega)]at h2;have:=aj j t x h1 h2;exact World.ownsRow.kept this b (qG this c (by decide)));·(obtain rfl:j=ao.length:=by omega);(have d:(ao++[s])[ao.length]?=O s:=by simp);(have f:(vs++[u])[ao.length]?=O u:=by rw[←a];simp);rw[d]at h1;rw[f]at h2;obtain rfl:=ee h1;obtain rfl:=ee h2;exact World.ownsRow.kept hu b (qG hu c (by decide))
end Go.Proofs.YtcmcicacdelmkaaGreatDoor.bN
namespace Go.Proofs.YtcmcicacdelmkaaGreatDoor.bN
open Go.RowKit Plain
attribute [local go_sem ↓] Go.wp_at_zero Go.wp_at_succ
theorem zL(p:Int){w:World}{B:Nat}{u:Value}{l:List Int}(h:cu w B u l):∀x∈[Value.int .i64 p,u],x.oneCell'=K:=by
 intro x a;simp only[dz,List.not_mem_nil,or_false]at a;rcases a with rfl|rfl;·rfl
 ·rcases db h with⟨rfl,_⟩|⟨g,cap,rfl⟩<;>rfl
end Go.Proofs.YtcmcicacdelmkaaGreatDoor.bN
namespace Go.Proofs.YtcmcicacdelmkaaGreatDoor.bN
open Go.RowKit Plain
theorem fm.get{w:World}{B g off c:Nat}{n:Nat}{ao:List aD}(h:fm w B (J (O ⟨g,off,Z⟩) n c) ao){i:Nat}{s:aD}(aq:ao[i]?=O s):g<B∧∃u,w.cell? ⟨g,off+i*2,Z⟩=O (Y I s.af)∧w.cell? ⟨g,off+i*2+1,Z⟩=O u∧dB w B u s.cells∧my u:=by
 obtain⟨a,cap,e,h⟩:=h;simp only[Value.slice.injEq]at e;obtain⟨rfl,rfl,rfl⟩:=e;rcases h with rfl|⟨d,f,h1,b,ak⟩;·simp at aq
 ·simp only[e9,Addr.mk.injEq,and_true]at h1;obtain⟨rfl,rfl⟩:=h1;exact⟨b,ak i s aq⟩
theorem fm.form{w:World}{B:Nat}{v:Value}{ao:List aD}(h:fm w B v ao):∃a c,v=J a ao.length c∧(ao≠[]→∃g off,a=O ⟨g,off,Z⟩):=by
 obtain⟨a,cap,rfl,h⟩:=h;refine⟨a,cap,rfl,fun b=>?_⟩;obtain⟨g,off,h1,_⟩:=h.resolve_left b;exact⟨g,off,h1⟩
theorem o7{α:Type}{l:List α}{i:Nat}(h:i<l.length):l≠[]:=fun e=>by
 rw[e]at h;simp at h
theorem cu.form{w:World}{B:Nat}{v:Value}{l:List Int}(h:cu w B v l):∃a n c,v=J a n c:=by
 rcases db h with⟨rfl,_⟩|⟨g,cap,rfl⟩;·exact⟨_,_,_,rfl⟩
 ·exact⟨_,_,_,rfl⟩
def zM(l:List Int)(w:World)(e:Ending)(w':World):Prop:=∃v,e=.returned v∧cu w' w.heap.size v l∧Below w.heap.size w w'
theorem ua(l:List Int)(v:Value)(w:World)(b:dB w w.heap.size v l)(e:my v)(s:l.length≤17592186044400):Calls prog 40 #[v] w (zM l w):=by
 obtain⟨i3,r,n,p,q⟩:=info_parts o4;obtain⟨a,c,rfl,_⟩:=id b;rcases a with _|d;·obtain⟨g,h⟩:=e _ _ rfl;have h0:l=[]:=jn.1 g;subst h0 h;have heq:∀w,(binOp .eql 23 (J Z 0 0) (J Z 0 0)).run prog w=.ok (.bool K) w:=fun w=>Lib.run_eql_slice_nil w 23 3 Z 0 0 0 0 underlying23;clear b e;go_enter func40,ntmps40;go_wp2;go_ret;exact⟨_,rfl,cu.nil _ _,bP _ _⟩
 ·have f:=N ((b.alloc (aG _) (M #[] 3)).news);have heq:∀w,(binOp .eql 23 (J (O d) l.length c) (J Z 0 0)).run prog w=.ok (.bool D) w:=fun w=>Lib.run_eql_slice_nil w 23 3 (O d) _ _ _ _ underlying23;clear b e;go_enter func40,ntmps40;go_wp2_with(at_builtin;refine eI _ rfl _ _ 23 rfl w.heap.size 3 i3 (Y I 0) 1 8 underlying23 r n p q rfl (by decide) (J (O ⟨w.heap.size,0,Z⟩) 0 0) 0 [] rfl (World.ownsRow_made w #[] 0 (aG _) (by decide) rfl) d l.length c (lits l) rfl (by rw[o2,Nat.mul_one]) f.o (tY _) (by unfold maxLen;omega) (by omega) (by simp) ?_;intro bo w1 m i _);go_ret;refine⟨bo,rfl,by unfold cu;simpa only[Nat.zero_add,List.nil_append]using m,((bP _ _).alloc (aG _) _).grown i (by simp) (fun k j=>?_)⟩;simp[Value.ownBlock]at j;omega
theorem zN(p:Int)(u:Value)(w:World):Calls prog 48 #[Y I p,u] w fun e w'=>e=.returned (.bool D)∧w=w':=by
 go_enter func48,ntmps48;go_wp2;go_ret;exact⟨rfl,rfl⟩
theorem ub(s:aD)(p:Int)(row:List Int)(u aU:Value)(bs H:Nat)(w:World)(T:cU s=K)(aq:hy s)(ac:row.length≤35184372088832)(hu:dB w w.heap.size u row)(ak:dB w w.heap.size aU s.cells)(h0:w.cell? ⟨bs,0,Z⟩=O (Y I s.af))(h2:w.cell? ⟨H,0,Z⟩=O aU):Calls prog 49 #[Y I p,u,V (O ⟨bs,0,Z⟩),V (O ⟨H,0,Z⟩)] w fun e w'=>e=.returned (.bool (ds s p row))∧w=w':=by
 obtain⟨q,E⟩:=aa (ds s p row);rw[←E];have h:=N E;clear E;obtain⟨b,ag,rfl,ae⟩:=hu;have C:=N ae;obtain⟨a,ad,rfl,L⟩:=ak;have v:=N L;have ao:=aq.len;have G:=N T;clear L ae T;by_cases hp:p=s.af;·by_cases r:row.length=s.cells.length;(·(have F:(p !=s.af)=D:=by simp[hp]);(have S:((s.cells.length:Int)!=(s.cells.length:Int))=D:=by simp);have m:=N r;have X:=N hp;rw[r]at ac⊢;clear r hp;go_enter func49,ntmps49;go_wp2;clear F S;go_loop[23](fun k=>∃i:Nat,k=Y I i∧i≤s.cells.length∧W (ik (iY s.cells row) i))(fun k=>s.cells.length-(intOf k).toNat);(case atStart=>exact⟨0,rfl,aZ _,ik.start _⟩);case round=>obtain⟨i,rfl,aj,n⟩:=hrel;by_cases h1:i<s.cells.length;(·obtain⟨g,off,rfl,P,ak⟩:=v.o.resolve_left (fun e=>by rw[e]at h1;simp at h1);obtain⟨g2,U,rfl,Q,ar⟩:=C.o.resolve_left (fun e=>by rw[←m.o,e]at h1;simp at h1);obtain⟨x,c⟩:=aa (at' s.cells i);obtain⟨y,l⟩:=aa (at' row i);(have ah:w.cell? ⟨g,off+i,Z⟩=O (Y I x):=by rw[c];exact ak i h1);(have ai:w.cell? ⟨g2,U+i,Z⟩=O (Y I y):=by rw[l];exact ar i (by rw[m.o];exact h1));(have ap:-9223372036854775808≤x∧x≤9223372036854775807:=by rw[c];exact aq.ints i);by_cases h2:x<0;(·obtain⟨j,R⟩:∃j:Nat,-1-x=(j:Int):=⟨(-1-x).toNat,by omega⟩;(have al:j≤i:=by obtain⟨k,ab,an,_⟩:=ox G.o h1 (by rw[←c];exact h2);rw[←c]at ab;omega);obtain⟨z,t⟩:=aa (at' row j);(have hC:w.cell? ⟨g2,U+j,Z⟩=O (Y I z):=by rw[t];exact ar j (by rw[m.o];omega));(have am:j<s.cells.length:=by omega);clear ak ar P Q v C aq;by_cases d:y=z;(·have B:=N (n.o.round (by rw[ov c l h2 R t,d];simp));(have ae:(z !=z)=D:=by simp);subst d;clear c l t n;go_wp2;go_round;(case rel=>exact⟨i+1,by go_num,by omega,B.o⟩);case measure=>simp only[intOf];omega);·(have ae:(y !=z)=K:=by simpa using d);have f:=N (show q=D by rw[h.o];exact r6 (by rw[m.o];exact h1) (by rw[ov c l h2 R t];simpa using d));clear c l t n d h;go_wp2;go_ret;exact⟨dH f.o.symm,rfl⟩);·clear ak ar P Q v C aq;by_cases d:y=x;(·have B:=N (n.o.round (by rw[ou c l (by omega),d];simp));(have ae:(x !=x)=D:=by simp);subst d;clear c l n;go_wp2;go_round;(case rel=>exact⟨i+1,by go_num,by omega,B.o⟩);case measure=>simp only[intOf];omega);·(have ae:(y !=x)=K:=by simpa using d);have f:=N (show q=D by rw[h.o];exact r6 (by rw[m.o];exact h1) (by rw[ou c l (by omega)];simpa using d));clear c l n d h;go_wp2;go_ret;exact⟨dH f.o.symm,rfl⟩);·(have e:i=s.cells.length:=by omega);have f:=N (show q=K by rw[h.o];exact r7 G.o X.o m.o (by rw[m.o,←e];exact n.o));clear e;go_wp2;go_ret;exact⟨dH f.o.symm,rfl⟩);·(have F:(p !=s.af)=D:=by simp[hp]);(have S:((row.length:Int)!=(s.cells.length:Int))=K:=by simp;omega);have f:=N (show q=D by rw[h.o];exact xg r);clear hp r h;go_enter func49,ntmps49;go_wp2;go_ret;exact⟨dH f.o.symm,rfl⟩
 ·(have F:(p !=s.af)=K:=by simpa using hp);have f:=N (show q=D by rw[h.o];exact xf hp);clear hp h;go_enter func49,ntmps49;go_wp2;go_ret;exact⟨dH f.o.symm,rfl⟩
def uc(s:aD)(v:Value)(w:World)(e:Ending)(w':World):Prop:=(cU s=D∧e=.returned (.func (.func 48) #[] #[])∧Below w.heap.size w w')∨(cU s=K∧∃a aU,e=.returned (.func (.func 49) #[] #[V (O ⟨w.heap.size,0,Z⟩),V (O ⟨a,0,Z⟩)])∧Below w.heap.size w w'∧w'.heap[w.heap.size]?=O (M #[Y I s.af,v] 25 (0,0))∧w.heap.size<a∧w'.heap[a]?=O (M #[aU] 23 (0,0))∧cu w' w.heap.size aU s.cells)
theorem ud(s:aD)(v:Value)(w:World)(i:dB w w.heap.size v s.cells)(m:my v)(aq:hy s)(C:s.cells.length≤17592186044400):Calls prog 19 #[.agg #[Y I s.af,v]] w (uc s v w):=by
 have E:∀(fn:Fn)(first cap:Array Value)(w:World),(Instr.makeFunc fn first cap).run prog w=.ok (.func fn first cap) w:=fun _ _ _ _=>rfl;obtain⟨a,c,rfl,_⟩:=id i;have t:=N i;have p:=N m;have l:=N (nK s _ (w.alloc (M #[Y I s.af,J a s.cells.length c] 25)) ((i.alloc (aG _) _).mono (by simp)) aq.ints aq.len);clear i m;go_enter func19,ntmps19;go_wp2_with fail;refine l.o.mono ?_;rintro e w1⟨rfl,g⟩;have F:w.heap.size+1≤w1.heap.size:=by simpa using g.size
 have d:=N (show w1.heap[w.heap.size]?=O (M #[Y I s.af,J a s.cells.length c] 25 (0,0))by rw[g.block _ (by simp)];exact bm w _);have f:=N (show Below w.heap.size w w1 from((bP _ _).alloc (aG _) _).trans (g.mono (by simp)));clear g l;by_cases b:cU s=K;·have u:=N b;rw[b];clear b;(have c0:w1.cell? ⟨w.heap.size,0,Z⟩=O (Y I s.af):=by have:=d.o;simp[World.cell?,this]);(have c1:w1.cell? ⟨w.heap.size,1,Z⟩=O (J a s.cells.length c):=by have:=d.o;simp[World.cell?,this]);go_wp2_with fail;refine(ua s.cells _ w1 ((t.o.below f.o).mono (by omega)) p.o C).mono ?_;rintro e an⟨aU,rfl,j,h⟩;have G:=h.size;have n:=N (show an.heap[w.heap.size]?=_ from(h.block _ (by omega)).trans d.o);have x:=N (f.o.trans (h.mono (by omega)));have q:=N j;obtain⟨y,bB,z,B⟩:=j.form;subst B;clear h c0 c1 d f j;go_wp2;go_ret;refine .inr ⟨u.o,an.heap.size,J y bB z,rfl,?_,?_,by omega,?_,?_⟩;(·exact x.o.alloc (by omega) _);(·rw[Below.heap_alloc _ _ _ (by omega)];exact n.o);(·exact bm an _);·exact cz (cL q.o (by omega)) _
 ·(have k:cU s=D:=by simpa using b);have r:=N k;rw[k];clear b k;go_wp2;go_ret;exact .inl ⟨r.o,rfl,f.o⟩
theorem cu.mono{w:World}{B cV:Nat}{v:Value}{l:List Int}(h:cu w B v l)(ae:cV≤B):cu w cV v l:=cL h ae
theorem o8(s:aD)(v:Value)(p:Int)(row:List Int)(u:Value)(w:World)(j:dB w w.heap.size v s.cells)(n:my v)(aq:hy s)(y:s.cells.length≤17592186044400)(hu:dB w w.heap.size u row)(B:row.length≤35184372088832):Calls prog 4 #[.agg #[Y I s.af,v],Y I p,u] w (jd w (ds s p row)):=by
 obtain⟨a,c,rfl,_⟩:=id j;obtain⟨b,C,rfl,_⟩:=id hu;have k:=N (ud s _ (w.alloc (M #[Y I s.af,J a s.cells.length c] 25)) ((j.alloc (aG _) _).mono (by simp)) n aq y);have t:=N hu;clear j hu n;go_enter func4,ntmps4;go_wp2_with fail;refine k.o.mono ?_;rintro e w1 h;clear k;rcases h with⟨f,rfl,d⟩|⟨f,l,aU,rfl,d,i,z,hC,m⟩;·have r:=N (show ds s p row=D from xe f);have g:=N (show Below w.heap.size w w1 from((bP _ _).alloc (aG _) _).trans (d.mono (by simp)));clear f d;go_wp2_with fail;refine(zN _ _ _).mono ?_;rintro e w'⟨rfl,rfl⟩;go_wp2;go_ret;exact⟨dH r.o.symm,g.o⟩
 ·(have E:w.heap.size+1≤w1.heap.size:=by simpa using d.size);have g:=N (show Below w.heap.size w w1 from((bP _ _).alloc (aG _) _).trans (d.mono (by simp)));have x:=N f;have c0:=N (show w1.cell? ⟨(w.alloc (M #[Y I s.af,J a s.cells.length c] 25)).heap.size,0,Z⟩=O (Y I s.af)by simp[World.cell?]at i⊢;rw[i];rfl);have c2:=N (show w1.cell? ⟨l,0,Z⟩=O aU by simp[World.cell?,hC]);have q:=N m.at;clear f d i hC m z;go_wp2_with fail;refine(ub s p row _ aU _ l w1 x.o aq B ((t.o.below g.o).mono (by omega)) q.o (by simpa using c0.o) c2.o).mono ?_;rintro e w'⟨rfl,rfl⟩;go_wp2;go_ret;exact⟨rfl,g.o⟩
end Go.Proofs.YtcmcicacdelmkaaGreatDoor.bN
