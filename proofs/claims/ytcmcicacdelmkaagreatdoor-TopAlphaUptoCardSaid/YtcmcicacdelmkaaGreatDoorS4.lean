/- Texts of this seat. Conditions: those that each of them states. -/
import Derived.Test.YtcmcicacdelmkaaGreatDoorS1
import Derived.Test.YtcmcicacdelmkaaGreatDoorS0
import Derived.Test.YtcmcicacdelmkaaGreatDoorProg
import Derived.WalkKit
import Derived.WalkLawsBesides
import Derived.WalkSpells
import Derived.Lib.Hide
import Derived.Lib.SmallJoins
import Derived.Deep.QuietTactic
import Derived.BigQuiet
import Derived.Deep.Onto
open Option renaming none→Z,some→O
open Bool renaming true→K,false→D
open Go.Value renaming int→Y,slice→J,string→A,pointer→V
open Go.IntKind renaming i64→I
open Go.Obj renaming cells→M
open Go.Proofs.Tryz
set_option maxRecDepth 100000
set_option maxHeartbeats 3200000
set_option linter.all false
namespace Go.Proofs.YtcmcicacdelmkaaGreatDoor.bN
open Go.RowKit Plain
def jd(w:World)(b:Bool)(e:Ending)(w':World):Prop:=e=.returned (.bool b)∧Below w.heap.size w w'
theorem dH{b c:Bool}(h:b=c):Ending.returned (.bool b)=.returned (.bool c):=by
 rw[h]
def dB(w:World)(B:Nat)(v:Value)(l:List Int):Prop:=∃(a:Option Addr)(cap:Nat),v=J a l.length cap∧(l=[]∨∃g off,a=O ⟨g,off,Z⟩∧g<B∧∀j,j<l.length→w.cell? ⟨g,off+j,Z⟩=O (Y I (at' l j)))
def tX(l:List Int):Prop:=∀j:Nat,-9223372036854775808≤at' l j∧at' l j≤9223372036854775807
theorem dB.below{w w':World}{B:Nat}{v:Value}{l:List Int}(h:dB w B v l)(ae:Below B w w'):dB w' B v l:=by
 obtain⟨a,cap,rfl,h⟩:=h;refine⟨a,cap,rfl,?_⟩;rcases h with rfl|⟨g,off,rfl,b,ak⟩;·exact .inl rfl
 ·exact .inr ⟨g,off,rfl,b,fun j c=>(ae.cell (p:=⟨g,off+j,Z⟩) b).trans (ak j c)⟩
theorem dB.mono{w:World}{B cV:Nat}{v:Value}{l:List Int}(h:dB w B v l)(ae:B≤cV):dB w cV v l:=by
 obtain⟨a,cap,rfl,h⟩:=h;refine⟨a,cap,rfl,?_⟩;rcases h with rfl|⟨g,off,rfl,b,ak⟩;·exact .inl rfl
 ·exact .inr ⟨g,off,rfl,by omega,ak⟩
theorem dB.alloc{w:World}{B:Nat}{v:Value}{l:List Int}(h:dB w B v l)(ae:B≤w.heap.size)(o:Obj):dB (w.alloc o) B v l:=h.below ((bP _ _).alloc ae o)
theorem nK(s:aD)(v:Value)(w:World)(y:dB w w.heap.size v s.cells)(aj:tX s.cells)(B:s.cells.length≤35184372088832):Calls prog 31 #[.agg #[Y I s.af,v]] w (jd w (cU s)):=by
 obtain⟨q,t⟩:=aa (cU s);rw[←t];have m:=N t;clear t;obtain⟨p,l⟩:=s;simp only at y aj B⊢;by_cases hp:p<0;·have f:=N (show q=D by rw[m.o];exact xb hp);obtain⟨a,cap,rfl,h⟩:=y;clear h;go_enter func31,ntmps31;go_wp2;go_ret;exact⟨dH f.o.symm,(bP _ _).alloc (aG _) _⟩
 ·obtain⟨a,cap,rfl,h⟩:=y;rcases h with rfl|⟨g,off,rfl,z,ak⟩;(·have f:=N (show q=K by rw[m.o];exact p3 (by simpa using hp) (kq.start _));go_enter func31,ntmps31;go_wp2;refine wp_loop_rounds 1 ?_;rw[rounds_succ];go_wp2;go_ret;exact⟨dH f.o.symm,(bP _ _).alloc (aG _) _⟩);·go_enter func31,ntmps31;go_wp2;go_loop[12](fun k=>∃i:Nat,k=Y I i∧i≤l.length∧W (kq l i))(fun k=>l.length-(intOf k).toNat);(case atStart=>exact⟨0,rfl,aZ _,kq.start l⟩);case round=>obtain⟨i,rfl,G,n⟩:=hrel;by_cases h1:i<l.length;(·obtain⟨c,b⟩:=aa (at' l i);(have C:-9223372036854775808≤c∧c≤9223372036854775807:=by rw[b];exact aj i);(have E:(w.alloc (M #[Y I p,J (O ⟨g,off,Z⟩) l.length cap] 25)).cell? ⟨g,off+i,Z⟩=O (Y I c):=by rw[b,World.cell?_alloc_past _ _ _ z];exact ak i h1);by_cases h2:0≤c;(·have r:=N (n.o.round (r1 b h2));clear b ak n aj;go_wp2;go_round;(case rel=>exact⟨i+1,by go_num,by omega,r.o⟩);case measure=>simp only[intOf];omega);·obtain⟨j,x⟩:∃j:Nat,-1-c=(j:Int):=⟨(-1-c).toNat,by omega⟩;(have u:c<0:=by omega);by_cases h3:i<j;(·have f:=N (show q=D by rw[m.o];exact r0 h1 (xc b u x h3));clear b ak n aj m h2;go_wp2;go_ret;exact⟨dH f.o.symm,(bP _ _).alloc (aG _) _⟩);·obtain⟨d,ar⟩:=aa (at' l j);(have F:(w.alloc (M #[Y I p,J (O ⟨g,off,Z⟩) l.length cap] 25)).cell? ⟨g,off+j,Z⟩=O (Y I d):=by rw[ar,World.cell?_alloc_past _ _ _ z];exact ak j (by omega));(have H:j<l.length:=by omega);by_cases h4:d=c;(·have r:=N (n.o.round (r2 b u x (by omega) (by rw[←ar,h4])));subst h4;(have h5:(d !=d)=D:=by simp);clear b ak n aj ar h2;go_wp2;go_round;(case rel=>exact⟨i+1,by go_num,by omega,r.o⟩);case measure=>simp only[intOf];omega);·(have h5:(d !=c)=K:=by simpa using h4);have f:=N (show q=D by rw[m.o];exact r0 h1 (xd b u x (by rw[←ar];exact h4)));clear b ak n aj ar h2 h4 m;go_wp2;go_ret;exact⟨dH f.o.symm,(bP _ _).alloc (aG _) _⟩);·(have e:i=l.length:=by omega);have f:=N (show q=K by rw[m.o];exact p3 (by simpa using hp) (by rw[←e];exact n.o));clear e;go_wp2;go_ret;exact⟨dH f.o.symm,(bP _ _).alloc (aG _) _⟩
theorem below_drewN{B n:Nat}{a w:World}(h:Below B a w):Below B a (w.drewN n):=⟨h.os,h.tape,h.output,h.size,h.block⟩
def nL(w:World)(B:Nat)(x:Value)(s:aD):Prop:=∃v,x=.agg #[Y I s.af,v]∧dB w B v s.cells
structure hy(s:aD):Prop where
 low:-9223372036854775808≤s.af
 high:s.af≤9223372036854775807
 ints:tX s.cells
 len:s.cells.length≤35184372088832
theorem gO{w w':World}{B:Nat}(h:Below B w w'){p:Addr}{v:Value}(hp:p.block<B)(ak:w.cell? p=O v):w'.cell? p=O v:=(h.cell hp).trans ak
theorem dB.cells{w:World}{B:Nat}{a:Option Addr}{c:Nat}{l:List Int}(h:l=[]∨∃g off,a=O ⟨g,off,Z⟩∧g<B∧∀j,j<l.length→w.cell? ⟨g,off+j,Z⟩=O (Y I (at' l j))):dB w B (J a l.length c) l:=⟨a,c,rfl,h⟩
theorem nM(n:Int)(a:0≤n∧n≤9223372036854775807)(w:World):Calls prog 71 #[Y I n] w fun e w'=>e=.returned (Y I (-1-n))∧w=w':=by
 go_enter func71,ntmps71;go_wp2;go_ret;exact⟨rfl,rfl⟩
theorem zK(s t:aD)(x y:Value)(w:World)(c:nL w w.heap.size x s)(d:nL w w.heap.size y t)(aq:hy s)(av:hy t):Calls prog 47 #[x,y] w (jd w (fK s t)):=by
 obtain⟨H,ao⟩:=aa (fK s t);rw[←ao];have h:=N ao;clear ao;obtain⟨v,rfl,aY⟩:=c;obtain⟨u,rfl,hu⟩:=d;obtain⟨a,ad,rfl,ap⟩:=aY;obtain⟨b,L,rfl,ae⟩:=hu;have al:=N ap;have am:=N ae;have aX:=aq.len;have aQ:=av.len;obtain⟨r,E⟩:=aa ((w.alloc (M #[Y I s.af,J a s.cells.length ad] 25)).alloc (M #[Y I t.af,J b t.cells.length L] 25));have ba:r.heap.size=w.heap.size+2:=by rw[E];simp
 have ah:Below w.heap.size w r:=by rw[E];exact((bP _ _).alloc (aG _) _).alloc (by simp) _
 have ag:r.cell? ⟨w.heap.size,0,Z⟩=O (Y I s.af):=by rw[E];simp
 have P:r.cell? ⟨w.heap.size+1,0,Z⟩=O (Y I t.af):=by rw[E];simp
 have R:r.cell? ⟨w.heap.size,1,Z⟩=O (J a s.cells.length ad):=by rw[E];simp
 have C:r.cell? ⟨w.heap.size+1,1,Z⟩=O (J b t.cells.length L):=by rw[E];simp
 have q:=N ah;have aU:=N ag;have aK:=N P;have aJ:=N R;have ac:=N C;have aF:=N (nK s (J a s.cells.length ad) r (((dB.cells ap).below ah).mono (by omega)) aq.ints aX);have aH:W (∀w1,Below r.heap.size r w1→Calls prog 31 #[.agg #[Y I t.af,J b t.cells.length L]] w1 (jd w1 (cU t))):=fun w1 h1=>nK t (J b t.cells.length L) w1 ((((dB.cells ae).below ah).below (h1.mono (by omega))).mono (by have:=h1.size;omega)) av.ints aQ;clear ap ae ah R C ag P;go_enter func47,ntmps47;go_wp2_with fail;rw[←E];clear E;refine aF.o.mono ?_;rintro e w1⟨rfl,aN⟩;have G:=N aN;clear aN aF;by_cases U:cU s=K;·have aI:=N U;rw[U];clear U;have P:w1.cell? ⟨w.heap.size+1,0,Z⟩=O (Y I t.af):=gO G.o (by simp;omega) aK.o;have C:w1.cell? ⟨w.heap.size+1,1,Z⟩=O (J b t.cells.length L):=gO G.o (by simp;omega) ac.o;go_wp2_with fail;refine(aH.o w1 G.o).mono ?_;rintro e an⟨rfl,aO⟩;clear P C;have l:=N (G.o.trans (aO.mono G.o.size));clear G aO aH;have ag:an.cell? ⟨w.heap.size,0,Z⟩=O (Y I s.af):=gO l.o (by simp;omega) aU.o;have R:an.cell? ⟨w.heap.size,1,Z⟩=O (J a s.cells.length ad):=gO l.o (by simp;omega) aJ.o;have P:an.cell? ⟨w.heap.size+1,0,Z⟩=O (Y I t.af):=gO l.o (by simp;omega) aK.o;have C:an.cell? ⟨w.heap.size+1,1,Z⟩=O (J b t.cells.length L):=gO l.o (by simp;omega) ac.o;by_cases X:cU t=K;(·have aT:=N X;rw[X];clear X;by_cases hp:s.af=t.af;(·by_cases T:s.cells.length=t.cells.length;(·(have aA:(s.af !=t.af)=D:=by simp[hp]);(have aP:((s.cells.length:Int)!=(s.cells.length:Int))=D:=by simp);have ab:=N T;have aS:=N hp;rw[←T]at aQ C;have aJ:=N R;have ac:=N C;clear T hp;go_wp2;clear aA aP;clear R ag C P;go_loopw[34](fun k wr=>∃i:Nat,k=Y I i∧i≤s.cells.length∧Below (w.heap.size+2) an wr∧W (ik (iZ s.cells t.cells) i))(fun k _=>s.cells.length-(intOf k).toNat);(case atStart=>exact⟨0,rfl,aZ _,bP _ _,ik.start _⟩);case round=>obtain⟨i,rfl,a6,ax,B⟩:=hrel;have m:=N ax;have a1:=gO ax (p:=⟨w.heap.size+1,1,Z⟩) (by simp) ac.o;clear ax;by_cases h1:i<s.cells.length;(·obtain⟨g,off,rfl,aw,ak⟩:=al.o.resolve_left (fun e=>by rw[e]at h1;simp at h1);obtain⟨g2,aR,rfl,ai,ar⟩:=am.o.resolve_left (fun e=>by rw[ab.o,e]at h1;simp at h1);obtain⟨x,c⟩:=aa (at' s.cells i);obtain⟨y,d⟩:=aa (at' t.cells i);(have aL:wr.cell? ⟨g,off+i,Z⟩=O (Y I x):=by rw[c];exact gO (((q.o.trans (l.o.mono (by omega))).trans (m.o.mono (by omega)))) (by simpa using aw) (ak i h1));(have aM:wr.cell? ⟨g2,aR+i,Z⟩=O (Y I y):=by rw[d];exact gO (((q.o.trans (l.o.mono (by omega))).trans (m.o.mono (by omega)))) (by simpa using ai) (ar i (by rw[←ab.o];exact h1)));(have a':-9223372036854775808≤x∧x≤9223372036854775807:=by rw[c];exact aq.ints i);by_cases h2:0≤x;(·clear ak ar aw ai al am aq av;by_cases n:y=x;(·have Q:=N (B.o.round (by rw[p5 c d h2,n];simp));(have ae:(x !=x)=D:=by simp);subst n;clear c d B;go_wp2;go_roundw;(case rel=>exact⟨i+1,by go_num,by omega,m.o,Q.o⟩);case measure=>simp only[intOf];omega);·(have ae:(y !=x)=K:=by simpa using n);have f:=N (show H=D by rw[h.o];exact r9 h1 (by rw[p5 c d h2];simpa using n));clear c d B n h;go_wp2;go_ret;exact⟨dH f.o.symm,q.o.trans ((l.o.mono (by omega)).trans (m.o.mono (by omega)))⟩);·obtain⟨j,aj⟩:∃j:Nat,-1-x=(j:Int):=⟨(-1-x).toNat,by omega⟩;(have aV:j≤i:=by obtain⟨k,aW,a8,_⟩:=ox aI.o h1 (by rw[←c];omega);rw[←c]at aW;omega);obtain⟨z,F⟩:=aa (at' t.cells j);(have hC:wr.cell? ⟨g2,aR+j,Z⟩=O (Y I z):=by rw[F];exact gO (((q.o.trans (l.o.mono (by omega))).trans (m.o.mono (by omega)))) (by simpa using ai) (ar j (by rw[←ab.o];omega)));(have a7:j<s.cells.length:=by omega);clear ak ar aw ai al am aq av;by_cases h3:j=i;(·have Q:=N (B.o.round (by rw[ow c d (by omega) aj F,d,F,h3];simp));(have ae:(x !=-1-(i:Int))=D:=by simp;omega);clear c d F B h3 aV aj;go_wp2_with(go_at_call 71;refine(nM _ (by omega) _).mono ?_;rintro e w'⟨rfl,rfl⟩);go_roundw;(case rel=>exact⟨i+1,by go_num,by omega,m.o,Q.o⟩);case measure=>simp only[intOf];omega);·(have ae:(x !=-1-(i:Int))=K:=by simp;omega);by_cases n:y=z;(·have Q:=N (B.o.round (by rw[ow c d (by omega) aj F,n];simp));(have au:(z !=z)=D:=by simp);subst n;clear c d F B;go_wp2_with(go_at_call 71;refine(nM _ (by omega) _).mono ?_;rintro e w'⟨rfl,rfl⟩);go_quiet(fail);generalize S:wr.drewN _=aE;(have ay:Below (w.heap.size+2) an aE:=by rw[←S];exact below_drewN m.o);clear S aL aM hC ae au m;go_wp2;go_roundw;(case rel=>exact⟨i+1,by go_num,by omega,ay,Q.o⟩);case measure=>simp only[intOf];omega);·(have au:(y !=z)=K:=by simpa using n);have f:=N (show H=D by rw[h.o];exact r9 h1 (by rw[ow c d (by omega) aj F];simpa using n));clear c d F B n h;go_wp2_with(go_at_call 71;refine(nM _ (by omega) _).mono ?_;rintro e w'⟨rfl,rfl⟩);go_quiet(fail);generalize S:wr.drewN _=aE;(have ay:Below (w.heap.size+2) an aE:=by rw[←S];exact below_drewN m.o);clear S aL aM hC ae au m;go_wp2;go_ret;exact⟨dH f.o.symm,q.o.trans ((l.o.mono (by omega)).trans (ay.mono (by omega)))⟩);·(have e:i=s.cells.length:=by omega);have f:=N (show H=K by rw[h.o];exact r' aI.o aT.o aS.o ab.o (by rw[←e];exact B.o));clear e;go_wp2;go_ret;exact⟨dH f.o.symm,q.o.trans ((l.o.mono (by omega)).trans (m.o.mono (by omega)))⟩);·(have aA:(s.af !=t.af)=D:=by simp[hp]);(have aP:((s.cells.length:Int)!=(t.cells.length:Int))=K:=by simp;omega);have f:=N (show H=D by rw[h.o];exact xj T);clear hp T h;go_wp2;go_ret;exact⟨dH f.o.symm,q.o.trans (l.o.mono (by omega))⟩);·(have aA:(s.af !=t.af)=K:=by simpa using hp);have f:=N (show H=D by rw[h.o];exact r8 hp);clear hp h;go_wp2;go_ret;exact⟨dH f.o.symm,q.o.trans (l.o.mono (by omega))⟩);·(have aC:cU t=D:=by simpa using X);have f:=N (show H=D by rw[h.o];exact xi aC);rw[aC];clear X aC h;go_wp2;go_ret;exact⟨dH f.o.symm,q.o.trans (l.o.mono (by omega))⟩
 ·(have aB:cU s=D:=by simpa using U);have f:=N (show H=D by rw[h.o];exact xh aB);rw[aB];clear U aB h;go_wp2;go_ret;exact⟨dH f.o.symm,q.o.trans (G.o.mono (by omega))⟩
def lits(l:List Int):List Value:=l.map fun d=>Value.int .i64 d
theorem o2(l:List Int):(lits l).length=l.length:=dW _
theorem o3(l:List Int)(d:Int):lits (l++[d])=lits l++[Y I d]:=by
 simp[lits]
theorem qF(l:List Int)(i:Nat)(h:i<l.length):(lits l)[i]?=O (Y I (at' l i)):=by
 simp[lits,at',cr h]
theorem o4:(prog.info? 3).map (fun i=>(i.zero,i.size,i.bytes))=O (O (Y I 0),1,8):=by
 kernel_rfl
theorem nN(x:Int):∀u∈[Value.int .i64 x],u.oneCell'=K:=by
 intro u hu;simp at hu;subst hu;rfl
def cu(w:World)(B:Nat)(v:Value)(l:List Int):Prop:=w.ownsRow B 3 1 v l.length (lits l)
theorem cu.nil(w:World)(B:Nat):cu w B (J Z 0 0) []:=dX _ _ _ _
theorem cu.at{w:World}{B:Nat}{v:Value}{l:List Int}(h:cu w B v l):dB w w.heap.size v l:=by
 rcases db h with⟨rfl,h0⟩|⟨g,cap,rfl⟩;·obtain rfl:=jn.1 h0;exact⟨Z,0,rfl,.inl rfl⟩
 ·refine⟨_,cap,rfl,.inr ⟨g,0,rfl,(h.lt g rfl).2,fun j a=>?_⟩⟩;rw[Nat.zero_add,World.ownsRow.cellAt h j (by omega)];exact qF l j a
theorem cu.cell{w:World}{B g cap:Nat}{l:List Int}(h:cu w B (J (O ⟨g,0,Z⟩) l.length cap) l){j:Nat}(a:j<l.length):w.cell? ⟨g,0+j,Z⟩=O (Y I (at' l j)):=by
 rw[Nat.zero_add,World.ownsRow.cellAt h j (by omega)];exact qF l j a
end Go.Proofs.YtcmcicacdelmkaaGreatDoor.bN
