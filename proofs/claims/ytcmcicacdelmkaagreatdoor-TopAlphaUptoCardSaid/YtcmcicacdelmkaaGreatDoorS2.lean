/- Texts of this seat. Conditions: those that each of them states. -/
import Derived.Test.YtcmcicacdelmkaaGreatDoorS1
open Option renaming none→Z,some→O
open Bool renaming true→K,false→D
set_option linter.all false
namespace Go.Proofs.YtcmcicacdelmkaaGreatDoor.E
open cA.ab
def jx(l:List bl):List aF:=(l.filter fun t=>decide (t.kind=4)).map fun t=>t.ai
def nm(a:aV):List aF:=jx a.args
theorem mr{l:List bl}{x:aF}:x∈jx l↔∃t∈l,t.kind=4∧t.ai=x:=by
 unfold jx;constructor;·intro h;obtain⟨t,av,rfl⟩:=cK.1 h;obtain⟨h1,h2⟩:=hJ.1 av;exact⟨t,h1,ig h2,rfl⟩
 ·rintro⟨t,h1,h2,rfl⟩;exact cK.2 ⟨t,hJ.2 ⟨h1,aY h2⟩,rfl⟩
theorem tl(l:List bl)(t:bl):jx (l++[t])=jx l++if t.kind=4 then[t.ai]else[]:=by
 unfold jx;rw[fu,eS];by_cases h:t.kind=4<;>simp[h]
theorem oT{S:Type}[DecidableEq S](vs l m:List S):dN vs (l++m)=dN (dN vs l) m:=List.foldl_append
theorem yZ(vars:List aF)(t:bl):j0 vars t=dN vars (if t.kind=4 then[t.ai]else[]):=by
 unfold j0;split<;>rfl
theorem tm{b α:Type}(a:b→Prop)(f:b→α→b):∀(l:List α)(s:b),a s→(∀s x,x∈l→a s→a (f s x))→a (l.foldl f s)|[],_,h,_=>h|x::l,s,h,c=>tm a f l (f s x) (c s x (by simp) h) (fun s y d=>c s y (by simp[d]))
theorem kv{b α:Type}(a:List α→b→Prop)(f:b→α→b)(l:List α)(s:b)(h0:a [] s)(c:∀p x s,x∈l→a p s→a (p++[x]) (f s x)):a l (l.foldl f s):=by
 have h:∀(l' p:List α)(s:b),(∀x∈l',x∈l)→a p s→a (p++l') (l'.foldl f s):=by intro l';induction l' with|nil=>intro p s _ h;simpa using h|cons x l' e=>intro p s aq h;have:=e (p++[x]) (f s x) (fun y d=>aq y (by simp[d])) (c p x s (aq x (by simp)) h);simpa using this
 simpa using h l [] s (fun _ h=>h) h0
def mu(t a:bl):Prop:=a.kind=t.kind∧(aM t=D→a=t)
theorem y3(wildS:Nat→aF)(k:Nat)(t:bl):mu t (kX wildS k t):=by
 unfold kX mu;by_cases h:aM t=K;·rw[if_pos h];exact⟨rfl,fun h2=>by rw[h]at h2;cases h2⟩
 ·rw[if_neg h];exact⟨rfl,fun _=>rfl⟩
inductive hb{α β:Type}(R:α→β→Prop):List α→List β→Prop|nil:hb R [] []|snoc(l:List α)(m:List β)(x:α)(y:β):hb R l m→R x y→hb R (l++[x]) (m++[y])
theorem hb.len{α β:Type}{R:α→β→Prop}{l:List α}{m:List β}(h:hb R l m):l.length=m.length:=by
 induction h with|nil=>rfl|snoc l m x y _ _ a=>simp[a]
theorem hb.mem{α β:Type}{R:α→β→Prop}{l:List α}{m:List β}(h:hb R l m):∀y∈m,∃x∈l,R x y:=by
 induction h with|nil=>intro y d;simp at d|snoc l m x y _ c e=>intro z b;rcases cc.1 b with b|b;(·obtain⟨a,h1,h2⟩:=e z b;exact⟨a,by simp[h1],h2⟩);·simp at b;subst b;exact⟨x,by simp,c⟩
theorem hb.qt{α β:Type}{R:α→β→Prop}{l:List α}{m:List β}(h:hb R l m):∀x∈l,∃y∈m,R x y:=by
 induction h with|nil=>intro y d;simp at d|snoc l m x y _ c e=>intro z b;rcases cc.1 b with b|b;(·obtain⟨a,h1,h2⟩:=e z b;exact⟨a,by simp[h1],h2⟩);·simp at b;subst b;exact⟨y,by simp,c⟩
section
variable{wildS:Nat→aF}
theorem kT(l:List bl)(v0:List aF)(k:Nat):(l.foldl (stepT wildS) ⟨[],v0,k⟩).vars=dN v0 (jx (l.foldl (stepT wildS) ⟨[],v0,k⟩).args)∧hb mu l (l.foldl (stepT wildS) ⟨[],v0,k⟩).args:=by
 refine kv (fun p(s:lH)=>s.vars=dN v0 (jx s.args)∧hb mu p s.args) (stepT wildS) l ⟨[],v0,k⟩ ⟨rfl,.nil⟩ ?_;rintro p x s _⟨h1,h2⟩;refine⟨?_,.snoc _ _ _ _ h2 (y3 wildS _ x)⟩;simp only[stepT];rw[tl,oT,yZ,h1]
def y4(l:Lit)(a:aV):Prop:=a.af=l.aB.af∧hb mu l.aB.args a.args
def hc(l:Lit):Bool:=decide (l.kind=1)
def jc(l:Lit):Bool:=!decide (l.kind=1)&&decide (l.kind=2)
structure tn(p:List Lit)(s:lI):Prop where
 vars:s.vars=dN [] (s.pos.flatMap nm)
 pos:hb y4 (p.filter hc) s.pos
 neg:s.neg=(p.filter jc).map fun l=>l.aB
 cm:s.cm=p.filter fun l=>!hc l&&!jc l
theorem mv(ls:List Lit):tn ls (ls.foldl (eg wildS) ⟨[],[],[],[],0⟩):=by
 refine kv tn (eg wildS) ls _ ⟨rfl,.nil,rfl,rfl⟩ ?_;rintro p l s _⟨h1,h2,h3,h4⟩;unfold eg;by_cases c:l.kind=1;·rw[if_pos c];have b:hc l=K:=aY c;(have a:jc l=D:=by unfold jc;simp[c]);obtain⟨aX,a2⟩:=kT (wildS:=wildS) l.aB.args s.vars s.cO;refine⟨?_,?_,?_,?_⟩;(·simp only[ih,ff,List.flatMap_nil,List.append_nil];rw[oT,←h1];exact aX);(·rw[fu];simp only[List.filter_cons,b,if_true,List.filter_nil];exact .snoc _ _ _ _ h2 ⟨rfl,a2⟩);(·rw[fu];simp[a,h3]);·rw[fu];simp[b,h4]
 ·rw[if_neg c];have b:hc l=D:=a1 c;by_cases d:l.kind=2;(·rw[if_pos d];(have a:jc l=K:=by unfold jc;simp[d]);refine⟨h1,?_,?_,?_⟩;(·rw[fu];simp[b];exact h2);(·rw[fu];simp[a,h3]);·rw[fu];simp[a,h4]);·rw[if_neg d];(have a:jc l=D:=by unfold jc;simp[d]);refine⟨h1,?_,?_,?_⟩;(·rw[fu];simp[b];exact h2);(·rw[fu];simp[a,h3]);·rw[fu];simp[b,a,h4]
end
def cR(pos:List aV)(k:Nat):List aF:=dN [] ((pos.take k).flatMap nm)
theorem oU(pos:List aV)(k:Nat):(cR pos k).Nodup:=oC List.nodup_nil
theorem nA(pos:List aV)(k:Nat)(h:k<pos.length):cR pos (k+1)=dN (cR pos k) (nm pos[k]):=by
 unfold cR;rw[dh h,ih,oT];simp
theorem qu(pos:List aV)(k:Nat):cR pos k<+:dN [] (pos.flatMap nm):=by
 have h:pos.flatMap nm=(pos.take k).flatMap nm++(pos.drop k).flatMap nm:=by rw[←ih,List.take_append_drop]
 rw[h,oT];obtain⟨r,a⟩:=ng ((pos.drop k).flatMap nm) (dN [] ((pos.take k).flatMap nm));exact⟨r,a.symm⟩
theorem y5(pos:List aV):cR pos pos.length=dN [] (pos.flatMap nm):=by
 unfold cR;rw[cX]
theorem qv{α:Type}[DecidableEq α]{l m:List α}{x:α}(h:l<+:m)(a:x∈l):place m x=place l x:=by
 obtain⟨r,rfl⟩:=h;induction l with|nil=>simp at a|cons y l b=>simp only[List.cons_append,place];by_cases e:y=x;(·rw[if_pos e,if_pos e]);·rw[if_neg e,if_neg e,b (by rcases dz.1 a with h|h;exact absurd h.symm e;exact h)]
theorem tp{α:Type}[DecidableEq α]{l:List α}(ar:l.Nodup){v:Nat}(h:v<l.length):place l l[v]=O v:=by
 refine oR h (fun j a e=>?_) rfl;exact(List.pairwise_iff_getElem.1 ar j v (by omega) h a) e
def hO(vars:List aF):List bl→Nat→Nat|[],w=>w|t::r,w=>hO vars r (if t.kind=4 then max w (cY vars t.ai+1).toNat else w)
theorem lJ(vars:List aF):∀(l:List bl)(w:Nat),w≤hO vars l w|[],w=>aG _|t::r,w=>by unfold hO;refine cp ?_ (lJ vars r _);split;(·exact Nat.le_max_left _ _);·exact aG _
theorem qw(vars:List aF):∀(l:List bl)(w:Nat)(t:bl),t∈l→t.kind=4→(cY vars t.ai+1).toNat≤hO vars l w|[],w,t,h,_=>by simp at h|x::r,w,t,h,a=>by unfold hO;rcases dz.1 h with rfl|h;(·rw[if_pos a];exact cp (Nat.le_max_right _ _) (lJ vars r _));·exact qw vars r _ t h a
theorem tq(vars:List aF)(n:Nat):∀(l:List bl)(w:Nat),w≤n→(∀t∈l,t.kind=4→(cY vars t.ai+1).toNat≤n)→hO vars l w≤n|[],w,h,_=>h|x::r,w,h,a=>by unfold hO;refine tq vars n r _ ?_ (fun t av=>a t (by simp[av]));split;(·rename_i b;exact Nat.max_le.2 ⟨h,a x (by simp) b⟩);·exact h
theorem y6{pos:List aV}{k:Nat}(h:k<pos.length){vars:List aF}(m:vars=dN [] (pos.flatMap nm)):hO vars pos[k].args (cR pos k).length=(cR pos (k+1)).length:=by
 have hp:=qu pos (k+1);rw[←m]at hp;have d:∀t∈pos[k].args,t.kind=4→∃i:Nat,cY vars t.ai=(i:Int)∧i<(cR pos (k+1)).length:=by intro t av a;(have b:t.ai∈cR pos (k+1):=by rw[nA pos k h];exact ly.2 (.inr (mr.2 ⟨t,av,a,rfl⟩)));obtain⟨i,aj⟩:=qs b;exact⟨i,jb (by rw[qv hp b];exact aj),(lG aj).1⟩
 have f:(cR pos k).length≤(cR pos (k+1)).length:=by rw[nA pos k h];obtain⟨r,j⟩:=ng (nm pos[k]) (cR pos k);rw[j];simp
 apply Nat.le_antisymm;·refine tq _ _ _ _ f (fun t av a=>?_);obtain⟨i,h1,h2⟩:=d t av a;omega
 ·by_cases n:(cR pos k).length<(cR pos (k+1)).length;(·(have c:(cR pos (k+1)).length-1<(cR pos (k+1)).length:=by omega);(have b:(cR pos (k+1))[(cR pos (k+1)).length-1]∈nm pos[k]:=by have h2:=nA pos k h;(have h3:(cR pos (k+1)).length-1<(dN (cR pos k) (nm pos[k])).length:=by rw[←h2];exact c);have h4:=sx (l:=nm pos[k]) (oU pos k) (v:=(cR pos (k+1)).length-1) (by omega) h3;(have e:(cR pos (k+1))[(cR pos (k+1)).length-1]=(dN (cR pos k) (nm pos[k]))[(cR pos (k+1)).length-1]:=by congr 1);rw[e];exact h4);obtain⟨t,av,a,e⟩:=mr.1 b;(have g:t.ai∈cR pos (k+1):=by rw[e];exact cb c);have p:cY vars t.ai=(((cR pos (k+1)).length-1:Nat):Int):=jb (by rw[qv hp g,e];exact tp (oU pos (k+1)) c);have:=qw vars pos[k].args (cR pos k).length t av a;omega);·exact cp (by omega) (lJ vars pos[k].args _)
def toArg(vars:List aF)(t:bl):Arg aK:=if t.kind=4 then .inl (cY vars t.ai).toNat else .inr (dx t)
theorem tr{pos:List aV}{k:Nat}(h:k<pos.length){vars:List aF}(g:vars=dN [] (pos.flatMap nm)):∀v,(cR pos k).length≤v→v<(cR pos (k+1)).length→(.inl v:Arg aK)∈pos[k].args.map (toArg vars):=by
 intro v h1 h2;have hp:=qu pos (k+1);rw[←g]at hp;have c:(cR pos (k+1))[v]∈nm pos[k]:=by have a:=nA pos k h;(have h3:v<(dN (cR pos k) (nm pos[k])).length:=by rw[←a];exact h2);have h4:=sx (l:=nm pos[k]) (oU pos k) (v:=v) h1 h3;(have e:(cR pos (k+1))[v]=(dN (cR pos k) (nm pos[k]))[v]:=by congr 1);rw[e];exact h4
 obtain⟨t,av,b,e⟩:=mr.1 c;have d:t.ai∈cR pos (k+1):=by rw[e];exact cb h2
 have f:cY vars t.ai=(v:Int):=jb (by rw[qv hp d,e];exact tp (oU pos (k+1)) h2);exact cK.2 ⟨t,av,by rw[toArg,if_pos b,f];rfl⟩
def gN(z:dT)(a:aV):Prop:=a.af∈z.aC∧∀t∈a.args,t.kind≠4→dx t∈z.cs
def iN(z a:dT):Prop:=(∀x∈z.aC,x∈a.aC)∧∀c∈z.cs,c∈a.cs
theorem iN.refl(z:dT):iN z z:=⟨fun _ h=>h,fun _ h=>h⟩
theorem iN.trans{a b c:dT}(h:iN a b)(k:iN b c):iN a c:=⟨fun x d=>k.1 x (h.1 x d),fun x d=>k.2 x (h.2 x d)⟩
theorem gN.le{z b:dT}{a:aV}(h:gN z a)(k:iN z b):gN b a:=⟨k.1 _ h.1,fun t av c=>k.2 _ (h.2 t av c)⟩
theorem qx{cs:List aK}{t:bl}{c:aK}:c∈hv cs t↔c∈cs∨(t.kind≠4∧c=dx t):=by
 unfold hv;split;·rename_i h;simp[h]
 ·rename_i h;rw[ht];simp[h]
theorem oV:∀{l:List bl}{cs:List aK}{c:aK},c∈l.foldl hv cs↔c∈cs∨∃t∈l,t.kind≠4∧c=dx t|[],cs,c=>by simp|t::l,cs,c=>by simp only[e2];rw[oV,qx];simp only[dz,exists_eq_or_imp,or_assoc]
theorem mw{S:Type}[DecidableEq S](vs:List S)(x:S):(ez vs x).length≤vs.length+1:=by
 unfold ez;split<;>simp
theorem nB:∀(l:List bl)(cs:List aK),(l.foldl hv cs).length≤cs.length+l.length|[],cs=>by simp|t::l,cs=>by have h1:=nB l (hv cs t);(have h2:(hv cs t).length≤cs.length+1:=by unfold hv;split;omega;exact mw _ _);simp only[e2,cT];omega
theorem qy(z:dT)(a:aV):iN z (gy z a):=⟨fun x b=>ht.2 (.inl b),fun c ak=>oV.2 (.inl ak)⟩
theorem qz(z:dT)(a:aV):gN (gy z a) a:=⟨ht.2 (.inr rfl),fun t av b=>oV.2 (.inr ⟨t,av,b,rfl⟩)⟩
theorem y7(z:dT)(l:Lit):iN z (eB z l):=by
 unfold eB;split;·exact⟨fun _ h=>h,fun c ak=>qx.2 (.inl (qx.2 (.inl ak)))⟩
 ·exact qy z l.aB
theorem oW:∀(l:List Lit)(z:dT),iN z (l.foldl eB z)|[],z=>iN.refl z|x::l,z=>(y7 z x).trans (oW l _)
theorem ts:∀(l:List Lit)(z:dT),∀x∈l,x.kind≠3→gN (l.foldl eB z) x.aB|[],z,x,h,_=>by simp at h|y::l,z,x,h,a=>by rcases dz.1 h with rfl|h;(·refine gN.le ?_ (oW l _);unfold eB;rw[if_neg a];exact qz z x.aB);·exact ts l _ x h a
def dZ(a:aV):Nat:=1+a.args.length
def eC(l:Lit):Nat:=3+l.aB.args.length
def fb(c:bx):Nat:=dZ c.head+(c.body.map eC).sum
def gi(z:dT):Nat:=z.aC.length+z.cs.length
theorem oX(z:dT)(a:aV):gi (gy z a)≤gi z+dZ a:=by
 have h1:=mw z.aC a.af;have h2:=nB a.args z.cs;simp only[gi,gy,dZ];omega
theorem tt(z:dT)(l:Lit):gi (eB z l)≤gi z+eC l:=by
 unfold eB;split;·have h2:=nB [l.left,l.right] z.cs;simp only[e2,List.foldl_nil,cT,ha]at h2;simp only[gi,eC];omega
 ·have:=oX z l.aB;simp only[dZ]at this;simp only[eC];omega
theorem tu:∀(l:List Lit)(z:dT),gi (l.foldl eB z)≤gi z+(l.map eC).sum|[],z=>by simp|x::l,z=>by have h1:=tu l (eB z x);have h2:=tt z x;simp only[e2,fg,List.sum_cons];omega
def kx(cs:List aK):Prop:=∀c∈cs,c.kind=1∨c.kind=2∨c.kind=3
theorem oY{l:List bl}{cs:List aK}(h:kx cs)(b:∀t∈l,ja t):kx (l.foldl hv cs):=by
 intro c ak;rcases oV.1 ak with ak|⟨t,av,a,rfl⟩;·exact h c ak
 ·rcases b t av with h|h|h|h;(·exact .inl h);(·exact .inr (.inl h));(·exact .inr (.inr h));·exact absurd h a
def tv(l:Lit):Prop:=iM l.aB∧(l.kind=3→ja l.left∧ja l.right)
def tw(c:bx):Prop:=iM c.head∧∀l∈c.body,tv l
theorem tx:∀(l:List Lit)(z:dT),kx z.cs→(∀x∈l,tv x)→kx (l.foldl eB z).cs|[],z,h,_=>h|x::l,z,h,c=>by refine tx l (eB z x) ?_ (fun y d=>c y (by simp[d]));have a:=c x (by simp);unfold eB;split;(·rename_i b;exact oY (l:=[x.left,x.right]) h (fun t av=>by simp only[dz,List.not_mem_nil,or_false]at av;rcases av with rfl|rfl;(·exact(a.2 b).1);·exact(a.2 b).2));·exact oY h a.1
def lK(a:aV):Prop:=∀t∈a.args,t.kind≠4
section
variable{wildS:Nat→aF}
structure nC(wildS:Nat→aF)(p:List bx)(az:List aV)(s:cq):Prop where
 lL:s.bF.Nodup
 eN:s.z.aC.Nodup
 kinds:kx s.z.cs
 fin:∀f∈s.bF,f.af∈s.z.aC∧∀c∈f.args,c∈s.z.cs
 nD:∀f∈s.bF,(∃c∈p,c.body.length=0∧f=eG c.head)∨∃a∈az,f=eG a
 cin:∀c∈p,gN s.z c.head∧∀l∈c.body,l.kind≠3→gN s.z l.aB
 aP:s.aP=(p.filter fun c=>!decide (c.body.length=0)).map (eA wildS)
 b2:gi s.z≤(p.map fb).sum+(az.map dZ).sum
 oZ:s.bF.length≤p.length+az.length
theorem y8{z:dT}{a:aV}(h:gN z a)(b:lK a):(eG a).af∈z.aC∧∀c∈(eG a).args,c∈z.cs:=by
 refine⟨h.1,fun c ak=>?_⟩;obtain⟨t,av,rfl⟩:=cK.1 ak;exact h.2 t av (b t av)
theorem tz{fs:List cB}{z d:dT}(h:∀f∈fs,f.af∈z.aC∧∀c∈f.args,c∈z.cs)(e:iN z d){a:aV}(g:gN d a)(i:lK a):∀f∈ez fs (eG a),f.af∈d.aC∧∀c∈f.args,c∈d.cs:=by
 intro f b;rcases ht.1 b with b|rfl;·exact⟨e.1 _ (h f b).1,fun c ak=>e.2 _ ((h f b).2 c ak)⟩
 ·exact y8 g i
theorem y9{p:List bx}{az:List aV}(hp:∀c∈p,tw c∧(c.body.length=0→lK c.head))(j:∀a∈az,iM a∧lK a):nC wildS p az (world wildS p az):=by
 unfold world;refine kv (fun az s=>nC wildS p az s) jw az _ ?_ ?_;·refine kv (fun p s=>nC wildS p [] s) (fU wildS) p ⟨[],[],⟨[],[]⟩⟩ ?_ ?_;(·exact⟨List.nodup_nil,List.nodup_nil,(fun c h=>by simp at h),(fun c h=>by simp at h),(fun c h=>by simp at h),(fun c h=>by simp at h),rfl,by simp[gi],by simp⟩);·intro q c s ak h;obtain⟨r,t⟩:=hp c ak;have i:iN s.z (c.body.foldl eB (gy s.z c.head)):=(qy _ _).trans (oW _ _);have n:gN (c.body.foldl eB (gy s.z c.head)) c.head:=(qz s.z c.head).le (oW _ _);(have w:(c.body.foldl eB (gy s.z c.head)).aC.Nodup:=by refine tm (fun z:dT=>z.aC.Nodup) eB c.body _ (mh h.eN _) (fun z x _ B=>?_);unfold eB;split;(·exact B);·exact mh B _);have v:kx (c.body.foldl eB (gy s.z c.head)).cs:=tx _ _ (oY h.kinds r.1) r.2;(have u:∀d∈q++[c],gN (c.body.foldl eB (gy s.z c.head)) d.head∧∀l∈d.body,l.kind≠3→gN (c.body.foldl eB (gy s.z c.head)) l.aB:=by intro d ar;rcases cc.1 ar with ar|ar;(·exact⟨(h.cin d ar).1.le i,fun l m k=>((h.cin d ar).2 l m k).le i⟩);·simp at ar;subst ar;exact⟨n,fun l m k=>ts _ _ l m k⟩);(have y:gi (c.body.foldl eB (gy s.z c.head))≤((q++[c]).map fb).sum+(([]:List aV).map dZ).sum:=by have h1:=tu c.body (gy s.z c.head);have h2:=oX s.z c.head;have h3:=h.b2;simp only[List.map_nil,List.sum_nil,Nat.add_zero]at h3;simp only[eS,List.sum_append,fg,List.sum_cons,List.map_nil,List.sum_nil,fb];omega);unfold fU;by_cases h0:c.body.length=0;(·rw[if_pos h0];refine⟨mh h.lL _,w,v,tz h.fin i n (t h0),?_,u,?_,y,?_⟩;(·intro f g;rcases ht.1 g with g|rfl;(·rcases h.nD f g with⟨d,ar,e⟩|⟨a,j,_⟩;(·exact .inl ⟨d,by simp[ar],e⟩);·simp at j);·exact .inl ⟨c,by simp,h0,rfl⟩);(·simp only;rw[fu,h.aP,show([c].filter fun c=>!decide (c.body.length=0))=[]by rw[List.filter_cons];rw[aY h0];rfl,List.append_nil]);·have h1:=mw s.bF (eG c.head);have h2:=h.oZ;simp only[ba,cT,ha]at h1 h2⊢;omega);·rw[if_neg h0];refine⟨h.lL,w,v,fun f g=>⟨i.1 _ (h.fin f g).1,fun d ar=>i.2 _ ((h.fin f g).2 d ar)⟩,?_,u,?_,y,?_⟩;(·intro f g;rcases h.nD f g with⟨d,ar,e⟩|⟨a,j,_⟩;(·exact .inl ⟨d,by simp[ar],e⟩);·simp at j);(·simp only;rw[fu,h.aP,eS,show([c].filter fun c=>!decide (c.body.length=0))=[c]by rw[List.filter_cons];rw[a1 h0];rfl];rfl);·have h2:=h.oZ;simp only[ba,cT,ha]at h2⊢;omega
 ·intro bs a s C h;obtain⟨r,t⟩:=j a C;have i:=qy s.z a;have n:=qz s.z a;unfold jw;refine⟨mh h.lL _,mh h.eN _,oY h.kinds r,tz h.fin i n t,?_,fun c ak=>⟨((h.cin c ak).1).le i,fun l m k=>((h.cin c ak).2 l m k).le i⟩,h.aP,?_,?_⟩;(·intro f g;rcases ht.1 g with g|rfl;(·rcases h.nD f g with E|⟨b,ae,e⟩;(·exact .inl E);·exact .inr ⟨b,by simp[ae],e⟩);·exact .inr ⟨a,by simp,rfl⟩);(·have h1:=oX s.z a;have h2:=h.b2;simp only[eS,List.sum_append,fg,List.sum_cons,List.map_nil,List.sum_nil]at h2⊢;omega);·have h1:=mw s.bF (eG a);have h2:=h.oZ;simp only[ba,cT,ha]at h1 h2⊢;omega
end
def iO(n:Nat)(aP:List dG):Nat:=(aP.map fun r=>n^r.vars.length).sum
def lM(cs:List aK)(r:dG):List cB:=(ks cs r.vars.length).filterMap fun s=>fy r.vars s r.head
structure Mem(w:cq)(m:List cB):Prop where
 nodup:m.Nodup
 fin:∀f∈m,f.af∈w.z.aC∧∀c∈f.args,c∈w.z.cs
 tA:∀f∈m,f∈w.bF∨∃r∈w.aP,f∈lM w.z.cs r
theorem y'(cs:List aK)(r:dG):(lM cs r).length≤cs.length^r.vars.length:=by
 rw[←p9];exact List.length_filterMap_le _ _
theorem tB(cs:List aK):∀rs:List dG,(rs.flatMap (lM cs)).length≤iO cs.length rs|[]=>by simp[iO]|r::rs=>by have h1:=y' cs r;have h2:=tB cs rs;simp only[iO,fg,List.sum_cons,ff,ba]at h2⊢;omega
theorem Mem.len{w:cq}{m:List cB}(h:Mem w m):m.length≤w.bF.length+iO w.z.cs.length w.aP:=by
 have h1:=nd m (w.bF++w.aP.flatMap (lM w.z.cs)) h.nodup (fun f a=>by rcases h.tA f a with h1|⟨r,b,h2⟩;(·simp[h1]);·exact cc.2 (.inr (fT.2 ⟨r,b,h2⟩)));have h2:=tB w.z.cs w.aP;rw[ba]at h1;omega
theorem Mem.start{wildS:Nat→aF}{p:List bx}{az:List aV}{w:cq}(h:nC wildS p az w):Mem w w.bF:=⟨h.lL,h.fin,fun f a=>.inl a⟩
theorem tC{vars:List aF}{sub:List aK}:∀{l:List bl}{out:List aK},gh vars sub l=O out→∀x∈out,x∈sub∨∃t∈l,t.kind≠4∧x=dx t|[],out,h,x,b=>by simp[gh]at h;subst h;simp at b|t::l,out,h,x,b=>by unfold gh at h;cases a:cZ vars sub t with|none=>rw[a]at h;cases h|some c=>rw[a]at h;simp only at h;cases d:gh vars sub l with|none=>rw[d]at h;cases h|some r=>rw[d]at h;simp only[Option.map_some,e9]at h;subst h;rcases dz.1 b with rfl|b;(·unfold cZ at a;split at a;(·rename_i e;simp at a;exact .inr ⟨t,by simp,e,a.symm⟩);·split at a;(·exact .inl (iI a));·cases a);·rcases tC d x b with h|⟨f,h1,h2⟩;(·exact .inl h);·exact .inr ⟨f,by simp[h1],h2⟩
theorem Mem.more{w:cq}{m:List cB}(h:Mem w m){r:dG}(y:r∈w.aP)(k:gN w.z r.head){s:List aK}(aq:s.length=r.vars.length)(ak:∀x∈s,x∈w.z.cs){f:cB}(i:fy r.vars s r.head=O f)(v:f∉m):Mem w (m++[f]):=by
 have p:f∈lM w.z.cs r:=List.mem_filterMap.2 ⟨s,by rw[←aq];exact p' ak,i⟩;have q:f.af∈w.z.aC∧∀c∈f.args,c∈w.z.cs:=by unfold fy at i;cases j:gh r.vars s r.head.args with|none=>rw[j]at i;cases i|some l=>rw[j]at i;simp only[Option.map_some,e9]at i;subst i;refine⟨k.1,fun c n=>?_⟩;rcases tC j c n with h1|⟨t,av,u,rfl⟩;(·exact ak c h1);·exact k.2 t av u
 refine⟨?_,?_,?_⟩;·rw[List.nodup_append];refine⟨h.nodup,by simp,fun a j b ae=>?_⟩;simp at ae;subst ae;intro e;subst e;exact v j
 ·intro g d;rcases cc.1 d with d|d;(·exact h.fin g d);·simp at d;subst d;exact q
 ·intro g d;rcases cc.1 d with d|d;(·exact h.tA g d);·simp at d;subst d;exact .inr ⟨r,y,p⟩
def e4:Nat:=18446744073709551615
def iu(a:Nat):Nat→Nat→Option Nat|0,p=>O p|n+1,p=>if a≠0∧p>e4/a then Z else iu a n (p*a)
theorem tD{a:Nat}:∀{n p q:Nat},iu a n p=O q→q=p*a^n|0,p,q,h=>by simp[iu]at h;simp[h]|n+1,p,q,h=>by unfold iu at h;split at h;(·cases h);·have:=tD h;rw[this,Nat.pow_succ,Nat.mul_assoc,Nat.mul_comm a]
theorem tE{a:Nat}:∀{n p q:Nat},p≤e4→iu a n p=O q→q≤e4|0,p,q,hp,h=>by simp[iu]at h;omega|n+1,p,q,hp,h=>by unfold iu at h;split at h;(·cases h);·rename_i ak;refine tE ?_ h;by_cases h0:a=0;(·subst h0;simp);·have h1:¬p>e4/a:=fun h=>ak ⟨h0,h⟩;exact cp (Nat.mul_le_mul_right a (Nat.le_of_not_gt h1)) (Nat.div_mul_le_self _ _)
def fz(a n:Nat):Nat:=(iu a n 1).getD e4
def fV(a b:Nat):Nat:=if a>e4-b then e4 else a+b
def lN(n:Nat)(aP:List dG):Nat:=aP.foldl (fun b r=>fV b (fz n r.vars.length)) 0
theorem qA(a n:Nat):fz a n≤e4:=by
 unfold fz;cases h:iu a n 1 with|none=>exact aG _|some q=>exact tE (by decide) h
theorem tF{a n:Nat}(h:fz a n<e4):fz a n=a^n:=by
 unfold fz at h⊢;cases hp:iu a n 1 with|none=>rw[hp]at h;simp at h|some q=>have:=tD hp;simp[this]
theorem tG{a b:Nat}(ae:b≤e4):fV a b≤e4:=by
 unfold fV;split<;>omega
theorem za{a b:Nat}(c:a≤e4)(ae:b≤e4):a≤fV a b∧b≤fV a b:=by
 unfold fV;split<;>omega
theorem tH(n:Nat):∀(rs:List dG)(b:Nat),b≤e4→rs.foldl (fun b r=>fV b (fz n r.vars.length)) b≤256→b+iO n rs≤256∧rs.foldl (fun b r=>fV b (fz n r.vars.length)) b=b+iO n rs|[],b,_,h=>by simp[iO]at h⊢;exact h|r::rs,b,ae,h=>by simp only[e2]at h⊢;have hp:=qA n r.vars.length;obtain⟨h1,h2⟩:=tH n rs (fV b (fz n r.vars.length)) (tG hp) h;have d:=za ae hp;(have a:fV b (fz n r.vars.length)=b+fz n r.vars.length:=by unfold fV at h1⊢;split;(·rename_i ak;rw[if_pos ak]at h1;simp[e4]at h1;omega);·rfl);have c:fz n r.vars.length=n^r.vars.length:=tF (by simp[e4]at d⊢;omega);rw[h2,a,c];rw[a,c]at h1;simp only[iO,fg,List.sum_cons]at h1⊢;omega
theorem zb{n:Nat}{aP:List dG}(h:¬lN n aP>256):iO n aP≤256:=by
 have:=(tH n aP 0 (by decide) (Nat.le_of_not_gt h)).1;omega
theorem zc{n:Nat}{aP:List dG}(h:iO n aP≤256){r:dG}(b:r∈aP){k:Nat}(a:k≤r.vars.length):n^k≤256:=by
 have h1:n^r.vars.length≤iO n aP:=by unfold iO;have:n^r.vars.length∈aP.map fun r=>n^r.vars.length:=cK.2 ⟨r,b,rfl⟩;generalize(aP.map fun r=>n^r.vars.length)=l at this;induction l with|nil=>simp at this|cons x l c=>simp only[List.sum_cons];rcases dz.1 this with h|h;(·omega);·have:=c h;omega
 cases n with|zero=>(cases k with|zero=>simp|succ k=>simp)|succ n=>exact cp (Nat.pow_le_pow_right (by omega) a) (by omega)
def fN(vars:List aF)(a:aV)(w:Nat)(s:List aK)(f:cB):Option (List aK):=if f.af=a.af∧f.args.length=a.args.length then taken s (a.args.map (toArg vars)) f.args w else Z
def j1(vars:List aF)(subs:List (List aK))(a:aV)(mem:List cB)(w:Nat):List (List aK):=subs.flatMap fun s=>mem.filterMap (fN vars a w s)
theorem zd(vars:List aF)(subs:List (List aK))(a:aV)(mem:List cB)(w:Nat):j1 vars subs a mem w=next subs (a.args.map (toArg vars)) ((mem.filter fun f=>decide (f.af=a.af)).map fun f=>f.args) w:=by
 unfold j1 next;congr 1;funext s;rw[List.filterMap_map,List.filterMap_filter];congr 1;funext f;unfold fN;by_cases h:f.af=a.af<;>simp[h]
theorem ze{mem:List cB}(h:mem.Nodup)(p:aF):((mem.filter fun f=>decide (f.af=p)).map fun f=>f.args).Nodup:=by
 unfold List.Nodup;rw[List.pairwise_map,List.pairwise_filter];refine h.imp (fun{f g}c a b e=>c ?_);have h1:=ig a;have h2:=ig b;cases f;cases g;simp only at h1 h2 e;subst h1;subst h2;subst e;rfl
structure Sub(cs:List aK)(n:Nat)(subs:List (List aK)):Prop where
 nodup:subs.Nodup
 all:∀s∈subs,s.length=n∧∀x∈s,x∈cs
theorem Sub.start(cs:List aK):Sub cs 0 [[]]:=⟨by simp,fun s aq=>by simp at aq;subst aq;simp⟩
theorem Sub.len{cs:List aK}{n:Nat}{subs:List (List aK)}(h:Sub cs n subs):subs.length≤cs.length^n:=xR h.nodup h.all
theorem Sub.next{cs:List aK}{pos:List aV}{k:Nat}(a:k<pos.length){vars:List aF}(m:vars=dN [] (pos.flatMap nm)){subs:List (List aK)}(h:Sub cs (cR pos k).length subs){mem:List cB}(j:mem.Nodup)(ak:∀f∈mem,∀c∈f.args,c∈cs):Sub cs (cR pos (k+1)).length (j1 vars subs pos[k] mem (cR pos (k+1)).length):=by
 rw[zd];have i:(cR pos k).length≤(cR pos (k+1)).length:=by rw[nA pos k a];obtain⟨r,l⟩:=ng (nm pos[k]) (cR pos k);rw[l];simp
 have:=xX (subs:=subs) (rows:=(mem.filter fun f=>decide (f.af=pos[k].af)).map fun f=>f.args) (az:=pos[k].args.map (toArg vars)) (b:=(cR pos k).length) (w:=(cR pos (k+1)).length) (cs:=cs) h.nodup h.all (ze j _) (fun f d x n=>by obtain⟨g,e,rfl⟩:=cK.1 d;exact ak g (hJ.1 e).1 x n) i (tr a m);exact⟨this.1,this.2⟩
def part(vars:List aF)(subs:List (List aK))(a:aV)(mem:List cB)(w:Nat)(i j:Nat)(s:List aK):List (List aK):=(subs.take i).flatMap (fun s=>mem.filterMap (fN vars a w s))++(mem.take j).filterMap (fN vars a w s)
theorem tI{α β:Type}(g:α→List β)(l:List α){i:Nat}(h:i<l.length):(l.take (i+1)).flatMap g=(l.take i).flatMap g++g l[i]:=by
 rw[dh h,ih];simp
theorem tJ{α β:Type}(g:α→List β)(l:List α)(i:Nat):((l.take i).flatMap g).length≤(l.flatMap g).length:=by
 have:l.flatMap g=(l.take i).flatMap g++(l.drop i).flatMap g:=by rw[←ih,List.take_append_drop]
 rw[this,ba];omega
theorem zf(vars:List aF)(subs:List (List aK))(a:aV)(mem:List cB)(w:Nat){i:Nat}(j:Nat)(h:i<subs.length):(part vars subs a mem w i j subs[i]).length≤(j1 vars subs a mem w).length:=by
 have h1:=tJ (fun s=>mem.filterMap (fN vars a w s)) subs (i+1);rw[tI _ _ h,ba]at h1;have h2:((mem.take j).filterMap (fN vars a w subs[i])).length≤(mem.filterMap (fN vars a w subs[i])).length:=by(have:mem.filterMap (fN vars a w subs[i])=(mem.take j).filterMap (fN vars a w subs[i])++(mem.drop j).filterMap (fN vars a w subs[i]):=by rw[←List.filterMap_append,List.take_append_drop]);rw[this,ba];omega
 unfold part;rw[ba];exact cp (Nat.add_le_add_left h2 _) h1
theorem zg(vars:List aF)(subs:List (List aK))(a:aV)(mem:List cB)(w i:Nat){j:Nat}(s:List aK)(h:j<mem.length):part vars subs a mem w i (j+1) s=part vars subs a mem w i j s++(match fN vars a w s mem[j]with|some t=>[t]|none=>[]):=by
 unfold part;rw[dh h,List.filterMap_append,fH];congr 1;congr 1;cases av:fN vars a w s mem[j]<;>simp[av]
theorem zh(vars:List aF)(subs:List (List aK))(a:aV)(mem:List cB)(w:Nat){i:Nat}(h:i<subs.length)(s:List aK):part vars subs a mem w i mem.length subs[i]=part vars subs a mem w (i+1) 0 s:=by
 unfold part;rw[cX,tI _ _ h];simp
theorem zi(vars:List aF)(subs:List (List aK))(a:aV)(mem:List cB)(w:Nat)(s:List aK):part vars subs a mem w 0 0 s=[]:=by
 simp[part]
theorem zj(vars:List aF)(subs:List (List aK))(a:aV)(mem:List cB)(w:Nat)(s:List aK):part vars subs a mem w subs.length 0 s=j1 vars subs a mem w:=by
 simp[part,j1]
def enc:Option aK→aK|none=>aK.zero|some c=>c
def lO(vars:List aF)(n:List aK)(t:bl)(c:aK):Option (List aK):=if t.kind≠4 then(if dx t=c then O n else Z)else match place vars t.ai with|none=>Z|some v=>match n[v]? with|none=>Z|some x=>if x.kind=0 then O (n.set v c)else if x=c then O n else Z
def fW(vars:List aF):List aK→List (bl×aK)→Option (List aK)|n,[]=>O n|n,z::cj=>(lO vars n z.1 z.2).bind fun a=>fW vars a cj
def o0(l:List (Option aK)):Prop:=∀c,O c∈l→c.kind≠0
theorem zk{vars:List aF}{n:List (Option aK)}(d:o0 n){t:bl}(av:t.kind=4→t.ai∈vars){c:aK}:lO vars (n.map enc) t c=(put n (toArg vars t,c)).map fun m=>m.map enc:=by
 unfold lO put toArg;by_cases a:t.kind=4;·rw[if_neg (by simp[a])];obtain⟨v,b⟩:=qs (av a);simp only[a,if_true,b,jb b,Int.toNat_natCast,List.getElem?_map];cases f:n[v]? with|none=>simp|some o=>cases o with|none=>simp only[Option.map_some,enc,aK.zero,if_true,e9];rw[List.map_set];rfl|some x=>have h0:x.kind≠0:=d x (iI f);simp only[Option.map_some,enc,if_neg h0];by_cases e:x=c<;>simp[e]
 ·rw[if_pos (by simp[a])];simp only[if_neg a];by_cases e:dx t=c<;>simp[e]
theorem zl{n m:List (Option aK)}(b:o0 n){z:Arg aK×aK}(ak:z.2.kind≠0)(h:put n z=O m):o0 m:=by
 intro c a;obtain⟨i,aj,e⟩:=List.getElem_of_mem a;rcases ss h (v:=i) (x:=c) (by rw[cr aj,e])with h1|h1;·exact b c (iI h1)
 ·rw[h1];exact ak
theorem tK{vars:List aF}:∀{az:List bl}{f:List aK}{n:List (Option aK)},o0 n→(∀t∈az,t.kind=4→t.ai∈vars)→(∀c∈f,c.kind≠0)→fW vars (n.map enc) (az.zip f)=(gI n ((az.map (toArg vars)).zip f)).map fun m=>m.map enc|[],f,n,_,_,_=>by simp[fW,gI]|t::az,[],n,_,_,_=>by simp[fW,gI]|t::az,c::f,n,b,av,a=>by simp only[List.zip_cons_cons,fg,fW,gI];rw[zk b (av t (by simp))];cases hp:put n (toArg vars t,c)with|none=>rfl|some m=>simp only[Option.map_some,Option.bind_some];exact tK (zl b (a c (by simp)) hp) (fun e h=>av e (by simp[h])) (fun d h=>a d (by simp[h]))
def kY(s:List aK)(w:Nat):List aK:=s++List.replicate (w-s.length) aK.zero
theorem zm(s:List aK)(w:Nat):(start s w).map enc=kY s w:=by
 unfold start kY;rw[eS,List.map_replicate];congr 1;induction s with|nil=>rfl|cons x s a=>simp only[fg,a,enc]
theorem zn{vars:List aF}{s:List aK}{az:List bl}{f:List aK}{w:Nat}(aq:s.length≤w)(a:f.length=az.length)(d:∀c∈s,c.kind≠0)(b:∀c∈f,c.kind≠0)(g:∀t∈az,t.kind=4→t.ai∈vars)(ae:∀v,s.length≤v→v<w→(.inl v:Arg aK)∈az.map (toArg vars)):fW vars (kY s w) (az.zip f)=taken s (az.map (toArg vars)) f w:=by
 rw[←zm,tK (fun c ak=>?_) g b];·unfold taken;cases hp:gI (start s w) ((az.map (toArg vars)).zip f)with|none=>rfl|some m=>simp only[Option.map_some,e9];obtain⟨_,_,_,h4⟩:=oB (s:=s) (az:=az.map (toArg vars)) (f:=f) (t:=ej m) (w:=w) (by unfold taken;rw[hp];rfl) aq (by simpa using a) ae;rw[hp]at h4;have:=ee h4;rw[this,xV];generalize ej m=l;induction l with|nil=>rfl|cons x l h=>simp only[fg,h,enc]
 ·obtain⟨i,aj,e⟩:=List.getElem_of_mem ak;exact d c (sv s w (v:=i) (by rw[cr aj,e]))
def hd(l:Lit):List bl:=if l.kind=3 then[l.left,l.right]else l.aB.args
def hf(l:Lit):List (bl×Bool):=(hd l).map fun t=>(t,hc l)
def du(c:bx):List (bl×Bool):=c.head.args.map (fun t=>(t,D))++c.body.flatMap hf
def gz(all:List aF)(t:bl):List aF:=if t.kind≠4 then all else if t.ai=gx∨t.ai∉all then all++[t.ai]else all
def fX(b:List aF)(z:bl×Bool):List aF:=if z.1.kind=4∧z.2=K∧z.1.ai≠gx then b++[z.1.ai]else b
structure ky(c:bx):Prop where
 c':(((du c).map fun z=>z.1).foldl gz []).length≤16
 bound:∀z∈du c,z.1.kind=4→z.2=D→z.1.ai∈(du c).foldl fX []
theorem zo(l:List (bl×Bool))(b:List aF)(x:aF):x∈l.foldl fX b↔x∈b∨∃z∈l,z.1.kind=4∧z.2=K∧z.1.ai≠gx∧z.1.ai=x:=by
 induction l generalizing b with|nil=>simp|cons z l a=>simp only[e2];rw[a];unfold fX;by_cases h:z.1.kind=4∧z.2=K∧z.1.ai≠gx;(·rw[if_pos h];rw[cc,List.mem_singleton];constructor;(·rintro((h1|h1)|⟨y,h1,h2⟩);(·exact .inl h1);(·exact .inr ⟨z,by simp,h.1,h.2.1,h.2.2,h1.symm⟩);·exact .inr ⟨y,by simp[h1],h2⟩);·rintro(h1|⟨y,h1,h2⟩);(·exact .inl (.inl h1));·rcases dz.1 h1 with rfl|h1;(·exact .inl (.inr h2.2.2.2.symm));·exact .inr ⟨y,h1,h2⟩);·rw[if_neg h];simp only[dz,exists_eq_or_imp];constructor;(·rintro(h1|h1);(·exact .inl h1);·exact .inr (.inr h1));·rintro(h1|h1|h1);(·exact .inl h1);(·exact absurd ⟨h1.1,h1.2.1,h1.2.2.1⟩ h);·exact .inr h1
section
variable{wildS:Nat→aF}
theorem zp(l:List bl)(v0:List aF)(k:Nat):(l.foldl (stepT wildS) ⟨[],v0,k⟩).cO=k+(l.filter aM).length∧∀x∈jx (l.foldl (stepT wildS) ⟨[],v0,k⟩).args,(∃j,j<(l.foldl (stepT wildS) ⟨[],v0,k⟩).cO∧x=wildS j)∨∃t∈l,t.kind=4∧aM t=D∧t.ai=x:=by
 refine kv (fun p(s:lH)=>s.cO=k+(p.filter aM).length∧∀x∈jx s.args,(∃j,j<s.cO∧x=wildS j)∨∃t∈p,t.kind=4∧aM t=D∧t.ai=x) (stepT wildS) l ⟨[],v0,k⟩ ⟨by simp,fun x a=>by simp[jx]at a⟩ ?_;rintro p t s _⟨h1,h2⟩;have b:s.cO≤(stepT wildS s t).cO:=by unfold stepT;simp only;split<;>omega
 refine⟨?_,fun x a=>?_⟩;·unfold stepT;simp only;rw[fu,ba,h1];by_cases b:aM t=K;(·rw[if_pos b];simp[b];omega);·rw[if_neg b];simp[b]
 ·simp only[stepT]at a;rw[tl]at a;rcases cc.1 a with a|a;(·rcases h2 x a with⟨j,f,e⟩|⟨d,h3,h4⟩;(·exact .inl ⟨j,by omega,e⟩);·exact .inr ⟨d,by simp[h3],h4⟩);·split at a;(·rename_i c;simp only[List.mem_singleton]at a;unfold kX at c a;by_cases b:aM t=K;(·rw[if_pos b]at a;exact .inl ⟨s.cO,by simp[stepT,b],a⟩);·rw[if_neg b]at a c;exact .inr ⟨t,by simp,c,by simpa using b,a.symm⟩);·simp at a
def iP(p:List Lit):Nat:=((p.filter hc).flatMap fun l=>l.aB.args.filter aM).length
theorem zq(ls:List Lit):(ls.foldl (eg wildS) ⟨[],[],[],[],0⟩).cO=iP ls∧∀x∈(ls.foldl (eg wildS) ⟨[],[],[],[],0⟩).pos.flatMap nm,(∃j,j<(ls.foldl (eg wildS) ⟨[],[],[],[],0⟩).cO∧x=wildS j)∨∃l∈ls,l.kind=1∧∃t∈l.aB.args,t.kind=4∧aM t=D∧t.ai=x:=by
 refine kv (fun p(s:lI)=>s.cO=iP p∧∀x∈s.pos.flatMap nm,(∃j,j<s.cO∧x=wildS j)∨∃l∈p,l.kind=1∧∃t∈l.aB.args,t.kind=4∧aM t=D∧t.ai=x) (eg wildS) ls ⟨[],[],[],[],0⟩ ⟨rfl,fun x a=>by simp at a⟩ ?_;rintro p l s _⟨h1,h2⟩;unfold eg;by_cases b:l.kind=1;·rw[if_pos b];have c:hc l=K:=aY b;obtain⟨aX,a2⟩:=zp (wildS:=wildS) l.aB.args s.vars s.cO;refine⟨?_,fun x a=>?_⟩;(·simp only;rw[aX,h1,iP,iP,fu,ih,ba];simp[c]);·simp only[ih,ff,List.flatMap_nil,List.append_nil]at a;rcases cc.1 a with a|a;(·rcases h2 x a with⟨j,f,e⟩|⟨l',h3,h4⟩;(·exact .inl ⟨j,by simp only;omega,e⟩);·exact .inr ⟨l',by simp[h3],h4⟩);·rcases a2 x a with h|h;(·exact .inl h);·exact .inr ⟨l,by simp,b,h⟩
 ·rw[if_neg b];have c:hc l=D:=a1 b;(have d:iP (p++[l])=iP p:=by rw[iP,iP,fu];simp[c]);split;(·exact⟨by simp only;rw[h1,d],fun x a=>by rcases h2 x a with h|⟨l',h3,h4⟩;(·exact .inl h);·exact .inr ⟨l',by simp[h3],h4⟩⟩);·exact⟨by simp only;rw[h1,d],fun x a=>by rcases h2 x a with h|⟨l',h3,h4⟩;(·exact .inl h);·exact .inr ⟨l',by simp[h3],h4⟩⟩
theorem zr(ad:List bl):((ad.foldl gz []).filter fun x=>decide (x=gx)).length=(ad.filter aM).length∧∀t∈ad,t.kind=4→t.ai∈ad.foldl gz []:=by
 refine kv (fun p(s:List aF)=>(s.filter fun x=>decide (x=gx)).length=(p.filter aM).length∧∀t∈p,t.kind=4→t.ai∈s) gz ad [] ⟨rfl,fun t h=>by simp at h⟩ ?_;rintro p t s _⟨h1,h2⟩;unfold gz;by_cases a:t.kind=4;·rw[if_neg (by simp[a])];by_cases ak:t.ai=gx∨t.ai∉s;(·rw[if_pos ak];refine⟨?_,fun c b k=>?_⟩;(·rw[fu,fu,ba,ba,h1];by_cases hu:t.ai=gx<;>simp[hu,aM,a]);·rcases cc.1 b with h|h;(·exact cc.2 (.inl (h2 c h k)));·simp at h;subst h;simp);·rw[if_neg ak];have hu:t.ai≠gx:=fun e=>ak (.inl e);have aj:t.ai∈s:=Classical.byContradiction fun h=>ak (.inr h);refine⟨?_,fun c b k=>?_⟩;(·rw[fu,ba,h1];simp[aM,hu]);·rcases cc.1 b with h|h;(·exact h2 c h k);·simp at h;subst h;exact aj
 ·rw[if_pos a];refine⟨?_,fun c b k=>?_⟩;(·rw[fu,ba,h1];simp[aM,a]);·rcases cc.1 b with h|h;(·exact h2 c h k);·simp at h;subst h;exact absurd k a
theorem zs(c:bx)(b:∀l∈c.body,l.kind=1→l.kind≠3):iP c.body≤(((du c).map fun z=>z.1).filter aM).length:=by
 have h:∀ls:List Lit,iP ls≤(((ls.flatMap hf).map fun z=>z.1).filter aM).length:=by intro ls;induction ls with|nil=>simp[iP]|cons l ls a=>simp only[iP,ff,eS,fu,ba]at a⊢;by_cases h1:hc l=K;(·(have h3:l.kind≠3:=by have:l.kind=1:=ig h1;omega);rw[List.filter_cons,if_pos h1,ff,ba];(have e:((hf l).map fun z=>z.1)=l.aB.args:=by unfold hf hd;rw[if_neg h3,List.map_map,show((fun z:bl×Bool=>z.1)∘fun t=>(t,hc l))=id from rfl,List.map_id]);rw[e];omega);·rw[List.filter_cons,if_neg h1];omega
 have:=h c.body;unfold du;rw[eS,fu,ba];omega
theorem qB{c:bx}(h:ky c):(eA wildS c).vars.length≤16∧(∀t∈c.head.args,t.kind=4→t.ai∈(eA wildS c).vars)∧(∀l∈c.body,l.kind=2→∀t∈l.aB.args,t.kind=4→t.ai∈(eA wildS c).vars)∧(c.body.length=0→lK c.head):=by
 have p:=mv (wildS:=wildS) c.body;obtain⟨w1,an⟩:=zq (wildS:=wildS) c.body;have i:(eA wildS c).vars=dN [] ((c.body.foldl (eg wildS) ⟨[],[],[],[],0⟩).pos.flatMap nm):=p.vars;have m:∀x,x∈(du c).foldl fX []→x∈(eA wildS c).vars:=by intro x b;rcases(zo _ _ _).1 b with h|⟨z,d,g,n,s,e⟩;(·simp at h);·unfold du at d;rcases cc.1 d with d|d;(·obtain⟨t,_,rfl⟩:=cK.1 d;simp at n);·obtain⟨l,f,d⟩:=fT.1 d;obtain⟨t,av,rfl⟩:=cK.1 d;have F:l.kind=1:=ig n;unfold hd at av;rw[if_neg (by omega)]at av;obtain⟨a,u,w⟩:=p.pos.qt l (hJ.2 ⟨f,n⟩);obtain⟨L,r,y⟩:=w.2.qt t av;(have v:aM t=D:=by simp only at s g;unfold aM;rw[a1 s];simp);rw[y.2 v]at r;rw[i];exact ly.2 (.inr (fT.2 ⟨a,u,mr.2 ⟨t,r,g,e⟩⟩))
 refine⟨?_,fun t av k=>?_,fun l f H t av k=>?_,fun h0 t av k=>?_⟩;·obtain⟨aX,a2⟩:=zr ((du c).map fun z=>z.1);have G:=zs c (fun l _ k=>by omega);(have C:(eA wildS c).vars.length≤((List.range (iP c.body)).map wildS++(((du c).map fun z=>z.1).foldl gz []).filter fun x=>!decide (x=gx)).length:=by refine nd _ _ (by rw[i];exact oC List.nodup_nil) (fun x b=>?_);rw[i]at b;rcases ly.1 b with b|b;(·simp at b);·rcases an x b with⟨j,q,e⟩|⟨l,f,F,t,av,g,kw,e⟩;(·rw[w1]at q;exact cc.2 (.inl (cK.2 ⟨j,List.mem_range.2 q,e.symm⟩)));·refine cc.2 (.inr (hJ.2 ⟨?_,?_⟩));(·rw[←e];refine a2 t (cK.2 ⟨(t,hc l),?_,rfl⟩) g;unfold du;refine cc.2 (.inr (fT.2 ⟨l,f,cK.2 ⟨t,?_,rfl⟩⟩));unfold hd;rw[if_neg (by omega)];exact av);·rw[←e];unfold aM at kw;rw[aY g,Bool.true_and]at kw;rw[kw];rfl);(have B:∀l:List aF,l.length=(l.filter fun x=>decide (x=gx)).length+(l.filter fun x=>!decide (x=gx)).length:=by intro l;induction l with|nil=>rfl|cons x l E=>by_cases b:x=gx<;>simp[b]at E⊢<;>omega);have h16:=h.c';rw[B,aX]at h16;rw[ba,dW,List.length_range]at C;omega
 ·exact m _ (h.bound (t,D) (by unfold du;exact cc.2 (.inl (cK.2 ⟨t,av,rfl⟩))) k rfl)
 ·refine m _ (h.bound (t,hc l) ?_ k (a1 (by omega)));unfold du;refine cc.2 (.inr (fT.2 ⟨l,f,cK.2 ⟨t,?_,rfl⟩⟩));unfold hd;rw[if_neg (by omega)];exact av
 ·have h1:=m _ (h.bound (t,D) (by unfold du;exact cc.2 (.inl (cK.2 ⟨t,av,rfl⟩))) k rfl);have ae:c.body=[]:=lu h0;rw[i,ae]at h1;simp[dN]at h1
end
structure hP(atoms:List aV)(names:List aF)(bW:List Nat):Prop where
 nodup:names.Nodup
 len:bW.length=names.length
 all:∀a∈atoms,∃i:Nat,names[i]?=O a.af∧bW[i]?=O a.args.length
theorem hP.start:hP [] [] []:=⟨List.nodup_nil,rfl,fun a h=>by simp at h⟩
theorem hP.old{atoms:List aV}{names:List aF}{bW:List Nat}(h:hP atoms names bW){a:aV}{i:Nat}(aj:place names a.af=O i)(c:bW[i]?=O a.args.length):hP (atoms++[a]) names bW:=by
 refine⟨h.nodup,h.len,fun b ae=>?_⟩;rcases cc.1 ae with ae|ae;·exact h.all b ae
 ·simp at ae;subst ae;obtain⟨h1,h2⟩:=lG aj;exact⟨i,by rw[cr h1,h2],c⟩
theorem hP.new{atoms:List aV}{names:List aF}{bW:List Nat}(h:hP atoms names bW){a:aV}(aj:place names a.af=Z):hP (atoms++[a]) (names++[a.af]) (bW++[a.args.length]):=by
 have d:=qq aj;refine⟨?_,by simp[h.len],fun b ae=>?_⟩;·rw[List.nodup_append];refine⟨h.nodup,by simp,fun x f y c=>?_⟩;simp at c;subst c;intro e;subst e;exact d f
 ·rcases cc.1 ae with ae|ae;(·obtain⟨i,h1,h2⟩:=h.all b ae;exact⟨i,by rw[ie (e8.1 h1).1];exact h1,by rw[ie (e8.1 h2).1];exact h2⟩);·simp at ae;subst ae;exact⟨names.length,by simp,by rw[←h.len];simp⟩
def nE(atoms:List aV):Prop:=∀a∈atoms,∀b∈atoms,a.af=b.af→a.args.length=b.args.length
theorem hP.stop{atoms:List aV}{names:List aF}{bW:List Nat}(h:hP atoms names bW):nE atoms:=by
 intro a m b ae e;obtain⟨i,h1,h2⟩:=h.all a m;obtain⟨j,q,g⟩:=h.all b ae;obtain⟨k,d⟩:=e8.1 h1;obtain⟨l,f⟩:=e8.1 q;have p:i=j:=by rcases Nat.lt_trichotomy i j with c|n|c;(·exact absurd (d.trans (e.trans f.symm)) (List.pairwise_iff_getElem.1 h.nodup i j k l c));(·exact n);·exact absurd (f.trans (e.symm.trans d.symm)) (List.pairwise_iff_getElem.1 h.nodup j i l k c)
 subst p;rw[h2]at g;exact ee g
def eU(c:bx):List aV:=c.head::(c.body.filter fun l=>!decide (l.kind=3)).map fun l=>l.aB
def Edge(p:List bx)(x y:aF):Prop:=∃c∈p,c.head.af=x∧∃l∈c.body,l.kind≠3∧l.aB.af=y
def o1(p:List bx):Prop:=∀c∈p,∀l∈c.body,l.kind=2→¬Reach (Edge p) l.aB.af c.head.af
def kz(p:List bx):List aF:=p.flatMap fun c=>c.body.map fun l=>l.aB.af
structure Seen(p:List bx)(a:aF)(seen:List aF):Prop where
 nodup:seen.Nodup
 mem:a∈seen
 sub:∀x∈seen,x∈a::kz p
theorem Seen.start(p:List bx)(a:aF):Seen p a [a]:=⟨by simp,by simp,fun x b=>by simp at b;simp[b]⟩
theorem Seen.more{p:List bx}{a:aF}{seen:List aF}(h:Seen p a seen){c:bx}(ak:c∈p){l:Lit}(f:l∈c.body)(g:l.aB.af∉seen):Seen p a (seen++[l.aB.af]):=by
 refine⟨?_,by simp[h.mem],fun x b=>?_⟩;·rw[List.nodup_append];refine⟨h.nodup,by simp,fun x b y d=>?_⟩;simp at d;subst d;intro e;subst e;exact g b
 ·rcases cc.1 b with b|b;(·exact h.sub x b);·simp at b;subst b;exact List.mem_cons_of_mem _ (fT.2 ⟨c,ak,cK.2 ⟨l,f,rfl⟩⟩)
theorem Seen.len{p:List bx}{a:aF}{seen:List aF}(h:Seen p a seen):seen.length≤(kz p).length+1:=by
 have:=nd seen (a::kz p) h.nodup h.sub;simpa using this
def nF(p:List bx)(x:aF)(seen:List aF):Prop:=∀y,Edge p x y→y∈seen
theorem nF.mono{p:List bx}{x:aF}{s t:List aF}(h:nF p x s)(aq:∀y∈s,y∈t):nF p x t:=fun y e=>aq y (h y e)
theorem zt{p:List bx}{a b:aF}{seen:List aF}(h:Seen p a seen)(ak:∀x∈seen,nF p x seen)(ae:b∉seen):¬Reach (Edge p) a b:=fun c=>ae (xM (fun x d y e=>ak x d y e) c h.mem)
def fc(aC:List aF)(x:aF):Nat:=(cY aC x).toNat
def hQ(aC:List aF)(r:dG):eK:=⟨fc aC r.head.af,r.pos.map fun a=>fc aC a.af,r.neg.map fun a=>fc aC a.af⟩
section
variable{wildS:Nat→aF}
theorem nG{c:bx}{a:aV}(h:a∈(eA wildS c).pos):∃l∈c.body,l.kind=1∧a.af=l.aB.af∧hb mu l.aB.args a.args:=by
 have b:=mv (wildS:=wildS) c.body;obtain⟨l,d,h1,h2⟩:=b.pos.mem a h;obtain⟨h3,h4⟩:=hJ.1 d;exact⟨l,h3,ig h4,h1,h2⟩
theorem mx{c:bx}{a:aV}(h:a∈(eA wildS c).neg):∃l∈c.body,l.kind=2∧a=l.aB:=by
 have b:=mv (wildS:=wildS) c.body;have e:(eA wildS c).neg=(c.body.filter jc).map fun l=>l.aB:=b.neg;rw[e]at h;obtain⟨l,d,rfl⟩:=cK.1 h;obtain⟨h3,h4⟩:=hJ.1 d;unfold jc at h4;simp only[gF,decide_eq_true_eq]at h4;exact⟨l,h3,h4.2,rfl⟩
theorem tL{aC:List aF}{x y:aF}(a:x∈aC)(b:y∈aC)(h:fc aC x=fc aC y):x=y:=by
 refine yY a b ?_;obtain⟨i,_,h1,_⟩:=ir a;obtain⟨j,_,h2,_⟩:=ir b;unfold fc at h;omega
theorem zu{p:List bx}{aC:List aF}(w:∀c∈p,c.head.af∈aC∧∀l∈c.body,l.kind≠3→l.aB.af∈aC){rs:List eK}(z:∀r∈rs,∃c∈p,r=hQ aC (eA wildS c)){i j:Nat}(h:mf rs i j):∀a b,a∈aC→b∈aC→fc aC a=i→fc aC b=j→Reach (Edge p) a b:=by
 induction h with|refl i=>intro a b n ae g m;have:=tL n ae (g.trans m.symm);subst this;exact .refl _|step r q x y f _ B=>intro a b n ae g m;obtain⟨c,ak,rfl⟩:=z r y;obtain⟨h1,h2⟩:=w c ak;have v:a=c.head.af:=tL n h1 g;(obtain⟨l,d,t,e⟩:∃l∈c.body,l.kind≠3∧fc aC l.aB.af=q:=by rcases f with f|f;(·obtain⟨u,s,rfl⟩:=cK.1 f;obtain⟨l,d,k,e,_⟩:=nG s;exact⟨l,d,by omega,by rw[e]⟩);·obtain⟨u,s,rfl⟩:=cK.1 f;obtain⟨l,d,k,e⟩:=mx s;exact⟨l,d,by omega,by rw[e]⟩);exact .step a l.aB.af b ⟨c,ak,v.symm,l,d,t,rfl⟩ (B _ _ (h2 l d t) ae e m)
theorem zv{p:List bx}{aC:List aF}(b:∀c∈p,c.head.af∈aC∧∀l∈c.body,l.kind≠3→l.aB.af∈aC)(ak:o1 p){rs:List eK}(f:∀r∈rs,∃c∈p,r=hQ aC (eA wildS c)):js rs:=by
 intro r j q i m;obtain⟨c,a,rfl⟩:=f r j;obtain⟨n,g,rfl⟩:=cK.1 i;obtain⟨l,d,k,e⟩:=mx g;obtain⟨h1,h2⟩:=b c a;have h:=h2 l d (by omega);exact ak c a l d k (zu (wildS:=wildS) b f m l.aB.af c.head.af h h1 (by rw[e]) rfl)
end
end Go.Proofs.YtcmcicacdelmkaaGreatDoor.E
namespace Go.Proofs.YtcmcicacdelmkaaGreatDoor.E
open Go.Proofs.YtcmcicacdelmkaaGreatDoor.bN.Plain
def fA(k:Nat):Nat→Nat→List Int|0,_=>[]|a+1,i=>((i%k:Nat):Int)::fA k a (i/k)
theorem qC(k:Nat):∀a i,(fA k a i).length=a|0,_=>rfl|a+1,i=>by simp[fA,qC k a]
theorem tM(k:Nat):∀a i,fA k (a+1) i=fA k a i++[((i/k^a%k:Nat):Int)]|0,i=>by simp[fA]|a+1,i=>by rw[fA,tM k a (i/k),fA,List.cons_append,Nat.div_div_eq_div_mul,Nat.pow_succ,Nat.mul_comm k]
theorem tN{k:Nat}:∀(l:List Int),(∀x∈l,0≤x∧x<(k:Int))→∃i,i<k^l.length∧fA k l.length i=l|[],_=>⟨0,by simp,rfl⟩|x::l,h=>by obtain⟨h0,h1⟩:=h x (by simp);obtain⟨i,aj,e⟩:=tN l (fun y c=>h y (by simp[c]));obtain⟨n,rfl⟩:=Int.eq_ofNat_of_zero_le h0;(have a:n<k:=by omega);(have b:0<k:=by omega);refine⟨n+k*i,?_,?_⟩;(·rw[cT,Nat.pow_succ];have:k*(i+1)≤k*k^l.length:=Nat.mul_le_mul_left k aj;rw[Nat.mul_add,Nat.mul_one]at this;rw[Nat.mul_comm (k^l.length)];omega);·rw[cT,fA,Nat.add_mul_mod_self_left,Nat.mod_eq_of_lt a,Nat.add_mul_div_left _ _ b,Nat.div_eq_of_lt a,Nat.zero_add,e]
abbrev dK:=Int×List Int
def rowsOf(k p:Nat)(a:Int):List dK:=(List.range (k^a.toNat)).map fun i=>((p:Int),fA k a.toNat i)
def fl(k:Nat):Nat→List Int→List dK|_,[]=>[]|p,a::r=>rowsOf k p a++fl k (p+1) r
theorem tO{k:Nat}:∀{l:List Int}{p q:Nat}{a:Int}{args:List Int},l[q]?=O a→args.length=a.toNat→(∀x∈args,0≤x∧x<(k:Int))→(((p+q:Nat):Int),args)∈fl k p l|[],p,q,a,args,h,_,_=>by simp at h|b::l,p,0,a,args,h,c,d=>by simp only[gq,e9]at h;subst h;obtain⟨i,aj,e⟩:=tN args d;refine cc.2 (.inl (cK.2 ⟨i,List.mem_range.2 (by rw[←c];exact aj),?_⟩));rw[←c,e];rfl|b::l,p,q+1,a,args,h,c,d=>by have:=tO (k:=k) (l:=l) (p:=p+1) (q:=q) (a:=a) (args:=args) (by simpa using h) c d;refine cc.2 (.inr ?_);rw[show p+(q+1)=p+1+q by omega];exact this
def nH(k:Nat)(s:aD):Prop:=∀x∈s.cells,x<(k:Int)
theorem tP(l:List Int)(i:Nat):at' l i=cellAt l i:=rfl
theorem tQ{k:Nat}{s:aD}(b:cU s=K)(a:nH k s):Cells k s.cells:=by
 intro i aj;by_cases h:at' s.cells i<0;·obtain⟨j,h1,h2,h3⟩:=ox b aj h;refine .inr ⟨j,h2,?_,?_⟩;(·rw[tP]at h1;omega);·exact h3
 ·refine .inl ⟨by rw[tP]at h;omega,?_⟩;have:=a (at' s.cells i) (at_mem aj);exact this
theorem tR{s:aD}{row:List Int}(c:cU s=K)(b:row.length=s.cells.length):ds s s.af row=K↔∀i,i<row.length→asks s.cells row i:=by
 unfold ds;rw[c,aY rfl,aY b];simp only[Bool.true_and];rw[jo];constructor;·intro h i aj;have h1:=h i aj;unfold iY at h1;have h2:=eq_of_beq h1;unfold asks;by_cases a:cellAt s.cells i<0;(·rw[if_pos a];rw[if_pos (show at' s.cells i<0 from a)]at h2;exact h2);·rw[if_neg a];rw[if_neg (show¬at' s.cells i<0 from a)]at h2;exact h2
 ·intro h i aj;have h1:=h i aj;unfold asks at h1;unfold iY;refine beq_iff_eq.2 ?_;by_cases a:cellAt s.cells i<0;(·rw[if_pos (show at' s.cells i<0 from a)];rw[if_pos a]at h1;exact h1);·rw[if_neg (show¬at' s.cells i<0 from a)];rw[if_neg a]at h1;exact h1
def nI(a b:aD)(rows:List dK):Bool:=decide (a.af=b.af)&&rows.all fun r=>!(decide (r.1=b.af)&&ds b r.1 r.2)||ds a r.1 r.2
theorem zw{k:Nat}{bW:List Int}{a b:aD}(n:cU a=K)(ae:cU b=K)(F:nH k a)(G:nH k b)(z:a.af=b.af→a.cells.length=b.cells.length)(P:∃(q:Nat)(x:Int),b.af=(q:Int)∧bW[q]?=O x∧b.cells.length=x.toNat):fK a b=nI a b (fl (k+2) 0 bW):=by
 by_cases hp:a.af=b.af;·have e:=z hp;unfold nI;rw[aY hp,Bool.true_and,Bool.eq_iff_iff];constructor;(·intro ak;rw[List.all_eq_true];intro r _;simp only[Bool.or_eq_true,Bool.not_eq_true',Bool.and_eq_false_iff];by_cases t:ds b r.1 r.2=K;(·exact .inr (xp ak t));·exact .inl (.inr (by simpa using t)));·intro h;refine Classical.byContradiction fun ak=>?_;(have hex:∃i,i<a.cells.length∧iZ a.cells b.cells i=D:=by refine Classical.byContradiction fun c=>ak (r' n ae hp e (fun i aj=>?_));by_cases g:iZ a.cells b.cells i=K;(·exact g);·exact absurd ⟨i,aj,by simpa using g⟩ c);obtain⟨i,aj,s⟩:=hex;have u:=tQ n F;have m:=tQ ae G;obtain⟨q,x,v,w,y⟩:=P;(have E:∀x∈row k (cellAt b.cells i) b.cells,0≤x∧x<((k+2:Nat):Int):=fun x g=>by have:=xP (r:=cellAt b.cells i) m x g;omega);(have f:(row k (cellAt b.cells i) b.cells).length=b.cells.length:=by simp[row]);have H:=tO (k:=k+2) (l:=bW) (p:=0) (q:=q) (a:=x) (args:=row k (cellAt b.cells i) b.cells) w (by rw[f,y]) E;have d:=List.all_eq_true.1 h _ H;(have L:(((0+q:Nat):Int))=b.af:=by rw[v];simp);simp only[L]at d;have C:ds b b.af (row k (cellAt b.cells i) b.cells)=K:=(tR ae f).2 (fun j Q=>xO m j (by omega));rw[C]at d;simp only[decide_true,Bool.and_self,Bool.not_true,Bool.false_or]at d;rw[←hp]at d;have B:=(tR n (by rw[f,e])).1 d i (by rw[f,←e];exact aj);refine xQ e u m aj ?_ B;unfold iZ at s;have h2:=ne_of_beq_false s;by_cases c:cellAt a.cells i<0;(·rw[if_pos c];rw[if_pos (show at' a.cells i<0 from c)]at h2;exact h2);·rw[if_neg c];rw[if_neg (show¬at' a.cells i<0 from c)]at h2;exact h2
 ·rw[r8 hp];unfold nI;rw[a1 hp];rfl
end Go.Proofs.YtcmcicacdelmkaaGreatDoor.E
namespace Go.Proofs.YtcmcicacdelmkaaGreatDoor.E
open cA.ab
open Go.Proofs.YtcmcicacdelmkaaGreatDoor.bN.Plain
def iQ(cs:List aK)(vars:List aF)(t:bl):b0:=if t.kind=4 then(K,cY vars t.ai)else(D,cY cs (dx t))
def fi(z:dT)(vars:List aF)(a:aV):ch:=(cY z.aC a.af,a.args.map (iQ z.cs vars))
def jy(z:dT)(r:dG):List ch:=r.pos.map (fi z r.vars)++r.neg.map (fi z r.vars)
def fO(w:cq):List ch:=w.aP.flatMap (jy w.z)
def rowOf(z:dT)(f:cB):dK:=(cY z.aC f.af,f.args.map (cY z.cs))
structure jz(eN bB:Nat)(x:ch):Prop where
 af:0≤x.1∧x.1<(eN:Int)
 kZ:∀s∈x.2,(s.1=K→0≤s.2∧s.2<16)∧(s.1=D→0≤s.2∧s.2<(bB:Int))
theorem jz.ok{eN bB:Nat}{x:ch}(h:jz eN bB x):x.2.all gG=K:=by
 rw[List.all_eq_true];rintro⟨b,n⟩aq;obtain⟨h1,h2⟩:=h.kZ _ aq;cases b with|true=>rfl|false=>have:=(h2 rfl).1;simp only at this;unfold gG;rw[aY this];rfl
theorem nJ{α:Type}[DecidableEq α]{l:List α}{c:α}(h:c∈l):0≤cY l c∧cY l c<(l.length:Int):=by
 obtain⟨i,h1,h2,_⟩:=ir h;omega
theorem tS{z:dT}{vars:List aF}{a:aV}(c:gN z a)(e:vars.length≤16)(av:∀t∈a.args,t.kind=4→t.ai∈vars):jz z.aC.length z.cs.length (fi z vars a):=by
 refine⟨nJ c.1,fun s aq=>?_⟩;obtain⟨t,d,rfl⟩:=cK.1 aq;unfold iQ;by_cases b:t.kind=4;·rw[if_pos b];have:=nJ (av t d b);exact⟨fun _=>by simp only;omega,fun h=>by cases h⟩
 ·rw[if_neg b];exact⟨fun h=>by(cases h),fun _=>nJ (c.2 t d b)⟩
structure lP(eN bB:Nat)(r:dK):Prop where
 af:0≤r.1∧r.1<(eN:Int)
 ids:∀x∈r.2,0≤x∧x<(bB:Int)
theorem zx{z:dT}{f:cB}(h:f.af∈z.aC∧∀c∈f.args,c∈z.cs):lP z.aC.length z.cs.length (rowOf z f):=by
 refine⟨nJ h.1,fun x a=>?_⟩;obtain⟨c,ak,rfl⟩:=cK.1 a;exact nJ (h.2 c ak)
theorem zy{l:List Int}(h:∀x∈l,0≤x)(j:Nat):0≤at' l j:=by
 rcases Nat.lt_or_ge j l.length with a|a;·exact h _ (at_mem a)
 ·unfold at';rw[List.getElem?_eq_none a];exact Int.le_refl 0
def eV(s:aD)(rows:List dK):List Int:=((List.range rows.length).filter fun i=>match rows[i]? with|some r=>ds s r.1 r.2|none=>D).map fun(i:Nat)=>(i:Int)
def hx(x:ch)(rows:List dK):List Int:=((List.range rows.length).filter fun i=>match rows[i]? with|some r=>nb x.1 x.2 r.1 r.2|none=>D).map fun(i:Nat)=>(i:Int)
theorem zz{x:ch}(hp:0≤x.1)(a:x.2.all gG=K)(rows:List dK):eV (dE x) rows=hx x rows:=by
 unfold eV hx;congr 1;refine List.filter_congr (fun i _=>?_);cases rows[i]? with|none=>rfl|some r=>exact xn hp a
theorem zA(s:aD)(rows:List dK)(r:dK):eV s (rows++[r])=eV s rows++if ds s r.1 r.2=K then[(rows.length:Int)]else[]:=by
 unfold eV;rw[ba,er,List.range_succ,fu,eS];congr 1;·congr 1;refine List.filter_congr (fun i aj=>?_);rw[ie (List.mem_range.1 aj)]
 ·(have e:(rows++[r])[rows.length]?=O r:=by simp);rw[List.filter_cons];simp only[e];by_cases h:ds s r.1 r.2=K<;>simp[h]
theorem zB(x:ch)(rows:List dK){i:Nat}(h:i<rows.length):hx x (rows.take (i+1))=hx x (rows.take i)++if nb x.1 x.2 rows[i].1 rows[i].2=K then[(i:Int)]else[]:=by
 have c:(rows.take i).length=i:=by simp;omega
 rw[dh h];unfold hx;rw[ba,er,List.range_succ,fu,eS];congr 1;·congr 1;refine List.filter_congr (fun j b=>?_);rw[ie (List.mem_range.1 b)]
 ·(have e:(rows.take i++[rows[i]])[(rows.take i).length]?=O rows[i]:=by rw[jU (aG _)];simp);rw[List.filter_cons];simp only[e];by_cases a:nb x.1 x.2 rows[i].1 rows[i].2=K<;>simp[a,c]
theorem tT(s:aD)(rows:List dK):(eV s rows).length≤rows.length:=by
 unfold eV;rw[dW];exact cp (List.length_filter_le _ _) (by simp)
theorem qD(s:aD)(rows:List dK)(m:Nat)(d:m≤rows.length):∃T,eV s rows=eV s (rows.take m)++T∧(∀x∈eV s (rows.take m),0≤x∧x<(m:Int))∧∀x∈T,(m:Int)≤x:=by
 refine⟨(((List.range (rows.length-m)).map fun i=>m+i).filter fun i=>match rows[i]? with|some r=>ds s r.1 r.2|none=>D).map fun(i:Nat)=>(i:Int),?_,?_,?_⟩;·(have c:List.range rows.length=List.range m++(List.range (rows.length-m)).map fun i=>m+i:=by rw[←List.range_add];congr 1;omega);(have b:(rows.take m).length=m:=by simp;omega);unfold eV;rw[c,fu,eS,b];congr 2;refine List.filter_congr (fun i aj=>?_);rw[List.getElem?_take,if_pos (List.mem_range.1 aj)]
 ·intro x a;unfold eV at a;obtain⟨i,aj,rfl⟩:=cK.1 a;have:=List.mem_range.1 (hJ.1 aj).1;simp at this;omega
 ·intro x a;obtain⟨i,aj,rfl⟩:=cK.1 a;obtain⟨j,_,rfl⟩:=cK.1 (hJ.1 aj).1;omega
theorem zC{s t:aD}(h:iJ s t=K):s=t:=by
 unfold iJ at h;simp only[gF,decide_eq_true_eq]at h;cases s;cases t;simp only at h;rw[h.1,h.2]
theorem zD{bd:List ch}{x:ch}(d:x∈bd)(hp:0≤x.1)(c:x.2.all gG=K):dE x∈eJ bd:=by
 have aq:(dE x).af=x.1:=by unfold dE;rw[lx hp c]
 have h:∀(l:List ch)(acc:List aD),(dE x∈acc∨x∈l)→dE x∈l.foldl fh acc:=by intro l;induction l with|nil=>intro acc h;rcases h with h|h;exact h;simp at h|cons y l f=>intro acc h;rw[e2];refine f _ ?_;(have a:∀t∈acc,t∈fh acc y:=by intro t av;unfold fh;split;(·exact cc.2 (.inl av));·exact av);rcases h with h|h;(·exact .inl (a _ h));·rcases dz.1 h with rfl|h;(·left;by_cases b:fL acc (dE x)=K;(·obtain⟨t,av,e⟩:=List.any_eq_true.1 b;rw[zC e];exact a t av);·rw[sd (by rw[aq];exact hp) (by simpa using b)];simp);·exact .inr h
 exact h bd [] (.inr d)
theorem zE(bd:List ch):im (eJ bd)=K:=by
 have h:∀(l:List ch)(acc:List aD),im acc=K→im (l.foldl fh acc)=K:=by intro l;induction l with|nil=>intro acc h;exact h|cons y l a=>intro acc h;rw[e2];refine a _ ?_;unfold fh;split;(·rename_i ak;simp only[gF,decide_eq_true_eq,Bool.not_eq_true']at ak;exact xF h (by unfold dE at ak⊢;rw[xy];exact aY ak.1) ak.2);·exact h
 exact h bd [] xG
theorem tU{eN bB:Nat}{x:ch}(h:jz eN bB x):cU (dE x)=K∧(dE x).af=x.1∧(dE x).cells.length=x.2.length∧nH bB (dE x):=by
 have a:=h.ok;have e:dE x=⟨x.1,x.2.map (cellOf x.2)⟩:=lx h.af.1 a;refine⟨p6 h.af.1 a,by rw[e],by rw[e];simp,?_⟩;rw[e];intro c ak;obtain⟨s,aq,rfl⟩:=cK.1 ak;unfold cellOf;split;·omega
 ·rename_i ae;exact((h.kZ s aq).2 (by simpa using ae)).2
end Go.Proofs.YtcmcicacdelmkaaGreatDoor.E
