/- Texts of this seat. Conditions: those that each of them states. -/
import Derived.Lib.ParseIntB
open Option renaming none→Z,some→O
open Bool renaming true→K,false→D
set_option linter.all false
namespace Go.Proofs.YtcmcicacdelmkaaGreatDoor
abbrev aS:=@Array.getElem?_eq_some_iff
abbrev bK:=@List.setIfInBounds_toArray
abbrev bH:=@List.set_cons_succ
abbrev bJ:=@List.set_cons_zero
abbrev ba:=@List.length_append
abbrev aG:=@Nat.le_refl
abbrev cr:=@List.getElem?_eq_getElem
abbrev dh:=@List.take_succ_eq_append_getElem
abbrev aZ:=@Nat.zero_le
abbrev cl:=@List.length_drop
abbrev cb:=@List.getElem_mem
abbrev cc:=@List.mem_append
abbrev cT:=@List.length_cons
abbrev cX:=@List.take_length
abbrev er:=@List.length_singleton
abbrev cp:=@Nat.le_trans
abbrev dr:=@List.length_take
abbrev eE:=@Array.getElem?_modify
abbrev e8:=@List.getElem?_eq_some_iff
abbrev cK:=@List.mem_map
abbrev dW:=@List.length_map
abbrev fI:=@List.drop_eq_nil_of_le
abbrev ee:=@Option.some.inj
abbrev gq:=@List.getElem?_cons_zero
abbrev ff:=@List.flatMap_cons
abbrev fJ:=@Nat.lt_of_lt_of_le
abbrev hs:=@List.getElem?_cons_succ
abbrev fu:=@List.filter_append
abbrev e2:=@List.foldl_cons
abbrev hK:=@Nat.le_of_lt
abbrev ie:=@List.getElem?_append_left
abbrev eS:=@List.map_append
abbrev fH:=@List.append_assoc
abbrev fT:=@List.mem_flatMap
abbrev dz:=@List.mem_cons
abbrev aY:=@decide_eq_true
abbrev a1:=@decide_eq_false
abbrev jn:=@List.length_eq_zero_iff
abbrev e9:=@Option.some.injEq
abbrev gF:=@Bool.and_eq_true
abbrev jU:=@List.getElem?_append_right
abbrev kp:=@List.drop_eq_getElem_cons
abbrev lu:=@List.eq_nil_of_length_eq_zero
abbrev ig:=@of_decide_eq_true
abbrev ih:=@List.flatMap_append
abbrev fg:=@List.map_cons
abbrev iI:=@List.mem_of_getElem?
abbrev hJ:=@List.mem_filter
abbrev ha:=@List.length_nil
theorem aa{α:Sort _}(a:α):∃x,x=a:=⟨_,rfl⟩
end Go.Proofs.YtcmcicacdelmkaaGreatDoor
namespace Go.Proofs.YtcmcicacdelmkaaGreatDoor.bN.Plain
def at'(l:List Int)(i:Nat):Int:=l[i]?.getD 0
structure aD where
 af:Int
 cells:List Int
def ij(l:List Int)(i:Nat):Bool:=decide (0≤at' l i)||(decide ((-1-at' l i).toNat≤i)&&at' l (-1-at' l i).toNat==at' l i)
def cU(s:aD):Bool:=decide (0≤s.af)&&(List.range s.cells.length).all (ij s.cells)
def kq(l:List Int)(k:Nat):Prop:=∀i,i<k→ij l i=K
theorem kq.start(l:List Int):kq l 0:=fun i h=>by
 omega
theorem kq.round{l:List Int}{k:Nat}(h:kq l k)(a:ij l k=K):kq l (k+1):=fun i aj=>by
 by_cases e:i=k;·subst e;exact a
 ·exact h i (by omega)
theorem jo{n:Nat}{f:Nat→Bool}:(List.range n).all f=K↔∀i,i<n→f i=K:=by
 simp[List.all_eq_true,List.mem_range]
theorem p3{s:aD}(hp:0≤s.af)(h:kq s.cells s.cells.length):cU s=K:=by
 unfold cU;rw[gF];exact⟨by simpa using hp,jo.2 h⟩
theorem r0{s:aD}{i:Nat}(aj:i<s.cells.length)(h:ij s.cells i=D):cU s=D:=by
 unfold cU;have:(List.range s.cells.length).all (ij s.cells)=D:=by rw[Bool.eq_false_iff];intro e;rw[jo.1 e i aj]at h;cases h
 rw[this,Bool.and_false]
theorem xb{s:aD}(hp:s.af<0):cU s=D:=by
 unfold cU;rw[a1 (by omega),Bool.false_and]
theorem r1{l:List Int}{i:Nat}{c:Int}(ak:c=at' l i)(h:0≤c):ij l i=K:=by
 unfold ij;rw[←ak,aY h,Bool.true_or]
theorem xc{l:List Int}{i j:Nat}{c:Int}(ak:c=at' l i)(h:c<0)(a:-1-c=(j:Int))(b:i<j):ij l i=D:=by
 unfold ij;rw[←ak,a,a1 (by omega),a1 (by simp;omega)];rfl
theorem r2{l:List Int}{i j:Nat}{c:Int}(ak:c=at' l i)(h:c<0)(b:-1-c=(j:Int))(d:j≤i)(a:at' l j=c):ij l i=K:=by
 unfold ij;rw[←ak,b,Int.toNat_natCast,a];simp;omega
theorem xd{l:List Int}{i j:Nat}{c:Int}(ak:c=at' l i)(h:c<0)(b:-1-c=(j:Int))(a:at' l j≠c):ij l i=D:=by
 unfold ij;rw[←ak,b,Int.toNat_natCast,a1 (by omega)];simp[a]
def jq(l m:List Int)(k:Nat):Prop:=∀j,j<k→at' l j=at' m j
theorem jq.start(l m:List Int):jq l m 0:=fun j h=>by
 omega
theorem jq.round{l m:List Int}{k:Nat}{x y:Int}(h:jq l m k)(b:x=at' l k)(c:y=at' m k)(e:x=y):jq l m (k+1):=fun j d=>by
 by_cases a:j=k;·subst a;rw[←b,←c,e]
 ·exact h j (by omega)
theorem r3{l m:List Int}(a:l.length=m.length)(h:jq l m l.length):l=m:=by
 apply List.ext_getElem a;intro i h1 h2;have:=h i h1;unfold at' at this;rw[cr h1,cr h2]at this;simpa using this
theorem r4{l m:List Int}(h:l.length≠m.length):decide (l=m)=D:=a1 fun e=>h (by rw[e])
theorem r5{l m:List Int}{k:Nat}{x y:Int}(a:x=at' l k)(b:y=at' m k)(e:x≠y):decide (l=m)=D:=a1 fun h=>e (by rw[a,b,h])
theorem at_mem{l:List Int}{i:Nat}(h:i<l.length):at' l i∈l:=by
 unfold at';rw[cr h];exact cb h
def iY(c row:List Int)(i:Nat):Bool:=at' row i==(if at' c i<0 then at' row (-1-at' c i).toNat else at' c i)
def ds(s:aD)(af:Int)(row:List Int):Bool:=cU s&&(decide (af=s.af)&&(decide (row.length=s.cells.length)&&(List.range row.length).all (iY s.cells row)))
def iZ(a b:List Int)(i:Nat):Bool:=at' b i==(if at' a i<0 then at' b (-1-at' a i).toNat else at' a i)
def fK(a b:aD):Bool:=cU a&&(cU b&&(decide (a.af=b.af)&&(decide (a.cells.length=b.cells.length)&&(List.range a.cells.length).all (iZ a.cells b.cells))))
def ik(f:Nat→Bool)(k:Nat):Prop:=∀i,i<k→f i=K
theorem ik.start(f:Nat→Bool):ik f 0:=fun i h=>by
 omega
theorem ik.round{f:Nat→Bool}{k:Nat}(h:ik f k)(a:f k=K):ik f (k+1):=fun i aj=>by
 by_cases e:i=k;·subst e;exact a
 ·exact h i (by omega)
theorem p4{n:Nat}{f:Nat→Bool}{i:Nat}(aj:i<n)(h:f i=D):(List.range n).all f=D:=by
 rw[Bool.eq_false_iff];intro e;rw[jo.1 e i aj]at h;cases h
theorem xe{s:aD}{p:Int}{row:List Int}(h:cU s=D):ds s p row=D:=by
 unfold ds;rw[h];rfl
theorem xf{s:aD}{p:Int}{row:List Int}(h:p≠s.af):ds s p row=D:=by
 unfold ds;rw[a1 h];simp
theorem xg{s:aD}{p:Int}{row:List Int}(h:row.length≠s.cells.length):ds s p row=D:=by
 unfold ds;rw[a1 h];simp
theorem r6{s:aD}{p:Int}{row:List Int}{i:Nat}(aj:i<row.length)(h:iY s.cells row i=D):ds s p row=D:=by
 unfold ds;rw[p4 aj h];simp
theorem r7{s:aD}{p:Int}{row:List Int}(b:cU s=K)(hp:p=s.af)(a:row.length=s.cells.length)(h:ik (iY s.cells row) row.length):ds s p row=K:=by
 unfold ds;rw[b,aY hp,aY a,jo.2 h];rfl
theorem ou{c row:List Int}{i:Nat}{x y:Int}(a:x=at' c i)(b:y=at' row i)(h:0≤x):iY c row i=(y==x):=by
 unfold iY;rw[←a,←b,if_neg (by omega)]
theorem ov{c row:List Int}{i j:Nat}{x y z:Int}(b:x=at' c i)(d:y=at' row i)(h:x<0)(a:-1-x=(j:Int))(e:z=at' row j):iY c row i=(y==z):=by
 unfold iY;rw[←b,←d,if_pos h,a,Int.toNat_natCast,←e]
theorem xh{a b:aD}(h:cU a=D):fK a b=D:=by
 unfold fK;rw[h];rfl
theorem xi{a b:aD}(h:cU b=D):fK a b=D:=by
 unfold fK;rw[h];simp
theorem r8{a b:aD}(h:a.af≠b.af):fK a b=D:=by
 unfold fK;rw[a1 h];simp
theorem xj{a b:aD}(h:a.cells.length≠b.cells.length):fK a b=D:=by
 unfold fK;rw[a1 h];simp
theorem r9{a b:aD}{i:Nat}(aj:i<a.cells.length)(h:iZ a.cells b.cells i=D):fK a b=D:=by
 unfold fK;rw[p4 aj h];simp
theorem r'{a b:aD}(c:cU a=K)(ae:cU b=K)(hp:a.af=b.af)(d:a.cells.length=b.cells.length)(h:ik (iZ a.cells b.cells) a.cells.length):fK a b=K:=by
 unfold fK;rw[c,ae,aY hp,aY d,jo.2 h];rfl
theorem p5{a b:List Int}{i:Nat}{x y:Int}(c:x=at' a i)(d:y=at' b i)(h:0≤x):iZ a b i=(y==x):=by
 unfold iZ;rw[←c,←d,if_neg (by omega)]
theorem ow{a b:List Int}{i j:Nat}{x y z:Int}(d:x=at' a i)(e:y=at' b i)(h:x<0)(c:-1-x=(j:Int))(f:z=at' b j):iZ a b i=(y==z):=by
 unfold iZ;rw[←d,←e,if_pos h,c,Int.toNat_natCast,←f]
theorem ox{s:aD}(h:cU s=K){i:Nat}(aj:i<s.cells.length)(ak:at' s.cells i<0):∃j:Nat,-1-at' s.cells i=(j:Int)∧j≤i∧at' s.cells j=at' s.cells i:=by
 unfold cU at h;rw[gF]at h;have:=jo.1 h.2 i aj;unfold ij at this;rw[a1 (show¬0≤at' s.cells i by omega),Bool.false_or,gF]at this;refine⟨(-1-at' s.cells i).toNat,by omega,by simpa using this.1,by simpa using this.2⟩
def iJ(s t:aD):Bool:=decide (s.af=t.af)&&decide (s.cells=t.cells)
theorem xk{s t:aD}(h:s.af≠t.af):iJ s t=D:=by
 unfold iJ;rw[a1 h];rfl
abbrev b0:=Bool×Int
def isVar(n:Int)(a:b0):Bool:=a.1&&a.2==n
def dI(l:List b0)(n:Int):Nat:=l.findIdx (isVar n)
def cellOf(l:List b0)(a:b0):Int:=if a.1 then-1-(dI l a.2:Int)else a.2
def gG(a:b0):Bool:=a.1||decide (0≤a.2)
def fv(p:Int)(l:List b0):aD:=if decide (0≤p)&&l.all gG then⟨p,l.map (cellOf l)⟩else⟨-1,[]⟩
theorem me{l:List b0}{i:Nat}{n:Int}(h:l[i]?=O (K,n)):dI l n≤i:=by
 obtain⟨aj,e⟩:=e8.1 h;rcases Nat.lt_or_ge i (dI l n)with b|a;·have:=List.not_of_lt_findIdx b;rw[e]at this;simp[isVar]at this
 ·exact a
theorem sa{l:List b0}{n:Int}(h:dI l n<l.length):l[dI l n]?=O (K,n):=by
 have h1:isVar n (l[dI l n]'h)=K:=List.findIdx_getElem (w:=h);rw[cr h];generalize l[dI l n]'h=a at h1⊢;obtain⟨b,m⟩:=a;simp[isVar]at h1;simp[h1.1,h1.2]
theorem oy{l:List b0}{i:Nat}{a:b0}{n:Int}(h:l[i]?=O a)(b:a≠(K,n)):dI l n≠i:=by
 intro e;have aj:=(e8.1 h).1;have:=sa (l:=l) (n:=n) (by omega);rw[e,h]at this;exact b (ee this)
theorem xl{p:Int}{l:List b0}(h:p<0):fv p l=⟨-1,[]⟩:=by
 unfold fv;rw[a1 (by omega)];rfl
theorem xm{p:Int}{l:List b0}{i:Nat}{c:Int}(h:l[i]?=O (D,c))(ak:c<0):fv p l=⟨-1,[]⟩:=by
 unfold fv;have:l.all gG=D:=by rw[Bool.eq_false_iff];intro e;have:=List.all_eq_true.1 e _ (iI h);simp[gG]at this;omega
 rw[this,Bool.and_false];rfl
structure il(l:List b0)(i:Nat)(c:List Int):Prop where
 le:i≤l.length
 ok:(l.take i).all gG=K
 cells:c=(l.take i).map (cellOf l)
theorem il.start(l:List b0):il l 0 []:=⟨aZ _,by simp,by simp⟩
theorem il.len{l:List b0}{i:Nat}{c:List Int}(h:il l i c):c.length=i:=by
 rw[h.cells,dW,dr];have:=h.le;omega
theorem take_one{α:Type}{l:List α}{i:Nat}{a:α}(h:l[i]?=O a):l.take (i+1)=l.take i++[a]:=by
 rw[List.take_add_one,h];rfl
theorem il.const{l:List b0}{i:Nat}{c:List Int}{x:Int}(h:il l i c)(aj:l[i]?=O (D,x))(b:0≤x):il l (i+1) (c++[x]):=by
 have a:=(e8.1 aj).1;refine⟨a,?_,?_⟩;·rw[take_one aj,List.all_append,h.ok];simp[gG,b]
 ·rw[take_one aj,eS,←h.cells];simp[cellOf]
theorem il.var{l:List b0}{i:Nat}{c:List Int}{n:Int}{j:Nat}(h:il l i c)(aj:l[i]?=O (K,n))(a:dI l n=j):il l (i+1) (c++[-1-(j:Int)]):=by
 have b:=(e8.1 aj).1;refine⟨b,?_,?_⟩;·rw[take_one aj,List.all_append,h.ok];simp[gG]
 ·rw[take_one aj,eS,←h.cells,←a];simp[cellOf]
theorem il.stop{l:List b0}{c:List Int}{p:Int}(h:il l l.length c)(hp:0≤p):fv p l=⟨p,c⟩:=by
 unfold fv;have h1:=h.ok;have h2:=h.cells;rw[cX]at h1 h2;rw[h1,aY hp,h2];rfl
theorem lx{p:Int}{l:List b0}(hp:0≤p)(h:l.all gG=K):fv p l=⟨p,l.map (cellOf l)⟩:=by
 unfold fv;rw[h,aY hp];rfl
theorem oz{l:List b0}{f:b0→Int}{i:Nat}{a:b0}(h:l[i]?=O a):at' (l.map f) i=f a:=by
 unfold at';rw[List.getElem?_map,h];rfl
theorem p6{p:Int}{l:List b0}(hp:0≤p)(h:l.all gG=K):cU (fv p l)=K:=by
 rw[lx hp h];refine p3 hp (fun i aj=>?_);simp only[dW]at aj;have d:l[i]?=O l[i]:=cr aj;generalize l[i]=a at d;obtain⟨b,n⟩:=a;have e:=oz (f:=cellOf l) d;cases b with|false=>have g:=List.all_eq_true.1 h _ (iI d);simp[gG]at g;exact r1 (c:=n) (by rw[e];rfl) g|true=>have q:=me d;have m:=sa (l:=l) (n:=n) (by omega);have k:=oz (f:=cellOf l) m;exact r2 (c:=-1-(dI l n:Int)) (j:=dI l n) (by rw[e];rfl) (by omega) (by omega) q (by rw[k];rfl)
def na(l:List b0)(i:Nat):b0:=l[i]?.getD (D,0)
def gr(l:List b0)(args:List Int)(i:Nat):Bool:=at' args i==(if(na l i).1 then at' args (dI l (na l i).2)else(na l i).2)
def nb(p:Int)(l:List b0)(af:Int)(args:List Int):Bool:=decide (p=af)&&(decide (l.length=args.length)&&(List.range args.length).all (gr l args))
theorem sb{l:List b0}{i:Nat}{a:b0}(h:l[i]?=O a):na l i=a:=by
 unfold na;rw[h];rfl
theorem sc{l:List b0}{args:List Int}{i:Nat}{c y:Int}(h:l[i]?=O (D,c))(a:y=at' args i):gr l args i=(y==c):=by
 unfold gr;rw[sb h,←a];rfl
theorem p7{l:List b0}{args:List Int}{i:Nat}{n y:Int}(h:l[i]?=O (K,n))(a:y=at' args i):gr l args i=(y==at' args (dI l n)):=by
 unfold gr;rw[sb h,←a];rfl
theorem xn{p q:Int}{l:List b0}{args:List Int}(hp:0≤p)(d:l.all gG=K):ds (fv p l) q args=nb p l q args:=by
 have m:=p6 hp d;rw[lx hp d]at m⊢;unfold ds nb;rw[m,Bool.true_and];simp only[dW];by_cases h1:q=p;·rw[aY h1,aY h1.symm,Bool.true_and,Bool.true_and];by_cases h2:args.length=l.length;(·rw[aY h2,aY h2.symm,Bool.true_and,Bool.true_and,Bool.eq_iff_iff,jo,jo];(have g:∀i,i<args.length→iY (l.map (cellOf l)) args i=gr l args i:=by intro i aj;have c:l[i]?=O (l[i]'(by omega)):=cr (by omega);generalize l[i]'(by omega)=a at c;obtain⟨b,n⟩:=a;have ak:=oz (f:=cellOf l) c;cases b with|false=>have k:=List.all_eq_true.1 d _ (iI c);simp[gG]at k;rw[ou (x:=n) (y:=at' args i) (by rw[ak];rfl) rfl k,sc c rfl]|true=>rw[ov (x:=-1-(dI l n:Int)) (y:=at' args i) (j:=dI l n) (z:=at' args (dI l n)) (by rw[ak];rfl) rfl (by omega) (by omega) rfl,p7 c rfl]);exact⟨fun h i aj=>by rw[←g i aj];exact h i aj,fun h i aj=>by rw[g i aj];exact h i aj⟩);·rw[a1 h2,a1 (show¬l.length=args.length from fun e=>h2 e.symm)];rfl
 ·rw[a1 h1,a1 (show¬p=q from fun e=>h1 e.symm)];rfl
theorem xo{s t:aD}(h:fK s t=K):cU s=K∧cU t=K∧s.af=t.af∧s.cells.length=t.cells.length∧∀i,i<s.cells.length→iZ s.cells t.cells i=K:=by
 unfold fK at h;simp only[gF,decide_eq_true_eq]at h;exact⟨h.1,h.2.1,h.2.2.1,h.2.2.2.1,jo.1 h.2.2.2.2⟩
theorem xp{s t:aD}{q:Int}{row:List Int}(h:fK s t=K)(b:ds t q row=K):ds s q row=K:=by
 obtain⟨vs,m,hp,j,f⟩:=xo h;unfold ds at b;simp only[gF,decide_eq_true_eq]at b;obtain⟨_,e,l,c⟩:=b;have c:=jo.1 c;have val:∀i,i<t.cells.length→at' row i=if at' t.cells i<0 then at' row (-1-at' t.cells i).toNat else at' t.cells i:=fun i aj=>by have:=c i (by omega);unfold iY at this;simpa using this
 refine r7 vs (by rw[e,hp]) (by omega) (fun i aj=>?_);have a:=f i (by omega);by_cases h0:0≤at' s.cells i;·rw[p5 rfl rfl h0]at a;simp only[beq_iff_eq]at a;rw[ou rfl rfl h0,val i (by omega),if_neg (by omega),a];simp
 ·obtain⟨k,d,g,_⟩:=ox vs (show i<s.cells.length by omega) (by omega);rw[ow rfl rfl (by omega) d rfl]at a;simp only[beq_iff_eq]at a;rw[ov rfl rfl (by omega) d rfl,val i (by omega),val k (by omega),a];simp
def fL(l:List aD)(s:aD):Bool:=l.any (iJ s)
def kR(l:List aD)(s:aD)(k:Nat):Prop:=∀(j:Nat)(t:aD),j<k→l[j]?=O t→iJ s t=D
theorem kR.start(l:List aD)(s:aD):kR l s 0:=fun j t h=>by
 omega
theorem kR.round{l:List aD}{s t:aD}{k:Nat}(h:kR l s k)(b:l[k]?=O t)(a:iJ s t=D):kR l s (k+1):=fun j u c hu=>by
 by_cases e:j=k;·subst e;rw[b]at hu;obtain rfl:=ee hu;exact a
 ·exact h j u (by omega) hu
theorem xq{l:List aD}{s t:aD}{k:Nat}(a:l[k]?=O t)(h:iJ s t=K):fL l s=K:=by
 unfold fL;exact List.any_eq_true.2 ⟨t,iI a,h⟩
theorem xr{l:List aD}{s:aD}(h:kR l s l.length):fL l s=D:=by
 rw[Bool.eq_false_iff];intro e;obtain⟨t,av,aq⟩:=List.any_eq_true.1 e;obtain⟨k,a,rfl⟩:=List.getElem_of_mem av;have:=h k _ a (cr a);rw[this]at aq;cases aq
abbrev ch:=Int×List b0
def dE(x:ch):aD:=fv x.1 x.2
def fh(acc:List aD)(x:ch):List aD:=if decide (0≤(dE x).af)&&!(fL acc (dE x))then acc++[dE x]else acc
def eJ(bd:List ch):List aD:=bd.foldl fh []
theorem xt{bd:List ch}{i:Nat}{x:ch}(h:bd[i]?=O x):eJ (bd.take (i+1))=fh (eJ (bd.take i)) x:=by
 unfold eJ;rw[take_one h,List.foldl_append];rfl
theorem sd{acc:List aD}{x:ch}(h:0≤(dE x).af)(aq:fL acc (dE x)=D):fh acc x=acc++[dE x]:=by
 unfold fh;rw[aY h,aq];rfl
theorem xu{acc:List aD}{x:ch}(h:(dE x).af<0):fh acc x=acc:=by
 unfold fh;rw[a1 (by omega)];rfl
theorem xv{acc:List aD}{x:ch}(aq:fL acc (dE x)=K):fh acc x=acc:=by
 unfold fh;rw[aq,Bool.not_true,Bool.and_false];rfl
theorem xw(bd:List ch):(eJ bd).length≤bd.length:=by
 have:∀(l:List ch)(acc:List aD),(l.foldl fh acc).length≤acc.length+l.length:=by intro l;induction l with|nil=>intro acc;simp|cons x l a=>intro acc;rw[e2,cT];have h1:=a (fh acc x);(have h2:(fh acc x).length≤acc.length+1:=by unfold fh;split<;>simp);omega
 have:=this bd [];simpa[eJ]using this
theorem xx{bd:List ch}{s:aD}(h:s∈eJ bd):∃x,x∈bd∧s=dE x:=by
 have:∀(l:List ch)(acc:List aD),s∈l.foldl fh acc→s∈acc∨∃x,x∈l∧s=dE x:=by intro l;induction l with|nil=>intro acc h;exact .inl h|cons x l b=>intro acc h;rw[e2]at h;rcases b _ h with h|⟨y,a,e⟩;(·unfold fh at h;split at h;(·rcases cc.1 h with h|h;(·exact .inl h);·exact .inr ⟨x,by simp,by simpa using h⟩);·exact .inl h);·exact .inr ⟨y,List.mem_cons_of_mem _ a,e⟩
 rcases this bd [] h with h|h;·simp at h
 ·exact h
theorem xy(p:Int)(l:List b0):cU (fv p l)=decide (0≤(fv p l).af):=by
 by_cases h:0≤p∧l.all gG=K;·rw[p6 h.1 h.2,lx h.1 h.2];exact(aY h.1).symm
 ·(have:fv p l=⟨-1,[]⟩:=by unfold fv;rw[if_neg];simp only[gF,decide_eq_true_eq];exact h);rw[this];rfl
def idxFrom{α:Type}(f:α→Bool):Nat→List α→List Int|_,[]=>[]|k,a::l=>if f a=K then(k:Int)::idxFrom f (k+1) l else idxFrom f (k+1) l
def idx{α:Type}(f:α→Bool)(l:List α):List Int:=idxFrom f 0 l
section
variable{α:Type}{f:α→Bool}
theorem se(a:α)(l:List α)(k:Nat):idxFrom f k (a::l)=if f a=K then(k:Int)::idxFrom f (k+1) l else idxFrom f (k+1) l:=rfl
theorem sf:∀(l m:List α)(k:Nat),idxFrom f k (l++m)=idxFrom f k l++idxFrom f (k+l.length) m|[],m,k=>by simp[idxFrom]|a::l,m,k=>by have e:=sf l m (k+1);(have b:k+(a::l).length=k+1+l.length:=by simp;omega);rw[b,List.cons_append,se,se,e];split;(·rfl);·rfl
theorem xz(l:List α)(a:α):idx f (l++[a])=idx f l++(if f a=K then[(l.length:Int)]else[]):=by
 unfold idx;rw[sf,Nat.zero_add];congr 1
theorem sg{l:List α}{i:Nat}{a:α}(h:l[i]?=O a):idx f (l.take (i+1))=idx f (l.take i)++(if f a=K then[(i:Int)]else[]):=by
 have aj:i<l.length:=(e8.1 h).1;rw[List.take_add_one,h];have:=xz (f:=f) (l.take i) a;rw[dr,Nat.min_eq_left (by omega)]at this;exact this
theorem xA{l:List α}{i:Nat}{a:α}(h:l[i]?=O a)(b:f a=K):idx f (l.take (i+1))=idx f (l.take i)++[(i:Int)]:=by
 rw[sg h,if_pos b]
theorem xB{l:List α}{i:Nat}{a:α}(h:l[i]?=O a)(b:f a=D):idx f (l.take (i+1))=idx f (l.take i):=by
 rw[sg h,if_neg (by simp[b]),List.append_nil]
theorem sh:∀(l:List α)(k:Nat),∀x∈idxFrom f k l,(k:Int)≤x∧x<(k:Int)+(l.length:Int)|[],k=>by simp[idxFrom]|a::l,k=>by intro x b;have e:=sh l (k+1);unfold idxFrom at b;(have c:((a::l).length:Int)=(l.length:Int)+1:=by simp);rw[c];split at b;(·rcases dz.1 b with rfl|b;(·omega);·have:=e x b;omega);·have:=e x b;omega
theorem xC(l:List α):∀x∈idx f l,0≤x∧x<(l.length:Int):=by
 intro x a;have:=sh (f:=f) l 0 x a;omega
theorem si:∀(l:List α)(k:Nat),(idxFrom f k l).length≤l.length|[],_=>by simp[idxFrom]|a::l,k=>by have e:=si l (k+1);unfold idxFrom;split<;>simp<;>omega
theorem sj(l:List α):(idx f l).length≤l.length:=si l 0
end
def newAt(ao:List aD)(j:Nat):Bool:=match ao[j]? with|some s=>cU s&&!fL (ao.take j) s|none=>K
def im(ao:List aD):Bool:=(List.range ao.length).all (newAt ao)
theorem sk{ao:List aD}{j:Nat}{s:aD}(h:ao[j]?=O s):newAt ao j=(cU s&&!fL (ao.take j) s):=by
 unfold newAt;rw[h]
theorem nc(ao:List aD):im ao=K↔∀(j:Nat)(s:aD),ao[j]?=O s→cU s=K∧fL (ao.take j) s=D:=by
 unfold im;rw[List.all_eq_true];constructor;·intro h j s aq;have a:j<ao.length:=(e8.1 aq).1;have:=h j (List.mem_range.2 a);rw[sk aq]at this;simpa using this
 ·intro h j a;have b:=List.mem_range.1 a;have aq:ao[j]?=O (ao[j]'b):=cr b;rw[sk aq];have:=h j _ aq;simp[this.1,this.2]
theorem xD{ao:List aD}{i:Nat}{s:aD}(aq:ao[i]?=O s)(h:cU s=D):im ao=D:=by
 rw[Bool.eq_false_iff];intro e;have:=((nc ao).1 e i s aq).1;rw[h]at this;cases this
theorem xE{ao:List aD}{i:Nat}{s:aD}(aq:ao[i]?=O s)(h:fL (ao.take i) s=K):im ao=D:=by
 rw[Bool.eq_false_iff];intro e;have:=((nc ao).1 e i s aq).2;rw[h]at this;cases this
def kr(ao:List aD)(i:Nat):Prop:=∀(j:Nat)(s:aD),j<i→ao[j]?=O s→cU s=K∧fL (ao.take j) s=D
theorem kr.start(ao:List aD):kr ao 0:=fun j s h=>by
 omega
theorem kr.round{ao:List aD}{i:Nat}{s:aD}(h:kr ao i)(aq:ao[i]?=O s)(b:cU s=K)(a:fL (ao.take i) s=D):kr ao (i+1):=fun j t c av=>by
 by_cases e:j=i;·subst e;rw[aq]at av;obtain rfl:=ee av;exact⟨b,a⟩
 ·exact h j t (by omega) av
theorem kr.stop{ao:List aD}(h:kr ao ao.length):im ao=K:=(nc ao).2 fun j s aq=>h j s (e8.1 aq).1 aq
theorem xF{ao:List aD}{s:aD}(h:im ao=K)(d:cU s=K)(c:fL ao s=D):im (ao++[s])=K:=by
 refine(nc _).2 fun j t av=>?_;by_cases e:j<ao.length;·rw[ie e]at av;rw[List.take_append_of_le_length (by omega)];exact(nc ao).1 h j t av
 ·have b:j<(ao++[s]).length:=(e8.1 av).1;rw[ba,er]at b;(obtain rfl:j=ao.length:=by omega);(have a:(ao++[s])[ao.length]?=O s:=by simp);rw[a]at av;obtain rfl:=ee av;rw[List.take_left];exact⟨d,c⟩
theorem xG:im []=K:=rfl
end Go.Proofs.YtcmcicacdelmkaaGreatDoor.bN.Plain
namespace Go.Proofs.YtcmcicacdelmkaaGreatDoor.E
structure eK where
 h:Nat
 pos:List Nat
 neg:List Nat
def hL(a:Nat)(l:List Nat):Nat:=l.foldl max a
theorem sl(l:List Nat):∀a,hL a l=a∨∃x∈l,hL a l=x:=by
 induction l with|nil=>intro a;exact .inl rfl|cons x l d=>intro a;rcases d (max a x)with h|⟨y,c,h⟩;(·simp only[hL,e2]at h⊢;rcases Nat.le_total a x with b|b;(·exact .inr ⟨x,by simp,by rw[h,Nat.max_eq_right b]⟩);·exact .inl (by rw[h,Nat.max_eq_left b]));·exact .inr ⟨y,by simp[c],h⟩
def gH(lv:List Nat)(r:eK):Nat:=hL (hL (lv.getD r.h 0) (r.pos.map fun q=>lv.getD q 0)) (r.neg.map fun q=>lv.getD q 0+1)
def pass(n:Nat):List eK→List Nat→Option (List Nat×Bool)|[],lv=>O (lv,D)|r::rs,lv=>if n<gH lv r then Z else if lv.getD r.h 0<gH lv r then(pass n rs (lv.set r.h (gH lv r))).map fun x=>(x.1,K)else pass n rs lv
inductive jr(rs:List eK):Nat→List Nat→Prop|nil(p:Nat):jr rs p []|pos(r:eK)(q:Nat)(l:List Nat):r∈rs→q∈r.pos→jr rs q l→jr rs r.h l|neg(r:eK)(q:Nat)(l:List Nat):r∈rs→q∈r.neg→jr rs q l→jr rs r.h (r.h::l)
inductive mf(rs:List eK):Nat→Nat→Prop|refl(p:Nat):mf rs p p|step(r:eK)(q x:Nat):r∈rs→q∈r.pos∨q∈r.neg→mf rs q x→mf rs r.h x
def js(rs:List eK):Prop:=∀r∈rs,∀q∈r.neg,¬mf rs q r.h
theorem xH{rs:List eK}{p:Nat}{l:List Nat}(h:jr rs p l):∀x∈l,mf rs p x:=by
 induction h with|nil p=>intro x a;simp at a|pos r q l c b _ d=>intro x a;exact .step r q x c (.inl b) (d x a)|neg r q l c b _ d=>intro x a;rcases dz.1 a with rfl|a;(·exact .refl _);·exact .step r q x c (.inr b) (d x a)
theorem xI{rs:List eK}(d:js rs){p:Nat}{l:List Nat}(h:jr rs p l):l.Nodup:=by
 induction h with|nil p=>exact List.nodup_nil|pos r q l c b _ a=>exact a|neg r q l c b hu a=>exact List.nodup_cons.2 ⟨fun e=>d r c q b (xH hu _ e),a⟩
theorem xJ{rs:List eK}{n:Nat}(d:∀r∈rs,r.h<n){p:Nat}{l:List Nat}(h:jr rs p l):∀x∈l,x<n:=by
 induction h with|nil p=>intro x a;simp at a|pos r q l c e _ b=>exact b|neg r q l c e _ b=>intro x a;rcases dz.1 a with rfl|a;(·exact d r c);·exact b x a
theorem sn:∀(n:Nat)(l:List Nat),l.Nodup→(∀x∈l,x<n)→l.length≤n|0,l,_,h=>by(cases l with|nil=>simp|cons x l=>have:=h x (by simp);omega)|n+1,l,ar,h=>by have h1:=sn n (l.erase n) (ar.erase n) (fun x c=>by have b:=(ar.mem_erase_iff).1 c;have:=h x b.2;have:=b.1;omega);have:=List.length_erase_le (a:=n) (l:=l);(have h3:l.length≤(l.erase n).length+1:=by rw[List.length_erase];split<;>omega);omega
theorem oA{rs:List eK}(a:js rs){n:Nat}(b:∀r∈rs,r.h<n){p:Nat}{l:List Nat}(h:jr rs p l):l.length≤n:=sn n l (xI a h) (xJ b h)
def Inv(rs:List eK)(lv:List Nat):Prop:=∀p,∃l,jr rs p l∧l.length=lv.getD p 0
theorem p8{rs:List eK}{lv:List Nat}(aj:Inv rs lv){r:eK}(c:r∈rs):∃l,jr rs r.h l∧l.length=gH lv r:=by
 unfold gH;rcases sl (r.neg.map fun q=>lv.getD q 0+1) (hL (lv.getD r.h 0) (r.pos.map fun q=>lv.getD q 0))with h|⟨x,b,h⟩;·rw[h];rcases sl (r.pos.map fun q=>lv.getD q 0) (lv.getD r.h 0)with h|⟨x,b,h⟩;(·rw[h];exact aj _);·rw[h];obtain⟨q,a,rfl⟩:=cK.1 b;obtain⟨l,h1,h2⟩:=aj q;exact⟨l,.pos r q l c a h1,h2⟩
 ·rw[h];obtain⟨q,a,rfl⟩:=cK.1 b;obtain⟨l,h1,h2⟩:=aj q;exact⟨r.h::l,.neg r q l c a h1,by simp[h2]⟩
theorem so{rs:List eK}{lv:List Nat}(aj:Inv rs lv){r:eK}(c:r∈rs):Inv rs (lv.set r.h (gH lv r)):=by
 intro p;by_cases e:p=r.h∧r.h<lv.length;·obtain⟨rfl,b⟩:=e;obtain⟨l,h1,h2⟩:=p8 aj c;exact⟨l,h1,by rw[h2];simp[List.getD_eq_getElem?_getD,b]⟩
 ·obtain⟨l,h1,h2⟩:=aj p;refine⟨l,h1,?_⟩;rw[h2];simp only[List.getD_eq_getElem?_getD];by_cases a:p=r.h;(·subst a;have:¬r.h<lv.length:=fun h=>e ⟨rfl,h⟩;rw[List.getElem?_eq_none (by omega),List.getElem?_eq_none (by simp;omega)]);·rw[List.getElem?_set_ne (Ne.symm a)]
theorem inv_zero(rs:List eK)(n:Nat):Inv rs (List.replicate n 0):=fun p=>⟨[],.nil p,by simp only[List.getD_eq_getElem?_getD,List.getElem?_replicate];split<;>rfl⟩
theorem xK{all:List eK}(s:js all){n:Nat}(k:∀r∈all,r.h<n):∀(rs:List eK),(∀r∈rs,r∈all)→∀(lv:List Nat),lv.length=n→Inv all lv→∃a b,pass n rs lv=O (a,b)∧a.length=n∧Inv all a∧(b=D→a=lv)∧(b=K→lv.sum<a.sum)∧lv.sum≤a.sum:=by
 intro rs;induction rs with|nil=>intro _ lv c aj;exact⟨lv,D,rfl,c,aj,fun _=>rfl,(fun h=>by cases h),aG _⟩|cons r rs m=>intro i lv c aj;have g:=i r (by simp);obtain⟨l,h1,h2⟩:=p8 aj g;(have t:¬n<gH lv r:=by have:=oA s k h1;omega);unfold pass;rw[if_neg t];by_cases f:lv.getD r.h 0<gH lv r;(·rw[if_pos f];obtain⟨a,b,e,u,v,_,_,y⟩:=m (fun x j=>i x (by simp[j])) (lv.set r.h (gH lv r)) (by simpa using c) (so aj g);(have d:r.h<lv.length:=by rw[c];exact k r g);(have w:lv.sum<(lv.set r.h (gH lv r)).sum:=by rw[List.getD_eq_getElem?_getD,cr d,Option.getD_some]at f;(have p:lv.set r.h (gH lv r)=lv.take r.h++gH lv r::lv.drop (r.h+1):=List.set_eq_take_append_cons_drop▸by rw[if_pos d]);(have q:lv=lv.take r.h++lv[r.h]::lv.drop (r.h+1):=by rw[←kp d,List.take_append_drop]);rw[p];(conv=>lhs;rw[q]);simp only[List.sum_append,List.sum_cons];omega);exact⟨a,K,by rw[e];rfl,u,v,fun h=>(by cases h),fun _=>by omega,by omega⟩);·rw[if_neg f];exact m (fun x j=>i x (by simp[j])) lv c aj
theorem xL{lv:List Nat}{n:Nat}(h:∀x∈lv,x≤n):lv.sum≤lv.length*n:=by
 induction lv with|nil=>simp|cons x l b=>have h1:=b (fun y a=>h y (by simp[a]));have h2:=h x (by simp);simp only[List.sum_cons,cT,Nat.add_mul,Nat.one_mul];omega
theorem sq{rs:List eK}(a:js rs){n:Nat}(b:∀r∈rs,r.h<n){lv:List Nat}(d:lv.length=n)(aj:Inv rs lv):lv.sum≤n*n:=by
 have:=xL (lv:=lv) (n:=n) (fun x e=>by obtain⟨i,c,rfl⟩:=List.getElem_of_mem e;obtain⟨l,h1,h2⟩:=aj i;rw[List.getD_eq_getElem?_getD,cr c,Option.getD_some]at h2;have:=oA a b h1;omega);rw[d]at this;exact this
inductive Reach{α:Type}(E:α→α→Prop):α→α→Prop|refl(a:α):Reach E a a|step(a b c:α):E a b→Reach E b c→Reach E a c
theorem xM{α:Type}{E:α→α→Prop}{S:List α}(ak:∀x∈S,∀y,E x y→y∈S){a b:α}(h:Reach E a b):a∈S→b∈S:=by
 induction h with|refl a=>exact fun h=>h|step a b c d _ e=>exact fun h=>e (ak a h b d)
def cellAt(c:List Int)(i:Nat):Int:=c[i]?.getD 0
def Cells(aE:Nat)(c:List Int):Prop:=∀i,i<c.length→(0≤cellAt c i∧cellAt c i<(aE:Int))∨∃j:Nat,j≤i∧cellAt c i=-1-(j:Int)∧cellAt c j=cellAt c i
def asks(c row:List Int)(i:Nat):Prop:=cellAt row i=if cellAt c i<0 then cellAt row (-1-cellAt c i).toNat else cellAt c i
def tell(aE:Nat)(r:Int)(x:Int):Int:=if 0≤x then x else if x=r then(aE:Int)+1 else(aE:Int)
def row(aE:Nat)(r:Int)(b:List Int):List Int:=b.map (tell aE r)
theorem mg{aE:Nat}{r:Int}{b:List Int}{i:Nat}(h:i<b.length):cellAt (row aE r b) i=tell aE r (cellAt b i):=by
 simp[cellAt,row,List.getElem?_map,cr h]
theorem xN{aE:Nat}{r x:Int}(a:x<(aE:Int)):0≤tell aE r x∧tell aE r x<(aE:Int)+2:=by
 unfold tell;split;·omega
 ·split<;>omega
theorem xO{aE:Nat}{r:Int}{b:List Int}(ae:Cells aE b):∀i,i<b.length→asks b (row aE r b) i:=by
 intro i aj;unfold asks;rcases ae i aj with⟨h0,_⟩|⟨j,a,h1,h2⟩;·rw[if_neg (by omega),mg aj,tell,if_pos h0]
 ·rw[if_pos (by omega),mg aj,h1,show(-1-(-1-(j:Int))).toNat=j by omega,mg (by omega),h2,h1]
theorem xP{aE:Nat}{r:Int}{b:List Int}(ae:Cells aE b):∀x∈row aE r b,0≤x∧x<(aE:Int)+2:=by
 intro x c;obtain⟨y,d,rfl⟩:=cK.1 c;obtain⟨i,aj,rfl⟩:=List.getElem_of_mem d;have a:cellAt b i=b[i]:=by simp[cellAt,cr aj]
 refine xN ?_;rcases ae i aj with⟨_,h⟩|⟨j,_,h,_⟩<;>rw[a]at h<;>omega
theorem xQ{aE:Nat}{a b:List Int}(p:a.length=b.length)(g:Cells aE a)(ae:Cells aE b){i:Nat}(aj:i<a.length)(c:cellAt b i≠if cellAt a i<0 then cellAt b (-1-cellAt a i).toNat else cellAt a i):¬asks a (row aE (cellAt b i) b) i:=by
 unfold asks;have d:i<b.length:=by omega
 rcases g i aj with⟨h0,h1⟩|⟨j,n,h1,h2⟩;·rw[if_neg (by omega)]at c⊢;rw[mg d,tell];split;(·exact c);·rw[if_pos rfl];omega
 ·(have e:(-1-(-1-(j:Int))).toNat=j:=by omega);rw[h1,if_pos (by omega),e]at c⊢;(have f:j<b.length:=by omega);rw[mg d,mg f];rcases ae j f with⟨h,l⟩|⟨k,_,l,_⟩;(·unfold tell;rw[if_pos h];split;(·exact c);·rw[if_pos rfl];omega);·unfold tell;rw[if_neg (show¬0≤cellAt b j by omega),if_neg (Ne.symm c)];split;(·rcases ae i d with⟨_,m1⟩|⟨m,_,m1,_⟩<;>omega);·rw[if_pos rfl];omega
def ks{α:Type}(cs:List α):Nat→List (List α)|0=>[[]]|n+1=>cs.flatMap fun c=>(ks cs n).map (c::·)
theorem p9{α:Type}(cs:List α):∀n,(ks cs n).length=cs.length^n|0=>by simp[ks]|n+1=>by(have h:∀l:List α,(l.flatMap fun c=>(ks cs n).map (c::·)).length=l.length*cs.length^n:=by intro l;induction l with|nil=>simp|cons x l a=>simp only[ff,ba,a,dW,p9 cs n,cT,Nat.add_mul,Nat.one_mul];omega);show(cs.flatMap fun c=>(ks cs n).map (c::·)).length=_;rw[h,Nat.pow_succ,Nat.mul_comm]
theorem p'{α:Type}{cs:List α}:∀{l:List α},(∀x∈l,x∈cs)→l∈ks cs l.length|[],_=>by simp[ks]|x::l,h=>by simp only[cT,ks,fT,cK];exact⟨x,h x (by simp),l,p' (fun y a=>h y (by simp[a])),rfl⟩
theorem nd{α:Type}[DecidableEq α]:∀(l L:List α),l.Nodup→(∀x∈l,x∈L)→l.length≤L.length|[],_,_,_=>by simp|x::l,L,ar,aq=>by have a:=aq x (by simp);have h1:=nd l (L.erase x) (List.nodup_cons.1 ar).2 (fun y b=>by have c:y≠x:=fun e=>(List.nodup_cons.1 ar).1 (by rw[←e];exact b);exact(List.mem_erase_of_ne c).2 (aq y (by simp[b])));have h2:(L.erase x).length=L.length-1:=List.length_erase_of_mem a;have h3:0<L.length:=List.length_pos_of_mem a;simp only[cT];omega
theorem xR{α:Type}[DecidableEq α]{cs:List α}{n:Nat}{ls:List (List α)}(ar:ls.Nodup)(h:∀l∈ls,l.length=n∧∀x∈l,x∈cs):ls.length≤cs.length^n:=by
 rw[←p9];refine nd ls _ ar (fun l a=>?_);obtain⟨h1,h2⟩:=h l a;rw[←h1];exact p' h2
end Go.Proofs.YtcmcicacdelmkaaGreatDoor.E
namespace Go.Proofs.YtcmcicacdelmkaaGreatDoor.E
variable{C:Type}
abbrev Arg(C:Type):=Nat⊕C
def put[DecidableEq C](n:List (Option C))(z:Arg C×C):Option (List (Option C)):=match z.1 with|.inr c=>if c=z.2 then O n else Z|.inl v=>match n[v]? with|some Z=>O (n.set v (O z.2))|some (O x)=>if x=z.2 then O n else Z|none=>Z
def gI[DecidableEq C]:List (Option C)→List (Arg C×C)→Option (List (Option C))|n,[]=>O n|n,z::cj=>(put n z).bind fun a=>gI a cj
def inst(n:List (Option C)):Arg C→Option C|.inl v=>(n[v]?).join|.inr c=>O c
def Ext(n m:List (Option C)):Prop:=m.length=n.length∧∀(v:Nat)(x:C),n[v]?=O (O x)→m[v]?=O (O x)
theorem Ext.refl(n:List (Option C)):Ext n n:=⟨rfl,fun _ _ h=>h⟩
theorem Ext.trans{a b c:List (Option C)}(h:Ext a b)(k:Ext b c):Ext a c:=⟨k.1.trans h.1,fun v x e=>k.2 v x (h.2 v x e)⟩
theorem Ext.inst{n m:List (Option C)}(h:Ext n m){a:Arg C}{c:C}(e:inst n a=O c):Go.Proofs.YtcmcicacdelmkaaGreatDoor.E.inst m a=O c:=by
 cases a with|inr x=>exact e|inl v=>simp only[Go.Proofs.YtcmcicacdelmkaaGreatDoor.E.inst]at e⊢;(have h1:n[v]?=O (O c):=by cases b:n[v]? with|none=>rw[b]at e;cases e|some y=>rw[b]at e;simp at e;rw[e]);rw[h.2 v c h1];rfl
theorem xS[DecidableEq C]{n m:List (Option C)}{z:Arg C×C}(h:put n z=O m):Ext n m∧inst m z.1=O z.2:=by
 obtain⟨a,c⟩:=z;cases a with|inr x=>simp only[put]at h;split at h;(·rename_i e;simp only[e9]at h;subst h;exact⟨Ext.refl _,by simp[inst,e]⟩);(·cases h)|inl v=>simp only[put]at h;cases b:n[v]? with|none=>rw[b]at h;cases h|some y=>rw[b]at h;have f:=(e8.1 b).1;cases y with|none=>simp only[e9]at h;subst h;refine⟨⟨by simp,fun w x d=>?_⟩,by simp[inst,f]⟩;(have g:v≠w:=fun e=>by subst e;rw[b]at d;cases d);rw[List.getElem?_set_ne g];exact d|some x=>simp only at h;split at h;(·rename_i e;simp only[e9]at h;subst h;exact⟨Ext.refl _,by simp[inst,b,e]⟩);·cases h
theorem nf[DecidableEq C]:∀{cj:List (Arg C×C)}{n m:List (Option C)},gI n cj=O m→Ext n m∧∀z∈cj,inst m z.1=O z.2|[],n,m,h=>by simp only[gI,e9]at h;subst h;exact⟨Ext.refl _,fun z b=>by simp at b⟩|z::cj,n,m,h=>by simp only[gI]at h;cases hp:put n z with|none=>rw[hp]at h;cases h|some c=>rw[hp]at h;obtain⟨h1,h2⟩:=xS hp;obtain⟨h3,h4⟩:=nf h;refine⟨h1.trans h3,fun x a=>?_⟩;rcases dz.1 a with rfl|a;(·exact h3.inst h2);·exact h4 x a
theorem xT[DecidableEq C]{az:List (Arg C)}{f g:List C}{n d m:List (Option C)}(e:f.length=az.length)(j:g.length=az.length)(h:gI n (az.zip f)=O m)(k:gI d (az.zip g)=O m):f=g:=by
 have h1:=(nf h).2;have c:=(nf k).2;apply List.ext_getElem (by omega);intro i aj l;have p:i<az.length:=by omega
 have b:=h1 (az[i],f[i]) (by rw[List.mem_iff_getElem];exact⟨i,by simp;omega,by simp⟩);have a:=c (az[i],g[i]) (by rw[List.mem_iff_getElem];exact⟨i,by simp;omega,by simp⟩);rw[b]at a;simpa using a
theorem xU[DecidableEq C]{cj:List (Arg C×C)}{n m:List (Option C)}(h:gI n cj=O m){v:Nat}(b:∃c,(.inl v,c)∈cj):∃c,m[v]?=O (O c):=by
 obtain⟨c,ak⟩:=b;have:=(nf h).2 _ ak;simp only[inst]at this;cases a:m[v]? with|none=>rw[a]at this;cases this|some y=>rw[a]at this;simp at this;exact⟨c,by rw[this]⟩
end Go.Proofs.YtcmcicacdelmkaaGreatDoor.E
namespace Go.Proofs.YtcmcicacdelmkaaGreatDoor.E
variable{C:Type}
def start(s:List C)(w:Nat):List (Option C):=s.map O++List.replicate (w-s.length) Z
def ej(m:List (Option C)):List C:=m.filterMap id
def taken[DecidableEq C](s:List C)(az:List (Arg C))(f:List C)(w:Nat):Option (List C):=(gI (start s w) (az.zip f)).map ej
theorem xV(l:List C):ej (l.map O)=l:=by
 induction l with|nil=>rfl|cons x l a=>simp[ej]at a⊢
theorem sr:∀(m:List (Option C)),(∀v,v<m.length→∃c,m[v]?=O (O c))→m=(ej m).map O|[],_=>rfl|x::m,h=>by obtain⟨c,ak⟩:=h 0 (by simp);simp only[gq,e9]at ak;have a:=sr m (fun v b=>by obtain⟨d,ar⟩:=h (v+1) (by simp;omega);exact⟨d,by simpa using ar⟩);subst ak;(have e:ej (O c::m)=c::ej m:=by simp[ej]);rw[e,fg,←a]
theorem ss[DecidableEq C]{n m:List (Option C)}{z:Arg C×C}(h:put n z=O m){v:Nat}{x:C}(b:m[v]?=O (O x)):n[v]?=O (O x)∨x=z.2:=by
 obtain⟨a,c⟩:=z;cases a with|inr y=>simp only[put]at h;split at h;(·simp only[e9]at h;subst h;exact .inl b);(·cases h)|inl w=>simp only[put]at h;cases d:n[w]? with|none=>rw[d]at h;cases h|some y=>rw[d]at h;cases y with|none=>simp only[e9]at h;subst h;by_cases e:w=v;(·subst e;rw[List.getElem?_set_self (e8.1 d).1]at b;simp at b;exact .inr b.symm);(·rw[List.getElem?_set_ne e]at b;exact .inl b)|some y=>simp only at h;split at h;(·simp only[e9]at h;subst h;exact .inl b);·cases h
theorem su[DecidableEq C]:∀{cj:List (Arg C×C)}{n m:List (Option C)},gI n cj=O m→∀{v:Nat}{x:C},m[v]?=O (O x)→n[v]?=O (O x)∨∃z∈cj,x=z.2|[],n,m,h,v,x,a=>by simp only[gI,e9]at h;subst h;exact .inl a|z::cj,n,m,h,v,x,a=>by simp only[gI]at h;cases hp:put n z with|none=>rw[hp]at h;cases h|some c=>rw[hp]at h;rcases su h a with h1|⟨y,b,e⟩;(·rcases ss hp h1 with h2|h2;(·exact .inl h2);·exact .inr ⟨z,by simp,h2⟩);·exact .inr ⟨y,by simp[b],e⟩
theorem xW(s:List C){w:Nat}(h:s.length≤w):(start s w).length=w:=by
 simp[start];omega
theorem qa(s:List C)(w:Nat){v:Nat}(h:v<s.length):(start s w)[v]?=O (O s[v]):=by
 rw[start,ie (by simpa using h)];simp[h]
theorem sv(s:List C)(w:Nat){v:Nat}{x:C}(h:(start s w)[v]?=O (O x)):x∈s:=by
 by_cases a:v<s.length;·rw[qa s w a]at h;simp at h;rw[←h];exact cb a
 ·rw[start,jU (by simp;omega),List.getElem?_replicate]at h;split at h<;>simp at h
theorem oB[DecidableEq C]{s:List C}{az:List (Arg C)}{f t:List C}{w:Nat}(h:taken s az f w=O t)(aq:s.length≤w)(r:f.length=az.length)(l:∀v,s.length≤v→v<w→.inl v∈az):t.length=w∧t.take s.length=s∧(∀x∈t,x∈s∨x∈f)∧gI (start s w) (az.zip f)=O (t.map O):=by
 unfold taken at h;cases hp:gI (start s w) (az.zip f)with|none=>rw[hp]at h;cases h|some m=>rw[hp]at h;simp only[Option.map_some,e9]at h;obtain⟨b,u⟩:=nf hp;(have y:m.length=w:=by rw[b.1,xW s aq]);(have g:∀v,v<m.length→∃c,m[v]?=O (O c):=by intro v B;by_cases n:v<s.length;(·exact⟨_,b.2 v _ (qa s w n)⟩);·obtain⟨i,aj,e⟩:=List.getElem_of_mem (l v (by omega) (by omega));refine xU hp ⟨f[i]'(by omega),?_⟩;rw[List.mem_iff_getElem];exact⟨i,by simp;omega,by simp[e]⟩);have a:=sr m g;rw[h]at a;(have k:t.length=w:=by have:=congrArg List.length a;simp at this;omega);refine⟨k,?_,?_,by rw[a]⟩;(·apply List.ext_getElem (by simp;omega);intro i h1 h2;have:=b.2 i _ (qa s w h2);rw[a]at this;simp at this;rw[List.getElem_take];exact(e8.1 this).2);·intro x p;obtain⟨i,aj,e⟩:=List.getElem_of_mem p;(have j:m[i]?=O (O x):=by rw[a];simp[aj,e]);rcases su hp j with h1|⟨z,q,d⟩;(·exact .inl (sv s w h1));·exact .inr (by rw[d];exact(List.of_mem_zip q).2)
theorem sw[DecidableEq C]{s b:List C}{az:List (Arg C)}{f a t:List C}{w:Nat}(h:taken s az f w=O t)(k:taken b az a w=O t)(aq:s.length≤w)(e:b.length=s.length)(c:f.length=az.length)(d:a.length=az.length)(g:∀v,s.length≤v→v<w→.inl v∈az):s=b∧f=a:=by
 obtain⟨_,h2,_,h4⟩:=oB h aq c g;obtain⟨_,i,_,j⟩:=oB k (by omega) d (by rw[e];exact g);exact⟨by rw[←h2,←i,e],xT c d h4 j⟩
def next[DecidableEq C](subs:List (List C))(az:List (Arg C))(rows:List (List C))(w:Nat):List (List C):=subs.flatMap fun s=>rows.filterMap fun f=>if f.length=az.length then taken s az f w else Z
theorem xX[DecidableEq C]{subs rows:List (List C)}{az:List (Arg C)}{b w:Nat}{cs:List C}(ar:subs.Nodup)(a:∀s∈subs,s.length=b∧∀x∈s,x∈cs)(z:rows.Nodup)(B:∀f∈rows,∀x∈f,x∈cs)(j:b≤w)(n:∀v,b≤v→v<w→.inl v∈az):(next subs az rows w).Nodup∧∀t∈next subs az rows w,t.length=w∧∀x∈t,x∈cs:=by
 have d:∀s∈subs,∀f∈rows,∀t,(if f.length=az.length then taken s az f w else Z)=O t→f.length=az.length∧taken s az f w=O t:=by intro s _ f _ t h;split at h;(·exact⟨by assumption,h⟩);·cases h
 refine⟨?_,fun t av=>?_⟩;·unfold next List.Nodup;rw[List.pairwise_flatMap];refine⟨fun s aq=>?_,?_⟩;(·rw[List.pairwise_filterMap];refine List.Pairwise.imp_of_mem (fun{f g}c k l t av r m e=>?_) z;obtain⟨i,t1⟩:=d s aq f c t av;obtain⟨q,t2⟩:=d s aq g k r m;subst e;exact l (sw t1 t2 (by rw[(a s aq).1];exact j) rfl i q (by rw[(a s aq).1];exact n)).2);·refine List.Pairwise.imp_of_mem (fun{s y}aq u l t av r m e=>?_) ar;obtain⟨f,c,h1⟩:=List.mem_filterMap.1 av;obtain⟨g,k,h2⟩:=List.mem_filterMap.1 m;obtain⟨i,t1⟩:=d s aq f c t h1;obtain⟨q,t2⟩:=d y u g k r h2;subst e;exact l (sw t1 t2 (by rw[(a s aq).1];exact j) (by rw[(a s aq).1,(a y u).1]) i q (by rw[(a s aq).1];exact n)).1
 ·obtain⟨s,aq,p⟩:=fT.1 av;obtain⟨f,c,h1⟩:=List.mem_filterMap.1 p;obtain⟨i,t1⟩:=d s aq f c t h1;obtain⟨aX,_,a3,_⟩:=oB t1 (by rw[(a s aq).1];exact j) i (by rw[(a s aq).1];exact n);refine⟨aX,fun x p=>?_⟩;rcases a3 x p with h|h;(·exact(a s aq).2 x h);·exact B f c x h
end Go.Proofs.YtcmcicacdelmkaaGreatDoor.E
namespace Go.Proofs.YtcmcicacdelmkaaGreatDoor.E
variable{S:Type}
def ez[DecidableEq S](vs:List S)(x:S):List S:=if x∈vs then vs else vs++[x]
def dN[DecidableEq S](vs:List S)(l:List S):List S:=l.foldl ez vs
theorem xY[DecidableEq S](vs:List S)(x:S):∃r,ez vs x=vs++r:=by
 unfold ez;split;·exact⟨[],by simp⟩
 ·exact⟨[x],rfl⟩
theorem ng[DecidableEq S]:∀(l vs:List S),∃r,dN vs l=vs++r|[],vs=>⟨[],by simp[dN]⟩|x::l,vs=>by obtain⟨r,h⟩:=xY vs x;obtain⟨b5,a⟩:=ng l (ez vs x);exact⟨r++b5,by show dN (ez vs x) l=_;rw[a,h,fH]⟩
theorem ht[DecidableEq S]{vs:List S}{x y:S}:y∈ez vs x↔y∈vs∨y=x:=by
 unfold ez;split;·rename_i h;constructor;(·exact fun h=>.inl h);·rintro(h2|rfl);(·exact h2);·exact h
 ·simp
theorem ly[DecidableEq S]:∀{l vs:List S}{y:S},y∈dN vs l↔y∈vs∨y∈l|[],_,y=>by simp[dN]|x::l,vs,y=>by show y∈dN (ez vs x) l↔_;rw[ly,ht];simp[or_assoc]
theorem mh[DecidableEq S]{vs:List S}(h:vs.Nodup)(x:S):(ez vs x).Nodup:=by
 unfold ez;split;·exact h
 ·rw[List.nodup_append];refine⟨h,by simp,fun a c b ae=>?_⟩;simp at ae;subst ae;intro e;subst e;contradiction
theorem oC[DecidableEq S]:∀{l vs:List S},vs.Nodup→(dN vs l).Nodup|[],_,h=>h|x::l,vs,h=>oC (l:=l) (mh h x)
theorem sx[DecidableEq S]{l vs:List S}(ar:vs.Nodup){v:Nat}(h1:vs.length≤v)(h2:v<(dN vs l).length):(dN vs l)[v]∈l:=by
 have a:=(ly (l:=l) (vs:=vs)).1 (cb h2);rcases a with a|a;·exfalso;obtain⟨r,c⟩:=ng l vs;obtain⟨i,aj,e⟩:=List.getElem_of_mem a;have f:=oC (l:=l) ar;(have b:i<(dN vs l).length:=by rw[c];simp;omega);(have d:(dN vs l)[i]=vs[i]:=by(have:(dN vs l)[i]?=vs[i]?:=by rw[c,ie aj]);rw[cr b,cr aj]at this;exact ee this);have g:=List.pairwise_iff_getElem.1 f i v b h2 (by omega);exact g (d.trans e)
 ·exact a
end Go.Proofs.YtcmcicacdelmkaaGreatDoor.E
namespace Go.Proofs.YtcmcicacdelmkaaGreatDoor.E
open Go.Proofs.YtcmcicacdelmkaaGreatDoor.bN.Plain
def gu(size:Nat)(l:List b0)(args:List Int)(i:Nat):List Int:=(List.range size).map fun(n:Nat)=>if dI l (n:Int)<i then at' args (dI l (n:Int))else-1
theorem nh(size:Nat)(l:List b0)(args:List Int)(i:Nat):(gu size l args i).length=size:=by
 simp[gu]
theorem xZ(size:Nat)(l:List b0)(args:List Int):gu size l args 0=List.replicate size (-1):=by
 unfold gu;apply List.ext_getElem (by simp);intro i h1 h2;simp
theorem qb{size:Nat}{l:List b0}{args:List Int}{i n:Nat}(h:n<size):(gu size l args i)[n]?=O (if dI l (n:Int)<i then at' args (dI l (n:Int))else-1):=by
 simp[gu,h]
theorem sy{l:List b0}{i:Nat}{a:b0}{n:Int}(h:l[i]?=O a)(b:a≠(K,n)):dI l n<i+1↔dI l n<i:=by
 have:=oy h b;omega
theorem x8{size:Nat}{l:List b0}{args:List Int}{i:Nat}{c:Int}(h:l[i]?=O (D,c)):gu size l args (i+1)=gu size l args i:=by
 unfold gu;refine List.map_congr_left (fun n _=>?_);have:=sy (n:=(n:Int)) h (by simp);by_cases e:dI l (n:Int)<i;·rw[if_pos e,if_pos (by omega)]
 ·rw[if_neg e,if_neg (by omega)]
theorem sz{size:Nat}{l:List b0}{args:List Int}{i n:Nat}(h:l[i]?=O (K,(n:Int)))(aj:gr l args i=K):gu size l args (i+1)=(gu size l args i).set n (at' args i):=by
 rw[p7 h rfl]at aj;have aj:=eq_of_beq aj;apply List.ext_getElem (by simp[nh]);intro m h1 h2;rw[nh]at h1;have a:=qb (size:=size) (l:=l) (args:=args) (i:=i+1) h1;rw[cr (by rw[nh];exact h1)]at a;have b:=qb (size:=size) (l:=l) (args:=args) (i:=i) h1;rw[cr (by rw[nh];exact h1)]at b;rw[ee a,List.getElem_set,ee b];by_cases e:n=m;·subst e;rw[if_pos rfl];have:=me h;rw[if_pos (by omega),←aj]
 ·rw[if_neg e];have:=sy (n:=(m:Int)) h (by simp;omega);by_cases c:dI l (m:Int)<i;(·rw[if_pos c,if_pos (by omega)]);·rw[if_neg c,if_neg (by omega)]
theorem x9{size:Nat}{l:List b0}{args:List Int}{i n:Nat}(d:n<size)(h:l[i]?=O (K,(n:Int)))(f:∀j,0≤at' args j){y:Int}(a:(gu size l args i)[n]?=O y):gr l args i=!(decide (0≤y)&&decide (y≠at' args i)):=by
 rw[qb d]at a;have a:=ee a;rw[p7 h rfl];by_cases e:dI l (n:Int)<i;·rw[if_pos e]at a;subst a;have:=f (dI l (n:Int));rw[aY this,Bool.true_and];by_cases b:at' args i=at' args (dI l (n:Int));(·rw[b];simp);·rw[beq_false_of_ne b,aY (Ne.symm b)];rfl
 ·rw[if_neg e]at a;subst a;have:=me h;(have c:dI l (n:Int)=i:=by omega);rw[c];simp
def jt(l:List b0)(i b2:Nat):Prop:=∀(j n:Nat),j<i→l[j]?=O (K,(n:Int))→n<b2
theorem jt.start(l:List b0)(b2:Nat):jt l 0 b2:=fun j n h=>by
 omega
theorem jt.const{l:List b0}{i b2:Nat}{c:Int}(h:jt l i b2)(aj:l[i]?=O (D,c)):jt l (i+1) b2:=fun j n b e=>by
 by_cases a:j=i;·subst a;rw[aj]at e;simp at e
 ·exact h j n (by omega) e
theorem jt.var{l:List b0}{i b2 m:Nat}(h:jt l i b2)(aj:l[i]?=O (K,(m:Int))):jt l (i+1) (max b2 (m+1)):=fun j n b e=>by
 by_cases a:j=i;·subst a;rw[aj]at e;simp at e;omega
 ·have:=h j n (by omega) e;omega
end Go.Proofs.YtcmcicacdelmkaaGreatDoor.E
namespace Go.Proofs.YtcmcicacdelmkaaGreatDoor
namespace cA
def bM(c:UInt8):Bool:=decide (48≤c.toNat)&&decide (c.toNat≤57)
def jV(c:UInt8):Bool:=(decide (65≤c.toNat)&&decide (c.toNat≤90))||decide (c.toNat=95)
def gd(c:UInt8):Bool:=decide (97≤c.toNat)&&decide (c.toNat≤122)
def aM(c:UInt8):Bool:=bM c||jV c||gd c
def gv(c:UInt8):Bool:=decide (c.toNat=32)||decide (c.toNat=9)||decide (c.toNat=10)||decide (c.toNat=13)
inductive sA where|out|line|block(d:Nat)(start:List UInt8)
def aQ:sA→List UInt8→List UInt8⊕List UInt8|.out,[]=>.inl []|.out,[a]=>if gv a then aQ .out []else if a.toNat=37 then aQ .line []else .inl [a]|.out,a::b::r=>if gv a then aQ .out (b::r)else if a.toNat=37 then aQ .line (b::r)else if a.toNat=47∧b.toNat=42 then aQ (.block 1 (a::b::r)) r else .inl (a::b::r)|.line,[]=>.inl []|.line,a::r=>if a.toNat=10 then aQ .out r else aQ .line r|.block _ st,[]=>.inr st|.block _ st,[_]=>.inr st|.block d st,a::b::r=>if a.toNat=47∧b.toNat=42 then aQ (.block (d+1) st) r else if a.toNat=42∧b.toNat=47 then(if d=1 then aQ .out r else aQ (.block (d-1) st) r)else aQ (.block d st) (b::r)
def dF(c:UInt8):Nat:=if 48≤c.toNat∧c.toNat≤57 then c.toNat-48 else if 97≤c.toNat∧c.toNat≤102 then c.toNat-97+10 else if 65≤c.toNat∧c.toNat≤70 then c.toNat-65+10 else 16
def dA:List UInt8→Option (UInt8×Nat)|_::b::r=>if b.toNat=34∨b.toNat=92 then O (b,2)else if b.toNat=110 then O (10,2)else if b.toNat=116 then O (9,2)else if b.toNat=114 then O (13,2)else if b.toNat=120 then match r with|h::l::_=>if dF h<16∧dF l<16 then O (UInt8.ofNat (dF h*16+dF l),4)else Z|_=>Z else Z|_=>Z
theorem kt{r:List UInt8}{c:UInt8}{n:Nat}(h:dA r=O (c,n)):2≤n∧n≤r.length:=by
 unfold dA at h;split at h;·rename_i b r;(repeat' split at h);all_goals first|(simp only[e9,Prod.mk.injEq]at h;obtain⟨_,rfl⟩:=h;simp)|cases h
 ·cases h
inductive oD where|quote|dA(at':List UInt8)|ju|ok(ai rest:List UInt8)
def cF(acc:List UInt8):List UInt8→oD|[]=>.quote|a::r=>if a.toNat<32 then .quote else if a.toNat=34 then .ok acc r else if a.toNat=92 then match _h:dA (a::r)with|none=>.dA (a::r)|some (c,n)=>if acc.length=255 then .ju else cF (acc++[c]) ((a::r).drop n)else if acc.length=255 then .ju else cF (acc++[a]) r termination_by l=>l.length decreasing_by
 ·have:=kt _h;rw[cl];simp;omega
 ·simp
def dY(acc:Nat):List UInt8→Nat|[]=>acc|c::r=>dY (acc*10+(c.toNat-48)) r
def gJ:List UInt8→Option Int|[]=>Z|c::r=>if c.toNat=45 then(if dY 0 r≤9223372036854775808 then O (-(dY 0 r:Int))else Z)else if dY 0 (c::r)<9223372036854775808 then O (dY 0 (c::r):Int)else Z
def cx:List (List Nat×Nat×Nat):=[([58,45],9,0),([33,61],11,2),([60,61],11,4),([62,61],11,6),([60],11,3),([62],11,5),([61],11,1),([40],5,0),([41],6,0),([44],7,0),([46],8,0)]
def pre(p:List Nat)(r:List UInt8):Bool:=decide ((r.take p.length).map (·.toNat)=p)
def eL(p:UInt8→Bool):List UInt8→Bool|c::_=>p c|[]=>D
inductive iK where|fin|fault(code:Nat)(at':List UInt8)|tok(kind op:Nat)(ai:List UInt8)(int:Int)(rest:List UInt8)
def ku(r f:List UInt8):iK:=if(f.takeWhile aM).all bM then match gJ (r.take (r.length-(f.dropWhile aM).length))with|some v=>.tok 3 0 [] v (f.dropWhile aM)|none=>.fault 13 r else .fault 13 r
def gK(r:List UInt8):iK:=if 64<(r.takeWhile aM).length then .fault 14 r else if(r.takeWhile aM).map (·.toNat)=[110,111,116]then .tok 10 0 [] 0 (r.dropWhile aM)else if eL gd r then .tok 1 0 (r.takeWhile aM) 0 (r.dropWhile aM)else .tok 2 0 (r.takeWhile aM) 0 (r.dropWhile aM)
def jW(r b:List UInt8):iK:=match cF [] b with|.quote=>.fault 11 r|.dA a=>.fault 12 a|.ju=>.fault 15 r|.ok t rest=>.tok 4 0 t 0 rest
def iL(r:List UInt8):iK:=match cx.find? (fun s=>pre s.1 r)with|some (p,kind,op)=>.tok kind op [] 0 (r.drop p.length)|none=>.fault 10 r
def next:List UInt8→iK|[]=>.fin|c::r=>if bM c then ku (c::r) (c::r)else if c.toNat=45∧eL bM r=K then ku (c::r) r else if aM c then gK (c::r)else if c.toNat=34 then jW (c::r) r else iL (c::r)
structure ax where
 kind:Nat
 ai:List UInt8
 int:Int
 op:Nat
 off:Nat
 fin:Nat
def scan:Nat→Nat→List UInt8→List ax×Nat×Nat|0,_,_=>([],0,0)|k+1,n,r=>match aQ .out r with|.inr st=>([],16,n-st.length)|.inl b5=>match next b5 with|.fin=>([⟨0,[],0,0,n,n⟩],0,0)|.fault code a=>([],code,n-a.length)|.tok kind op ai int rest=>(⟨kind,ai,int,op,n-b5.length,n-rest.length⟩::(scan k n rest).1,(scan k n rest).2)
end cA
namespace cA
def ni(p:UInt8→Bool):List UInt8→Prop|[]=>True|c::_=>p c=D
theorem oE(p:UInt8→Bool):∀r:List UInt8,r=r.takeWhile p++r.dropWhile p:=fun r=>List.takeWhile_append_dropWhile.symm
theorem sB(p:UInt8→Bool):∀r:List UInt8,(r.takeWhile p).all p=K|[]=>rfl|c::r=>by rw[List.takeWhile_cons];split;(·rename_i h;rw[List.all_cons,h,sB p r];rfl);·rfl
theorem qc(p:UInt8→Bool):∀r:List UInt8,ni p (r.dropWhile p)|[]=>trivial|c::r=>by rw[List.dropWhile_cons];split;(·exact qc p r);·rename_i h;show p c=D;simpa using h
theorem sC{r u rest:List UInt8}{c:UInt8}{n:Nat}(h:dA r=O (c,n))(g:r=u++rest)(f:n≤u.length):dA u=O (c,n):=by
 have h2:=(kt h).1;match u,f,g with|[],f,_=>simp at f;omega|[_],f,_=>simp at f;omega|[a,b],f,g=>subst g;(have e:n=2:=by simp at f;omega);subst e;revert h;unfold dA;simp only[List.cons_append,List.nil_append];(repeat' split);(all_goals simp)|[a,b,d],f,g=>subst g;(have h4:n=2:=by revert h;unfold dA;simp only[List.cons_append,List.nil_append];(repeat' split);(all_goals simp);all_goals(try(rintro _ _ rfl))<;>simp at f<;>omega);subst h4;revert h;unfold dA;simp only[List.cons_append,List.nil_append];(repeat' split);(all_goals simp)|a::b::d::e::u,f,g=>subst g;revert h;unfold dA;simp only[List.cons_append];exact id
theorem oF(acc:List UInt8):cF acc []=.quote:=by
 rw[cF]
theorem qd:∀(k:Nat)(acc r t rest:List UInt8),r.length≤k→cF acc r=.ok t rest→acc.length≤255→∃u,r=u++rest∧cF acc u=.ok t []∧t.length≤255|_,acc,[],t,rest,_,h,_=>by rw[cF]at h;cases h|0,acc,a::_,t,rest,b,_,_=>by simp at b|k+1,acc,a::r,t,rest,b,h,l=>by rw[cF]at h;by_cases h1:a.toNat<32;(·rw[if_pos h1]at h;cases h);rw[if_neg h1]at h;by_cases h2:a.toNat=34;(·rw[if_pos h2]at h;cases h;exact⟨[a],rfl,by rw[cF,if_neg h1,if_pos h2],l⟩);rw[if_neg h2]at h;by_cases h3:a.toNat=92;(·rw[if_pos h3]at h;split at h;(·cases h);·rename_i c n i;by_cases h4:acc.length=255;(·rw[if_pos h4]at h;cases h);rw[if_neg h4]at h;have p:=kt i;obtain⟨u,e,f,g⟩:=qd k (acc++[c]) ((a::r).drop n) t rest (by rw[cl];simp at b⊢;omega) h (by simp;omega);(have j:a::r=((a::r).take n++u)++rest:=by rw[fH,←e,List.take_append_drop]);(have s:((a::r).take n).length=n:=by rw[dr];omega);have d:=sC i j (by rw[ba];omega);refine⟨(a::r).take n++u,j,?_,g⟩;obtain⟨m,rfl⟩:∃m,n=m+1:=⟨n-1,by omega⟩;have ak:(a::r).take (m+1)++u=a::(r.take m++u):=rfl;rw[ak]at d⊢;rw[cF,if_neg h1,if_neg h2,if_pos h3];split;(·rename_i h5;rw[d]at h5;cases h5);·rename_i q v h5;rw[d]at h5;cases h5;rw[if_neg h4];(have ar:(a::(r.take m++u)).drop (m+1)=u:=by rw[List.drop_succ_cons,List.drop_append_of_le_length (by rw[dr];simp at p;omega)];rw[fI (by rw[dr];omega),List.nil_append]);rw[ar];exact f);·rw[if_neg h3]at h;by_cases h4:acc.length=255;(·rw[if_pos h4]at h;cases h);rw[if_neg h4]at h;obtain⟨u,e,f,g⟩:=qd k (acc++[a]) r t rest (by simp at b;omega) h (by simp;omega);exact⟨a::u,by rw[e];rfl,by rw[cF,if_neg h1,if_neg h2,if_neg h3,if_neg h4];exact f,g⟩
end cA
namespace cA
theorem x':∀(k:Nat)(m:sA)(r rest:List UInt8),r.length≤k→aQ m r=.inl rest→aQ .out rest=.inl rest∧∃u,r=u++rest∧aQ m u=.inl []:=by
 intro k;induction k with|zero=>intro m r rest e h;have l:r=[]:=jn.1 (by omega);subst l;(cases m with|out=>rw[aQ]at h;cases h;exact⟨by rw[aQ],[],rfl,by rw[aQ]⟩|line=>rw[aQ]at h;cases h;exact⟨by rw[aQ],[],rfl,by rw[aQ]⟩|block d st=>rw[aQ]at h;cases h)|succ k j=>intro m r rest e h;cases m with|out=>(match r,e,h with|[],_,h=>rw[aQ]at h;cases h;exact⟨by rw[aQ],[],rfl,by rw[aQ]⟩|[a],_,h=>by_cases h1:gv a=K;(·rw[aQ,if_pos h1,aQ]at h;cases h;exact⟨by rw[aQ],[a],rfl,by rw[aQ,if_pos h1,aQ]⟩);by_cases h2:a.toNat=37;(·rw[aQ,if_neg h1,if_pos h2,aQ]at h;cases h;exact⟨by rw[aQ],[a],rfl,by rw[aQ,if_neg h1,if_pos h2,aQ]⟩);(·rw[aQ,if_neg h1,if_neg h2]at h;cases h;exact⟨by rw[aQ,if_neg h1,if_neg h2],[],rfl,by rw[aQ]⟩)|a::b::r,e,h=>by_cases h1:gv a=K;(·rw[aQ,if_pos h1]at h;obtain⟨i,u,g,f⟩:=j .out (b::r) rest (by simp at e⊢;omega) h;refine⟨i,a::u,by rw[g];rfl,?_⟩;cases u with|nil=>rw[aQ,if_pos h1];exact f|cons c u=>rw[aQ,if_pos h1];exact f);by_cases h2:a.toNat=37;(·rw[aQ,if_neg h1,if_pos h2]at h;obtain⟨i,u,g,f⟩:=j .line (b::r) rest (by simp at e⊢;omega) h;refine⟨i,a::u,by rw[g];rfl,?_⟩;cases u with|nil=>rw[aQ,if_neg h1,if_pos h2];exact f|cons c u=>rw[aQ,if_neg h1,if_pos h2];exact f);by_cases h3:a.toNat=47∧b.toNat=42;(·rw[aQ,if_neg h1,if_neg h2,if_pos h3]at h;obtain⟨i,u,g,f⟩:=j (.block 1 (a::b::r)) r rest (by simp at e⊢;omega) h;refine⟨i,a::b::u,by rw[g];rfl,?_⟩;rw[aQ,if_neg h1,if_neg h2,if_pos h3];(have key:∀(k:Nat)(d:Nat)(st n u:List UInt8),u.length≤k→aQ (.block d st) u=.inl []→aQ (.block d n) u=.inl []:=by intro k;induction k with|zero=>intro d st n u e h;have l:u=[]:=jn.1 (by omega);subst l;rw[aQ]at h;cases h|succ k j=>intro d st n u e h;match u,e,h with|[],_,h=>rw[aQ]at h;cases h|[_],_,h=>rw[aQ]at h;cases h|a::b::u,e,h=>rw[aQ]at h⊢;split;(·rename_i c;rw[if_pos c]at h;exact j _ _ _ _ (by simp at e;omega) h);·rename_i c;rw[if_neg c]at h;split;(·rename_i c;rw[if_pos c]at h;split;(·rename_i c;rw[if_pos c]at h;exact h);·rename_i c;rw[if_neg c]at h;exact j _ _ _ _ (by simp at e;omega) h);·rename_i c;rw[if_neg c]at h;exact j _ _ _ _ (by simp at e⊢;omega) h);exact key u.length 1 _ _ u (aG _) f);·rw[aQ,if_neg h1,if_neg h2,if_neg h3]at h;cases h;exact⟨by rw[aQ,if_neg h1,if_neg h2,if_neg h3],[],rfl,by rw[aQ]⟩)|line=>(match r,e,h with|[],_,h=>rw[aQ]at h;cases h;exact⟨by rw[aQ],[],rfl,by rw[aQ]⟩|a::r,e,h=>by_cases h1:a.toNat=10;(·rw[aQ,if_pos h1]at h;obtain⟨i,u,g,f⟩:=j .out r rest (by simp at e;omega) h;exact⟨i,a::u,by rw[g];rfl,by rw[aQ,if_pos h1];exact f⟩);·rw[aQ,if_neg h1]at h;obtain⟨i,u,g,f⟩:=j .line r rest (by simp at e;omega) h;exact⟨i,a::u,by rw[g];rfl,by rw[aQ,if_neg h1];exact f⟩)|block d st=>match r,e,h with|[],_,h=>rw[aQ]at h;cases h|[_],_,h=>rw[aQ]at h;cases h|a::b::r,e,h=>by_cases h1:a.toNat=47∧b.toNat=42;(·rw[aQ,if_pos h1]at h;obtain⟨i,u,g,f⟩:=j _ r rest (by simp at e;omega) h;exact⟨i,a::b::u,by rw[g];rfl,by rw[aQ,if_pos h1];exact f⟩);by_cases h2:a.toNat=42∧b.toNat=47;(·by_cases h3:d=1;(·rw[aQ,if_neg h1,if_pos h2,if_pos h3]at h;obtain⟨i,u,g,f⟩:=j _ r rest (by simp at e;omega) h;exact⟨i,a::b::u,by rw[g];rfl,by rw[aQ,if_neg h1,if_pos h2,if_pos h3];exact f⟩);·rw[aQ,if_neg h1,if_pos h2,if_neg h3]at h;obtain⟨i,u,g,f⟩:=j _ r rest (by simp at e;omega) h;exact⟨i,a::b::u,by rw[g];rfl,by rw[aQ,if_neg h1,if_pos h2,if_neg h3];exact f⟩);·rw[aQ,if_neg h1,if_neg h2]at h;obtain⟨i,u,g,f⟩:=j (.block d st) (b::r) rest (by simp at e⊢;omega) h;cases u with|nil=>rw[aQ]at f;cases f|cons c u=>rw[List.cons_append,List.cons.injEq]at g;obtain⟨rfl,g⟩:=g;exact⟨i,a::b::u,by rw[g];rfl,by rw[aQ,if_neg h1,if_neg h2];exact f⟩
theorem kS(p:UInt8→Bool):∀f:List UInt8,f.take (f.takeWhile p).length=f.takeWhile p|[]=>rfl|c::r=>by rw[List.takeWhile_cons];split;(·rw[cT,List.take_succ_cons,kS p r]);·rfl
inductive gL:List UInt8→Nat→Nat→List UInt8→Int→Prop|int(w f:List UInt8)(v:Int):(w=f∨∃c,w=c::f∧c.toNat=45)→f≠[]→f.all bM=K→gJ w=O v→gL w 3 0 [] v|no(w:List UInt8):w.map (·.toNat)=[110,111,116]→gL w 10 0 [] 0|name(c:UInt8)(r:List UInt8):(c::r).all aM=K→(c::r).length≤64→(c::r).map (·.toNat)≠[110,111,116]→gd c=K→gL (c::r) 1 0 (c::r) 0|var(c:UInt8)(r:List UInt8):(c::r).all aM=K→(c::r).length≤64→gd c=D→bM c=D→gL (c::r) 2 0 (c::r) 0|ai(c:UInt8)(w t:List UInt8):c.toNat=34→cF [] w=.ok t []→t.length≤255→gL (c::w) 4 0 t 0|sign(w:List UInt8)(p:List Nat)(kind op:Nat):(p,kind,op)∈cx→w.map (·.toNat)=p→gL w kind op [] 0
def qe(kind op:Nat)(rest:List UInt8):Prop:=(kind≤3∨kind=10→ni aM rest)∧(kind=11∧(op=3∨op=5)→ni (fun c=>decide (c.toNat=61)) rest)
theorem ya{p:List Nat}{r:List UInt8}(h:pre p r=K):r=r.take p.length++r.drop p.length∧(r.take p.length).map (·.toNat)=p:=⟨(List.take_append_drop _ _).symm,ig h⟩
theorem oG{r:List UInt8}{kind op:Nat}{ai rest:List UInt8}{int:Int}(h:next r=.tok kind op ai int rest):∃w,r=w++rest∧w≠[]∧gL w kind op ai int∧qe kind op rest:=by
 cases r with|nil=>rw[next]at h;cases h|cons c r=>(have hint:∀(f:List UInt8)(b:(c::r)=f∨(c::r)=c::f∧c.toNat=45)(h1:∃d C,f=d::C∧bM d=K),ku (c::r) f=.tok kind op ai int rest→∃w,c::r=w++rest∧w≠[]∧gL w kind op ai int∧qe kind op rest:=by intro f b⟨d,C,F,G⟩h;unfold ku at h;split at h;(·rename_i k;split at h;(·rename_i v U;cases h;have a:=oE aM f;(have i:f.takeWhile aM≠[]:=by rw[F,List.takeWhile_cons,if_pos (by unfold aM;rw[G];rfl)];simp);refine⟨(c::r).take ((c::r).length-(f.dropWhile aM).length),?_,?_,?_,fun _=>qc aM f,fun h=>by omega⟩;(·rcases b with e|⟨e,_⟩;(·rw[e];(have:f.take (f.length-(f.dropWhile aM).length)=f.takeWhile aM:=by(have h5:f.length-(f.dropWhile aM).length=(f.takeWhile aM).length:=by have:=congrArg List.length a;rw[ba]at this;omega);rw[h5];exact kS aM f);rw[this];exact a);·rw[e];(have:(c::f).take ((c::f).length-(f.dropWhile aM).length)=c::f.takeWhile aM:=by(have h5:(c::f).length-(f.dropWhile aM).length=(f.takeWhile aM).length+1:=by have:=congrArg List.length a;rw[ba]at this;simp;omega);rw[h5,List.take_succ_cons,kS aM f]);rw[this,List.cons_append,←a]);(·have h5:=congrArg List.length a;rw[ba]at h5;(have h6:0<(f.takeWhile aM).length:=by rcases H:f.takeWhile aM with _|⟨x,y⟩;(·exact absurd H i);·simp);intro e;have h7:=congrArg List.length e;rw[dr]at h7;(have h8:f.length≤(c::r).length:=by rcases b with e|⟨e,_⟩<;>rw[e]<;>simp);simp at h7 h8;omega);·refine gL.int _ (f.takeWhile aM) _ ?_ i k U;rcases b with e|⟨e,n⟩;(·left;rw[e];(have h5:f.length-(f.dropWhile aM).length=(f.takeWhile aM).length:=by have:=congrArg List.length a;rw[ba]at this;omega);rw[h5];exact kS aM f);·right;refine⟨c,?_,n⟩;rw[e];(have h5:(c::f).length-(f.dropWhile aM).length=(f.takeWhile aM).length+1:=by have:=congrArg List.length a;rw[ba]at this;simp;omega);rw[h5,List.take_succ_cons,kS aM f]);·cases h);·cases h);unfold next at h;simp only at h;by_cases h1:bM c=K;(·rw[if_pos h1]at h;exact hint (c::r) (.inl rfl) ⟨c,r,rfl,h1⟩ h);rw[if_neg h1]at h;by_cases h2:c.toNat=45∧eL bM r=K;(·rw[if_pos h2]at h;cases r with|nil=>exact absurd h2.2 (by simp[eL])|cons d r=>exact hint (d::r) (.inr ⟨rfl,h2.1⟩) ⟨d,r,rfl,h2.2⟩ h);·rw[if_neg h2]at h;by_cases h3:aM c=K;(·rw[if_pos h3]at h;unfold gK at h;have a:=oE aM (c::r);(have i:(c::r).takeWhile aM=c::r.takeWhile aM:=by rw[List.takeWhile_cons,if_pos h3]);have k:=sB aM (c::r);have z:=qc aM (c::r);split at h;(·cases h);·rename_i h4;split at h;(·rename_i h5;cases h;exact⟨_,a,by rw[i];simp,gL.no _ h5,fun _=>z,fun h=>by omega⟩);·rename_i h5;rw[i]at h4 h5 k a;split at h;(·rename_i h6;cases h;refine⟨_,a,by simp,?_,fun _=>z,fun h=>by omega⟩;rw[i];exact gL.name c _ k (by omega) h5 h6);·rename_i h6;cases h;refine⟨_,a,by simp,?_,fun _=>z,fun h=>by omega⟩;rw[i];exact gL.var c _ k (by omega) (by simpa[eL]using h6) (by simpa using h1));·rw[if_neg h3]at h;by_cases h4:c.toNat=34;(·rw[if_pos h4]at h;unfold jW at h;cases l:cF [] r with|quote=>rw[l]at h;cases h|dA x=>rw[l]at h;cases h|ju=>rw[l]at h;cases h|ok t rs=>rw[l]at h;cases h;obtain⟨u,R,S,T⟩:=qd r.length [] r _ _ (aG _) l (by simp);exact⟨c::u,by rw[R];rfl,by simp,gL.ai c u _ h4 S T,fun h=>by omega,fun h=>by omega⟩);·rw[if_neg h4]at h;unfold iL at h;split at h;(·rename_i p aa o b;cases h;have m:=List.mem_of_find?_eq_some b;(have hp:pre p (c::r)=K:=by simpa using List.find?_some b);obtain⟨Q,g⟩:=ya hp;refine⟨_,Q,?_,gL.sign _ p _ _ m g,?_,?_⟩;(·intro e;rw[e]at g;simp only[List.map_nil]at g;subst g;simp[cx]at m);(·intro L;simp only[cx,dz,Prod.mk.injEq,List.not_mem_nil,or_false]at m;omega);·rintro⟨L,X⟩;simp only[cx,dz,Prod.mk.injEq,List.not_mem_nil,or_false]at m;(have E:(p=[60]∧op=3)∨(p=[62]∧op=5):=by rcases m with h|h|h|h|h|h|h|h|h|h|h<;>obtain⟨j,n,B⟩:=h<;>first|exact .inl ⟨j,B⟩|exact .inr ⟨j,B⟩|(exfalso;omega));(have P:p.length=1:=by rcases E with⟨e,_⟩|⟨e,_⟩<;>rw[e]<;>rfl);rw[P]at g⊢;simp only[List.take_succ_cons,List.take_zero,fg,List.map_nil]at g;simp only[List.drop_succ_cons,List.drop_zero];cases r with|nil=>trivial|cons d r=>show decide (d.toNat=61)=D;rw[decide_eq_false_iff_not];intro ar;rcases E with⟨j,n⟩|⟨j,n⟩;(·rw[j]at g;(have ak:c.toNat=60:=by simpa using g);(have q:cx.find? (fun s=>pre s.1 (c::d::r))=O ([60,61],11,4):=by simp[cx,List.find?,pre,ak,ar]);rw[q]at b;simp at b;omega);·rw[j]at g;(have ak:c.toNat=62:=by simpa using g);(have q:cx.find? (fun s=>pre s.1 (c::d::r))=O ([62,61],11,6):=by simp[cx,List.find?,pre,ak,ar]);rw[q]at b;simp at b;omega);·cases h
end cA
namespace cA
theorem qf:∀(f:List UInt8)(acc:Nat),acc≤dY acc f|[],_=>aG _|c::r,acc=>by have:=qf r (acc*10+(c.toNat-48));show acc≤dY (acc*10+(c.toNat-48)) r;omega
theorem sD:∀(f:List UInt8)(acc:Nat),acc≤18446744073709551615→f.all bM=K→Lib.parseUintM 18446744073709551615 acc f=if dY acc f≤18446744073709551615 then .ok (dY acc f)else .range|[],acc,h,_=>by rw[Lib.parseUintM];show _=if acc≤_ then _ else _;rw[if_pos h];rfl|c::r,acc,h,ar=>by rw[List.all_cons,gF]at ar;(have ak:48≤c.toNat∧c.toNat≤57:=by have:=ar.1;simp only[bM,gF,decide_eq_true_eq]at this;exact this);rw[Lib.parseUintM,if_pos ak];have e:dY acc (c::r)=dY (acc*10+(c.toNat-48)) r:=rfl;rw[e];have a:=qf r (acc*10+(c.toNat-48));by_cases h1:1844674407370955162≤acc;(·rw[if_pos h1,if_neg (by omega)]);rw[if_neg h1];by_cases h2:18446744073709551615<acc*10+(c.toNat-48);(·rw[if_pos h2,if_neg (by omega)]);rw[if_neg h2];exact sD r _ (by omega) ar.2
def mi(w:List UInt8):Prop:=∃f,(w=f∨∃c,w=c::f∧c.toNat=45)∧f≠[]∧f.all bM=K
theorem yb{w:List UInt8}(h:mi w):Lib.parseIntB 64 w=match gJ w with|some v=>.ok v|none=>.range:=by
 obtain⟨f,h1,h2,h3⟩:=h;have hu:=sD f 0 (by omega) h3;have a:Lib.parseUintB 64 f=if dY 0 f≤18446744073709551615 then .ok (dY 0 f)else .range:=by unfold Lib.parseUintB;rw[if_neg h2];exact hu
 rcases h1 with rfl|⟨c,rfl,ak⟩;·cases w with|nil=>exact absurd rfl h2|cons d r=>(have ar:48≤d.toNat∧d.toNat≤57:=by rw[List.all_cons,gF]at h3;have:=h3.1;simp only[bM,gF,decide_eq_true_eq]at this;exact this);unfold Lib.parseIntB gJ;simp only;rw[if_neg (show¬(d.toNat=43∨d.toNat=45)by omega),a,if_neg (show¬d.toNat=45 by omega)];by_cases h5:dY 0 (d::r)≤18446744073709551615;(·rw[if_pos h5];simp only;by_cases h6:dY 0 (d::r)<9223372036854775808;(·rw[if_pos h6,if_neg (by omega),if_neg (by omega),if_neg (by omega)]);·rw[if_neg h6,if_pos ⟨by omega,by omega⟩]);·rw[if_neg h5,if_neg (by omega)]
 ·unfold Lib.parseIntB gJ;simp only;rw[if_pos (show c.toNat=43∨c.toNat=45 by omega),a,if_pos ak];by_cases h5:dY 0 f≤18446744073709551615;(·rw[if_pos h5];simp only;by_cases h6:dY 0 f≤9223372036854775808;(·rw[if_pos h6,if_neg (by omega),if_neg (by omega),if_pos ak]);·rw[if_neg h6,if_neg (by omega),if_pos ⟨ak,by omega⟩]);·rw[if_neg h5,if_neg (by omega)]
end cA
namespace cA
theorem mj{a:UInt8}{r:List UInt8}(h:gv a=K):aQ .out (a::r)=aQ .out r:=by
 cases r with|nil=>(conv=>lhs;rw[aQ,if_pos h])|cons b r=>rw[aQ,if_pos h]
theorem sE{a:UInt8}{r:List UInt8}(h:a.toNat=37):aQ .out (a::r)=aQ .line r:=by
 have h1:¬gv a=K:=by simp[gv,h]
 cases r with|nil=>rw[aQ,if_neg h1,if_pos h]|cons b r=>rw[aQ,if_neg h1,if_pos h]
theorem sF{a b:UInt8}{r:List UInt8}(h:a.toNat=47)(h2:b.toNat=42):aQ .out (a::b::r)=aQ (.block 1 (a::b::r)) r:=by
 rw[aQ,if_neg (by simp[gv,h]),if_neg (by omega),if_pos ⟨h,h2⟩]
theorem sG{a:UInt8}{r:List UInt8}(h1:gv a=D)(h2:a.toNat≠37)(h3:¬(a.toNat=47∧eL (fun c=>decide (c.toNat=42)) r=K)):aQ .out (a::r)=.inl (a::r):=by
 cases r with|nil=>rw[aQ,if_neg (by simp[h1]),if_neg h2]|cons b r=>rw[aQ,if_neg (by simp[h1]),if_neg h2,if_neg (fun h=>h3 ⟨h.1,aY h.2⟩)]
theorem sH:aQ .out []=.inl []:=by
 rw[aQ]
theorem sI:aQ .line []=aQ .out []:=by
 rw[aQ,aQ]
theorem sJ{a:UInt8}{r:List UInt8}(h:a.toNat=10):aQ .line (a::r)=aQ .out (a::r):=by
 rw[aQ,if_pos h,mj (by simp[gv,h])]
theorem oH{a:UInt8}{r:List UInt8}(h:a.toNat≠10):aQ .line (a::r)=aQ .line r:=by
 rw[aQ,if_neg h]
theorem oI(d:Nat)(st r:List UInt8)(h:r.length≤1):aQ (.block d st) r=.inr st:=by
 match r,h with|[],_=>rw[aQ]|[_],_=>rw[aQ]
theorem sK{a b:UInt8}{r st:List UInt8}{d:Nat}(h:a.toNat=47)(h2:b.toNat=42):aQ (.block d st) (a::b::r)=aQ (.block (d+1) st) r:=by
 rw[aQ,if_pos ⟨h,h2⟩]
theorem qg{a b:UInt8}{r st:List UInt8}{d:Nat}(h:a.toNat=42)(h2:b.toNat=47):aQ (.block d st) (a::b::r)=if d=1 then aQ .out r else aQ (.block (d-1) st) r:=by
 rw[aQ,if_neg (by omega),if_pos ⟨h,h2⟩]
theorem oJ{a b:UInt8}{r st:List UInt8}{d:Nat}(h:¬(a.toNat=47∧b.toNat=42))(h2:¬(a.toNat=42∧b.toNat=47)):aQ (.block d st) (a::b::r)=aQ (.block d st) (b::r):=by
 rw[aQ,if_neg h,if_neg h2]
section
variable{acc r t rest:List UInt8}{a c:UInt8}{n:Nat}
theorem nj(h:a.toNat<32):cF acc (a::r)=.quote:=by
 rw[cF,if_pos h]
theorem nk(h:a.toNat=34):cF acc (a::r)=.ok acc r:=by
 rw[cF,if_neg (by omega),if_pos h]
theorem nn(h:a.toNat=92)(b:dA (a::r)=Z):cF acc (a::r)=.dA (a::r):=by
 rw[cF,if_neg (by omega),if_neg (by omega),if_pos h];split;·rfl
 ·rename_i h5;rw[b]at h5;cases h5
theorem oK(h:a.toNat=92)(b:dA (a::r)=O (c,n)):cF acc (a::r)=if acc.length=255 then .ju else cF (acc++[c]) ((a::r).drop n):=by
 rw[cF,if_neg (by omega),if_neg (by omega),if_pos h];split;·rename_i h5;rw[b]at h5;cases h5
 ·rename_i h5;rw[b]at h5;cases h5;rfl
theorem ml(h1:¬a.toNat<32)(h2:a.toNat≠34)(h3:a.toNat≠92):cF acc (a::r)=if acc.length=255 then .ju else cF (acc++[a]) r:=by
 rw[cF,if_neg h1,if_neg h2,if_neg h3]
end
theorem oL:∀(k:Nat)(acc r t rest:List UInt8),r.length≤k→cF acc r=.ok t rest→∃z,t=acc++z|_,acc,[],t,rest,_,h=>by rw[cF]at h;cases h|0,acc,_::_,t,rest,b,_=>by simp at b|k+1,acc,a::r,t,rest,b,h=>by by_cases h1:a.toNat<32;(·rw[nj h1]at h;cases h);by_cases h2:a.toNat=34;(·rw[nk h2]at h;cases h;exact⟨[],by simp⟩);by_cases h3:a.toNat=92;(·cases d:dA (a::r)with|none=>rw[nn h3 d]at h;cases h|some x=>obtain⟨c,n⟩:=x;rw[oK h3 d]at h;split at h;(·cases h);·have f:=kt d;obtain⟨z,e⟩:=oL k _ _ t rest (by rw[cl];simp at b⊢;omega) h;exact⟨[c]++z,by rw[e,fH]⟩);·rw[ml h1 h2 h3]at h;split at h;(·cases h);·obtain⟨z,e⟩:=oL k _ _ t rest (by simp at b;omega) h;exact⟨[a]++z,by rw[e,fH]⟩
theorem sL{acc t:List UInt8}{a:UInt8}(h:cF acc [a]=.ok t []):a.toNat=34∧t=acc:=by
 by_cases h1:a.toNat<32;·rw[nj h1]at h;cases h
 by_cases h2:a.toNat=34;·rw[nk h2]at h;cases h;exact⟨h2,rfl⟩
 by_cases h3:a.toNat=92;·(have b:dA [a]=Z:=by unfold dA;rfl);rw[nn h3 b]at h;cases h
 ·rw[ml h1 h2 h3,cF]at h;split at h<;>cases h
theorem sM{acc t r:List UInt8}{a b:UInt8}(h:cF acc (a::b::r)=.ok t []):¬a.toNat<32∧a.toNat≠34∧((a.toNat=92∧∃c n,dA (a::b::r)=O (c,n)∧n<r.length+2∧cF (acc++[c]) ((a::b::r).drop n)=.ok t [])∨(a.toNat≠92∧cF (acc++[a]) (b::r)=.ok t [])):=by
 by_cases h1:a.toNat<32;·rw[nj h1]at h;cases h
 by_cases h2:a.toNat=34;·rw[nk h2]at h;cases h
 refine⟨h1,h2,?_⟩;by_cases h3:a.toNat=92;·cases d:dA (a::b::r)with|none=>rw[nn h3 d]at h;cases h|some x=>obtain⟨c,n⟩:=x;rw[oK h3 d]at h;split at h;(·cases h);·refine .inl ⟨h3,c,n,rfl,?_,h⟩;have e:=kt d;rcases Nat.lt_or_ge n (r.length+2)with h5|h5;(·exact h5);·rw[fI (by simpa using h5),cF]at h;cases h
 ·rw[ml h1 h2 h3]at h;split at h;(·cases h);·exact .inr ⟨h3,h⟩
end cA
namespace cA
inductive ed(l:List UInt8):Nat→List ax→Nat×Nat→Prop|mm(p:Nat)(st:List UInt8):aQ .out (l.drop p)=.inr st→ed l p [] (16,l.length-st.length)|fin(p:Nat):aQ .out (l.drop p)=.inl []→ed l p [⟨0,[],0,0,l.length,l.length⟩] (0,0)|fault(p:Nat)(r a:List UInt8)(code:Nat):aQ .out (l.drop p)=.inl r→next r=.fault code a→ed l p [] (code,l.length-a.length)|tok(p:Nat)(r rest ai:List UInt8)(kind op:Nat)(int:Int)(ad:List ax)(f:Nat×Nat):aQ .out (l.drop p)=.inl r→next r=.tok kind op ai int rest→ed l (l.length-rest.length) ad f→ed l p (⟨kind,ai,int,op,l.length-r.length,l.length-rest.length⟩::ad) f
theorem qh{l w rest:List UInt8}{p:Nat}(h:l.drop p=w++rest):l.drop (l.length-rest.length)=rest:=by
 have h1:l=l.take p++(w++rest):=by rw[←h,List.take_append_drop]
 obtain⟨q,a⟩:=aa (l.take p);rw[←a]at h1;clear a h;subst h1;have e:(q++(w++rest)).length-rest.length=(q++w).length:=by simp only[ba];omega
 rw[e,←fH];exact List.drop_left
theorem mn{l r:List UInt8}{p:Nat}(h:aQ .out (l.drop p)=.inl r):l.drop (l.length-r.length)=r∧r.length≤l.length-p:=by
 obtain⟨_,u,e,_⟩:=x' (l.drop p).length .out _ _ (aG _) h;refine⟨qh e,?_⟩;have:=congrArg List.length e;rw[ba,cl]at this;omega
theorem sN(l:List UInt8):∀(k p:Nat),l.length-p<k→p≤l.length→ed l p (scan k l.length (l.drop p)).1 (scan k l.length (l.drop p)).2|0,p,h,_=>by omega|k+1,p,h,hp=>by rw[scan];cases d:aQ .out (l.drop p)with|inr st=>exact ed.mm p st d|inl r=>obtain⟨e,m⟩:=mn d;simp only;cases b:next r with|fin=>(have j:r=[]:=by cases r with|nil=>rfl|cons c r=>exfalso;unfold next at b;simp only at b;unfold ku gK jW iL at b;(repeat' split at b);all_goals cases b);subst j;exact ed.fin p d|fault code a=>exact ed.fault p r a code d b|tok kind op ai int rest=>obtain⟨w,h1,h2,_⟩:=oG b;have i:=congrArg List.length h1;rw[ba]at i;(have n:0<w.length:=by cases w with|nil=>exact absurd rfl h2|cons=>simp);(have g:l.drop (l.length-rest.length)=rest:=by rw[h1]at e;have:=qh (l:=l) (p:=l.length-(w++rest).length) (w:=w) (rest:=rest) e;exact this);have f:=sN l k (l.length-rest.length) (by omega) (by omega);rw[g]at f;exact ed.tok p r rest ai kind op int _ _ d b f
end cA
namespace cA
theorem qi:∀(a b:List UInt8)(acc:Nat),dY acc (a++b)=dY (dY acc a) b|[],_,_=>rfl|c::a,b,acc=>qi a b (acc*10+(c.toNat-48))
theorem sO{f:List UInt8}{i:Nat}(h:i<f.length):dY 0 (f.take (i+1))=dY 0 (f.take i)*10+(f[i].toNat-48):=by
 rw[List.take_add_one,cr h,qi];rfl
theorem sP(f:List UInt8)(i:Nat):dY 0 (f.take i)≤dY 0 f:=by
 conv=>rhs;rw[←List.take_append_drop i f,qi]
 exact qf _ _
theorem np{p:UInt8→Bool}{f:List UInt8}(h:f.all p=K){i:Nat}(aj:i<f.length):p f[i]=K:=List.all_eq_true.1 h _ (cb aj)
theorem gf{l:List UInt8}{i:Nat}(h:i<l.length):l.drop i=l[i]::l.drop (i+1):=kp h
theorem qj{p:UInt8→Bool}{l:List UInt8}{i:Nat}(h:l.length≤i):eL p (l.drop i)=D:=by
 rw[fI h];rfl
end cA
namespace cA
namespace ab
abbrev a7:=Nat×Nat
def ref(t:ax):a7:=(if t.kind=0 then 21 else 20,t.off)
def bS(vars:Bool)(k:Nat):Bool:=decide (k=1)||decide (k=3)||decide (k=4)||(decide (k=2)&&vars)
def step(st k:Nat)(q:Bool):Option Nat:=match st with|0=>if k=1 then O 1 else if k=0 then O 99 else Z|1=>if k=5 then O 2 else if k=8 then O 0 else if k=9 then O 5 else Z|2=>if bS K k then O 3 else Z|7=>if bS K k then O 8 else Z|3=>if k=7 then O 2 else if k=6 then O 4 else Z|4=>if k=8 then O 0 else if k=9 then O 5 else Z|5=>if k=2∨k=3∨k=4 then O 12 else if k=1 then O 6 else if k=10 then O 10 else Z|6=>if k=11 then O 13 else if k=5 then O 7 else if k=7 then O 5 else if k=8 then O (if q then 20 else 0)else Z|8=>if k=7 then O 7 else if k=6 then O 9 else Z|9=>if k=7 then O 5 else if k=8 then O (if q then 20 else 0)else Z|14=>if k=7 then O 5 else if k=8 then O (if q then 20 else 0)else Z|10=>if k=1 then O 11 else Z|11=>if k=5 then O 7 else if k=7 then O 5 else if k=8 then O (if q then 20 else 0)else Z|12=>if k=11 then O 13 else Z|13=>if bS K k then O 14 else Z|20=>if k=0 then O 99 else Z|30=>if k=1 then O 31 else if k=0 then O 99 else Z|31=>if k=5 then O 32 else if k=8 then O 30 else Z|32=>if bS D k then O 33 else Z|42=>if bS D k then O 43 else Z|33=>if k=7 then O 32 else if k=6 then O 34 else Z|34=>if k=8 then O 30 else Z|40=>if k=1 then O 41 else Z|41=>if k=5 then O 42 else if k=0 then O 99 else Z|43=>if k=7 then O 42 else if k=6 then O 44 else Z|44=>if k=0 then O 99 else Z|_=>Z
def aT(f:a7)(q:Bool):Nat→Nat→Nat→Nat→List ax→a7|_,_,_,_,[]=>f|st,c,l,n,t::r=>match step st t.kind q with|none=>ref t|some a=>if a=99 then(0,0)else if st=0∨st=30 then(if(st=0∧c+1>512)∨(st=30∧c+1>4096)then(24,t.off)else aT f q a (c+1) 0 0 r)else if st=5 then(if l+1>16 then(23,t.off)else aT f q a c (l+1) 0 r)else if st=2∨st=7∨st=32∨st=42 then(if n+1>8 then(22,t.off)else aT f q a c l (n+1) r)else aT f q a c l n r
structure bl where
 kind:Nat
 int:Int
 ai:List UInt8
 off:Nat
def bl.none:bl:=⟨0,0,[],0⟩
def e'(t:ax):bl:=if t.kind=3 then⟨1,t.int,[],t.off⟩else if t.kind=1 then⟨2,0,t.ai,t.off⟩else if t.kind=4 then⟨3,0,t.ai,t.off⟩else⟨4,0,t.ai,t.off⟩
structure aV where
 af:List UInt8
 args:List bl
 off:Nat
structure Lit where
 kind:Nat
 aB:aV
 op:Nat
 left:bl
 right:bl
 off:Nat
structure bx where
 head:aV
 body:List Lit
abbrev eT(α:Type):=Except a7 (α×List ax)
def dt(f:a7)(vars:Bool):List ax→eT bl|[]=>.error f|t::r=>if bS vars t.kind then .ok (e' t,r)else .error (ref t)
def cQ(f:a7)(kind:Nat):List ax→eT ax|[]=>.error f|t::r=>if t.kind=kind then .ok (t,if kind=0 then t::r else r)else .error (ref t)
def dd(f:a7)(vars:Bool):Nat→List ax→eT (List bl)|_,[]=>.error f|n,[t]=>if n≥8∧bS vars t.kind then .error (22,t.off)else if bS vars t.kind then .error f else .error (ref t)|n,t::s::r=>if n≥8∧bS vars t.kind then .error (22,t.off)else if bS vars t.kind then if s.kind=7 then(match dd f vars (n+1) r with|.error e=>.error e|.ok (az,b5)=>.ok (e' t::az,b5))else if s.kind=6 then .ok ([e' t],r)else .error (ref s)else .error (ref t)
def dk(f:a7)(vars:Bool):List ax→eT aV|[]=>.error f|t::r=>if t.kind=1 then match r with|[]=>.error f|s::b5=>if s.kind=5 then(match dd f vars 0 b5 with|.error e=>.error e|.ok (az,a)=>.ok (⟨t.ai,az,t.off⟩,a))else .ok (⟨t.ai,[],t.off⟩,s::b5)else .error (ref t)
def hM:List ax→Bool|[]=>D|s::_=>decide (s.kind=11)
def dJ(f:a7):List ax→eT Lit|[]=>.error f|t::r=>if t.kind=10 then(match dk f K r with|.error e=>.error e|.ok (a,b5)=>.ok (⟨2,a,0,.none,.none,t.off⟩,b5))else if t.kind=1∧hM r=D then(match dk f K (t::r)with|.error e=>.error e|.ok (a,b5)=>.ok (⟨1,a,0,.none,.none,t.off⟩,b5))else match dt f K (t::r)with|.error e=>.error e|.ok (x,aJ)=>match cQ f 11 aJ with|.error e=>.error e|.ok (o,a8)=>match dt f K a8 with|.error e=>.error e|.ok (y,b)=>.ok (⟨3,⟨[],[],0⟩,o.op,x,y,t.off⟩,b)
inductive et(f:a7):Nat→List ax→eT (List Lit)→Prop|none(n:Nat):et f n [] (.error f)|many(n:Nat)(t:ax)(r:List ax):n≥16→(t.kind=10∨bS K t.kind=K)→et f n (t::r) (.error (23,t.off))|bad(n:Nat)(t:ax)(r:List ax)(e:a7):¬(n≥16∧(t.kind=10∨bS K t.kind=K))→dJ f (t::r)=.error e→et f n (t::r) (.error e)|ends(n:Nat)(t:ax)(r:List ax)(x:Lit):¬(n≥16∧(t.kind=10∨bS K t.kind=K))→dJ f (t::r)=.ok (x,[])→et f n (t::r) (.error f)|comma(n:Nat)(t:ax)(r:List ax)(x:Lit)(s:ax)(aJ:List ax)(e:a7):¬(n≥16∧(t.kind=10∨bS K t.kind=K))→dJ f (t::r)=.ok (x,s::aJ)→s.kind=7→et f (n+1) aJ (.error e)→et f n (t::r) (.error e)|lz(n:Nat)(t:ax)(r:List ax)(x:Lit)(s:ax)(aJ:List ax)(xs:List Lit)(a8:List ax):¬(n≥16∧(t.kind=10∨bS K t.kind=K))→dJ f (t::r)=.ok (x,s::aJ)→s.kind=7→et f (n+1) aJ (.ok (xs,a8))→et f n (t::r) (.ok (x::xs,a8))|dot(n:Nat)(t:ax)(r:List ax)(x:Lit)(s:ax)(aJ:List ax):¬(n≥16∧(t.kind=10∨bS K t.kind=K))→dJ f (t::r)=.ok (x,s::aJ)→s.kind=8→et f n (t::r) (.ok ([x],aJ))|other(n:Nat)(t:ax)(r:List ax)(x:Lit)(s:ax)(aJ:List ax):¬(n≥16∧(t.kind=10∨bS K t.kind=K))→dJ f (t::r)=.ok (x,s::aJ)→s.kind≠7→s.kind≠8→et f n (t::r) (.error (ref s))
theorem sQ{f:a7}{q vars:Bool}{s c l:Nat}(aq:(s=2∧vars=K)∨(s=7∧vars=K)∨(s=32∧vars=D)∨(s=42∧vars=D)):∀(n:Nat)(ad:List ax)(e:a7),dd f vars n ad=.error e→aT f q s c l n ad=e|n,[],e,h=>by simp[dd]at h;simp[aT,h]|n,[t],e,h=>by simp only[dd]at h;(rcases aq with⟨rfl,rfl⟩|⟨rfl,rfl⟩|⟨rfl,rfl⟩|⟨rfl,rfl⟩<;>·simp only[aT,step];split at h;(·rename_i h1;simp[h1.2]at h⊢;rw[if_pos (by omega)];exact h);·rename_i h1;split at h;(·rename_i h2;simp[h2]at h h1⊢;rw[if_neg (by omega)];exact h);·rename_i h2;simp[h2]at h⊢;exact h)|n,t::u::r,e,h=>by simp only[dd]at h;have a:=sQ aq (n+1) r (q:=q) (c:=c) (l:=l) (f:=f);rcases aq with⟨rfl,rfl⟩|⟨rfl,rfl⟩|⟨rfl,rfl⟩|⟨rfl,rfl⟩<;>·unfold aT;simp only[step];split at h;(·rename_i h1;simp[h1.2]at h⊢;rw[if_pos (by omega)];exact h);·rename_i h1;split at h;(·rename_i h2;simp[h2]at h1⊢;rw[if_neg (by omega)];unfold aT;simp only[step];split at h;(·rename_i h3;simp[h3];split at h;(·rename_i b h4;simp at h;subst h;exact a _ h4);·simp at h);·rename_i h3;split at h;(·simp at h);·rename_i h4;simp[h3,h4]at h⊢;exact h);·rename_i h2;simp[h2]at h⊢;exact h
theorem kT{f:a7}{q vars:Bool}{s c l:Nat}(aq:(s=2∧vars=K)∨(s=7∧vars=K)∨(s=32∧vars=D)∨(s=42∧vars=D)):∀(n:Nat)(ad:List ax)(az:List bl)(b5:List ax),dd f vars n ad=.ok (az,b5)→aT f q s c l n ad=aT f q (s+2) c l (n+az.length) b5|n,[],az,b5,h=>by simp[dd]at h|n,[t],az,b5,h=>by simp only[dd]at h;split at h;(·simp at h);(·split at h<;>simp at h)|n,t::u::r,az,b5,h=>by simp only[dd]at h;have a:=kT aq (n+1) r (q:=q) (c:=c) (l:=l) (f:=f);rcases aq with⟨rfl,rfl⟩|⟨rfl,rfl⟩|⟨rfl,rfl⟩|⟨rfl,rfl⟩<;>·(conv=>lhs;unfold aT);simp only[step];split at h;(·simp at h);·rename_i h1;split at h;(·rename_i h2;simp[h2]at h1⊢;rw[if_neg (by omega)];(conv=>lhs;unfold aT);simp only[step];split at h;(·rename_i h3;simp[h3];split at h;(·simp at h);·rename_i b d h4;simp at h;obtain⟨rfl,rfl⟩:=h;rw[a _ _ h4];simp[Nat.add_assoc,Nat.add_comm 1]);·rename_i h3;split at h;(·rename_i h4;simp at h;obtain⟨rfl,rfl⟩:=h;simp[h4]);·simp at h);·simp at h
theorem qk{f:a7}{q:Bool}{c l n l' a:Nat}(ad:List ax):aT f q 0 c l n ad=aT f q 0 c l' a ad:=by
 cases ad with|nil=>simp[aT]|cons t r=>simp[aT]
theorem sR{f:a7}{q:Bool}{c l n l' a:Nat}(ad:List ax):aT f q 30 c l n ad=aT f q 30 c l' a ad:=by
 cases ad with|nil=>simp[aT]|cons t r=>simp[aT]
theorem sS{f:a7}{q:Bool}{c l n a:Nat}(ad:List ax):aT f q 5 c l n ad=aT f q 5 c l a ad:=by
 cases ad with|nil=>simp[aT]|cons t r=>simp[aT]
theorem sT{f:a7}{q:Bool}{c l n a l' b:Nat}(ad:List ax):aT f q 20 c l n ad=aT f q 20 a l' b ad:=by
 cases ad with|nil=>simp[aT]|cons t r=>simp only[aT,step];by_cases h:t.kind=0<;>simp[h]
theorem sU{f:a7}{q:Bool}{c l n a:Nat}(ad:List ax):aT f q 9 c l n ad=aT f q 9 c l a ad:=by
 cases ad with|nil=>simp[aT]|cons t r=>simp only[aT,step];by_cases h7:t.kind=7;(·simp[h7];exact sS r);·by_cases h8:t.kind=8;(·cases q<;>simp[h8];(·exact qk r);·exact sT r);·simp[h7,h8]
theorem yc{f:a7}{q:Bool}{c l n a:Nat}(ad:List ax):aT f q 4 c l n ad=aT f q 4 c l a ad:=by
 cases ad with|nil=>simp[aT]|cons t r=>simp only[aT,step];by_cases h8:t.kind=8;(·simp[h8];exact qk r);·by_cases h9:t.kind=9;(·simp[h9];exact sS r);·simp[h8,h9]
theorem yd{f:a7}{q:Bool}{c l n a:Nat}(ad:List ax):aT f q 34 c l n ad=aT f q 34 c l a ad:=by
 cases ad with|nil=>simp[aT]|cons t r=>simp only[aT,step];by_cases h8:t.kind=8;(·simp[h8];exact sR r);·simp[h8]
theorem ye{f:a7}{q:Bool}{c l n a:Nat}(ad:List ax):aT f q 44 c l n ad=aT f q 44 c l a ad:=by
 cases ad with|nil=>simp[aT]|cons t r=>simp only[aT,step];by_cases h8:t.kind=0<;>simp[h8]
theorem sV{f:a7}{q:Bool}{c l n:Nat}(ad:List ax):aT f q 14 c l n ad=aT f q 9 c l n ad:=by
 cases ad with|nil=>simp[aT]|cons t r=>simp[aT,step]
def dO(f:a7)(vars:Bool):List ax→eT (List bl)|[]=>.error f|s::b5=>if s.kind=5 then dd f vars 0 b5 else .ok ([],s::b5)
inductive lA:Nat→Nat→Nat→Bool→Prop|head:lA 1 2 4 K|neg:lA 11 7 9 K|pos:lA 6 7 9 K|bF:lA 31 32 34 D|fact:lA 41 42 44 D
theorem oM{f:a7}{q vars:Bool}{a s d c l:Nat}(b:lA a s d vars){ad:List ax}{e:a7}(h:dO f vars ad=.error e):aT f q a c l 0 ad=e:=by
 cases ad with|nil=>simp[dO]at h;simp[aT,h]|cons t r=>simp only[dO]at h;split at h;(·rename_i h5;cases b<;>·simp only[aT,step,h5];simp;exact sQ (by simp) 0 r e h);·simp at h
theorem oN{f:a7}{q vars:Bool}{a s d c l:Nat}(b:lA a s d vars){ad r:List ax}{az:List bl}(h:dO f vars ad=.ok (az,r))(h6:a=6→hM ad=D):aT f q a c l 0 ad=aT f q d c l 0 r:=by
 cases ad with|nil=>simp[dO]at h|cons t u=>simp only[dO]at h;split at h;(·rename_i h5;cases b with|head=>simp only[aT,step,h5];simp;rw[kT (by simp) 0 u az r h,yc]|neg=>simp only[aT,step,h5];simp;rw[kT (by simp) 0 u az r h,sU]|pos=>simp only[aT,step,h5];simp;rw[kT (by simp) 0 u az r h,sU]|bF=>simp only[aT,step,h5];simp;rw[kT (by simp) 0 u az r h,yd]|fact=>simp only[aT,step,h5];simp;rw[kT (by simp) 0 u az r h,ye]);·rename_i h5;simp at h;obtain⟨rfl,rfl⟩:=h;cases b with|head=>simp[aT,step,h5]|neg=>simp[aT,step,h5]|pos=>have h11:=h6 rfl;simp only[hM,decide_eq_false_iff_not]at h11;simp[aT,step,h5,h11]|bF=>simp[aT,step,h5]|fact=>simp[aT,step,h5]
theorem gM(f:a7)(vars:Bool)(t:ax)(r:List ax):dk f vars (t::r)=if t.kind=1 then(match dO f vars r with|.error e=>.error e|.ok (az,b5)=>.ok (⟨t.ai,az,t.off⟩,b5))else .error (ref t):=by
 simp only[dk];by_cases h:t.kind=1;·simp only[h,if_true];cases r with|nil=>simp[dO]|cons s b5=>simp only[dO];by_cases h5:s.kind=5<;>simp[h5]
 ·simp[h]
theorem yf{f:a7}{q:Bool}{c l n:Nat}{t:ax}{r:List ax}{e:a7}(ae:¬(l≥16∧(t.kind=10∨bS K t.kind=K)))(h:dJ f (t::r)=.error e):aT f q 5 c l n (t::r)=e:=by
 simp only[dJ]at h;by_cases h10:t.kind=10;·(have d:¬16<l+1:=by intro i;exact ae ⟨by omega,.inl h10⟩);simp only[h10,if_true]at h;simp only[aT,step,h10];simp[d];cases r with|nil=>simp[dk]at h;simp[aT,h]|cons s b5=>rw[gM]at h;by_cases h1:s.kind=1;(·simp only[h1,if_true]at h;simp only[aT,step,h1];simp;cases b:dO f K b5 with|error j=>rw[b]at h;simp at h;subst h;exact oM .neg b|ok x=>rw[b]at h;simp at h);·simp[h1]at h;simp[aT,step,h1,h]
 ·simp only[h10,if_false]at h;by_cases h1:t.kind=1;(·(have d:¬16<l+1:=by intro i;exact ae ⟨by omega,.inr (by simp[bS,h1])⟩);simp only[aT,step,h1];simp[d];cases a:hM r with|false=>simp only[h1,a,true_and,if_true]at h;rw[gM]at h;simp only[h1,if_true]at h;(cases b:dO f K r with|error j=>rw[b]at h;simp at h;subst h;exact oM .pos b|ok x=>rw[b]at h;simp at h)|true=>simp only[h1,a,true_and]at h;(have k:bS K t.kind=K:=by simp[bS,h1]);simp only[dt,k,if_true]at h;simp at h;cases r with|nil=>simp[hM]at a|cons s b5=>simp only[hM,decide_eq_true_eq]at a;simp only[cQ,a]at h;simp at h;simp only[aT,step,a];simp;cases b5 with|nil=>simp at h;simp[aT,h]|cons u a8=>simp only at h;by_cases hu:bS K u.kind=K;(·simp[hu]at h);·simp[hu]at h;simp[aT,step,hu,h]);·simp only[h1,false_and,if_false]at h;by_cases av:bS K t.kind=K;(·(have d:¬16<l+1:=by intro i;exact ae ⟨by omega,.inr av⟩);(have g:t.kind=2∨t.kind=3∨t.kind=4:=by simp[bS,h1]at av;omega);simp only[aT,step];rw[if_pos g];simp[d];simp only[dt,av,if_true]at h;cases r with|nil=>simp[cQ]at h;simp[aT,h]|cons s b5=>simp only[cQ]at h;by_cases a:s.kind=11;(·simp[a]at h;simp only[aT,step,a];simp;cases b5 with|nil=>simp at h;simp[aT,h]|cons u a8=>simp only at h;by_cases hu:bS K u.kind=K;(·simp[hu]at h);·simp[hu]at h;simp[aT,step,hu,h]);·simp[a]at h;simp[aT,step,a,h]);·simp[dt,av]at h;(have g:¬(t.kind=2∨t.kind=3∨t.kind=4):=by simp[bS,h1]at av;omega);simp only[aT,step];rw[if_neg g];simp[h1,h10,h]
theorem nr{f:a7}{q:Bool}{c l n:Nat}{t:ax}{r:List ax}{x:Lit}{a8:List ax}(ae:¬(l≥16∧(t.kind=10∨bS K t.kind=K)))(h:dJ f (t::r)=.ok (x,a8)):aT f q 5 c l n (t::r)=aT f q 9 c (l+1) 0 a8:=by
 simp only[dJ]at h;by_cases h10:t.kind=10;·(have d:¬16<l+1:=by intro g;exact ae ⟨by omega,.inl h10⟩);simp only[h10,if_true]at h;(conv=>lhs;unfold aT);simp only[step,h10];simp[d];cases r with|nil=>simp[dk]at h|cons s b5=>rw[gM]at h;by_cases h1:s.kind=1;(·simp only[h1,if_true]at h;(conv=>lhs;unfold aT);simp only[step,h1];simp;cases b:dO f K b5 with|error i=>rw[b]at h;simp at h|ok y=>obtain⟨az,e⟩:=y;rw[b]at h;simp at h;obtain⟨_,rfl⟩:=h;exact oN .neg b (by simp));·simp[h1]at h
 ·simp only[h10,if_false]at h;by_cases h1:t.kind=1;(·(have d:¬16<l+1:=by intro g;exact ae ⟨by omega,.inr (by simp[bS,h1])⟩);(conv=>lhs;unfold aT);simp only[step,h1];simp[d];cases a:hM r with|false=>simp only[h1,a,true_and,if_true]at h;rw[gM]at h;simp only[h1,if_true]at h;(cases b:dO f K r with|error i=>rw[b]at h;simp at h|ok y=>obtain⟨az,e⟩:=y;rw[b]at h;simp at h;obtain⟨_,rfl⟩:=h;exact oN .pos b (fun _=>a))|true=>simp only[h1,a,true_and]at h;(have k:bS K t.kind=K:=by simp[bS,h1]);simp only[dt,k,if_true]at h;simp at h;cases r with|nil=>simp[hM]at a|cons s b5=>simp only[hM,decide_eq_true_eq]at a;simp only[cQ,a]at h;simp at h;(conv=>lhs;unfold aT);simp only[step,a];simp;cases b5 with|nil=>simp at h|cons u e=>simp only at h;by_cases hu:bS K u.kind=K;(·simp[hu]at h;obtain⟨_,rfl⟩:=h;(conv=>lhs;unfold aT);simp[step,hu];exact sV _);·simp[hu]at h);·simp only[h1,false_and,if_false]at h;by_cases av:bS K t.kind=K;(·(have d:¬16<l+1:=by intro g;exact ae ⟨by omega,.inr av⟩);(have j:t.kind=2∨t.kind=3∨t.kind=4:=by simp[bS,h1]at av;omega);(conv=>lhs;unfold aT);simp only[step];rw[if_pos j];simp[d];simp only[dt,av,if_true]at h;cases r with|nil=>simp[cQ]at h|cons s b5=>simp only[cQ]at h;by_cases a:s.kind=11;(·simp[a]at h;(conv=>lhs;unfold aT);simp only[step,a];simp;cases b5 with|nil=>simp at h|cons u e=>simp only at h;by_cases hu:bS K u.kind=K;(·simp[hu]at h;obtain⟨_,rfl⟩:=h;(conv=>lhs;unfold aT);simp[step,hu];exact sV _);·simp[hu]at h);·simp[a]at h);·simp[dt,av]at h
theorem yg{f:a7}{q:Bool}{c:Nat}:∀{l n:Nat}{ad:List ax}{e:a7}{res:eT (List Lit)},et f l ad res→res=.error e→aT f q 5 c l n ad=e:=by
 intro l n ad e res h;induction h generalizing e n with|none l=>intro h;simp at h;simp[aT,h]|many l t r h1 h2=>intro h;simp at h;simp only[aT];(have aq:∃a,step 5 t.kind q=O a∧a≠99:=by rcases h2 with h2|h2;(·exact⟨10,by simp[step,h2],by decide⟩);·simp[bS]at h2;by_cases h3:t.kind=1;(·exact⟨6,by simp[step,h3],by decide⟩);·exact⟨12,by simp only[step];rw[if_pos (by omega)],by decide⟩);obtain⟨a,h3,h4⟩:=aq;rw[h3];simp[h4,h];omega|bad l t r d h1 h2=>intro h;simp at h;subst h;exact yf h1 h2|ends l t r x h1 h2=>intro h;simp at h;rw[nr h1 h2];simp[aT,h]|comma l t r x s aJ d h1 h2 h3 h4 b=>intro h;simp at h;subst h;rw[nr h1 h2];simp only[aT,step,h3];simp;exact b rfl|lz l t r x s aJ xs a8 h1 h2 h3 h4 b=>intro h;simp at h|dot l t r x s aJ h1 h2 h3=>intro h;simp at h|other l t r x s aJ h1 h2 h3 h4=>intro h;simp at h;rw[nr h1 h2];simp[aT,step,h3,h4,h]
theorem yh{f:a7}{q:Bool}{c:Nat}:∀{l n:Nat}{ad:List ax}{xs:List Lit}{r:List ax}{res:eT (List Lit)},et f l ad res→res=.ok (xs,r)→aT f q 5 c l n ad=aT f q (if q then 20 else 0) c 0 0 r:=by
 intro l n ad xs r res h;induction h generalizing xs r n with|none l=>intro h;simp at h|many l t r h1 h2=>intro h;simp at h|bad l t r b h1 h2=>intro h;simp at h|ends l t r x h1 h2=>intro h;simp at h|comma l t r x s aJ b h1 h2 h3 h4 a=>intro h;simp at h|lz l t b5 x s aJ d a8 h1 h2 h3 h4 a=>intro h;simp at h;obtain⟨_,rfl⟩:=h;rw[nr h1 h2];(conv=>lhs;unfold aT);simp only[step,h3];simp;exact a rfl|dot l t b5 x s aJ h1 h2 h3=>intro h;simp at h;obtain⟨_,rfl⟩:=h;rw[nr h1 h2];(conv=>lhs;unfold aT);simp only[step,h3];cases q;(·simp;exact qk _);(·simp;exact sT _)|other l t r x s aJ h1 h2 h3 h4=>intro h;simp at h
inductive fM(f:a7):List ax→eT bx→Prop|head(ad:List ax)(e:a7):dk f K ad=.error e→fM f ad (.error e)|none(ad:List ax)(a:aV):dk f K ad=.ok (a,[])→fM f ad (.error f)|dot(ad:List ax)(a:aV)(s:ax)(r:List ax):dk f K ad=.ok (a,s::r)→s.kind=8→fM f ad (.ok (⟨a,[]⟩,r))|arrow(ad:List ax)(a:aV)(s:ax)(r:List ax)(e:a7):dk f K ad=.ok (a,s::r)→s.kind=9→et f 0 r (.error e)→fM f ad (.error e)|lB(ad:List ax)(a:aV)(s:ax)(r:List ax)(xs:List Lit)(a8:List ax):dk f K ad=.ok (a,s::r)→s.kind=9→et f 0 r (.ok (xs,a8))→fM f ad (.ok (⟨a,xs⟩,a8))|other(ad:List ax)(a:aV)(s:ax)(r:List ax):dk f K ad=.ok (a,s::r)→s.kind≠8→s.kind≠9→fM f ad (.error (ref s))
inductive fa(f:a7):Nat→List ax→Except a7 (List bx)→Prop|none(c:Nat):fa f c [] (.error f)|fin(c:Nat)(t:ax)(r:List ax):t.kind=0→fa f c (t::r) (.ok [])|many(c:Nat)(t:ax)(r:List ax):c≥512→t.kind=1→fa f c (t::r) (.error (24,t.off))|bad(c:Nat)(t:ax)(r:List ax)(e:a7):t.kind≠0→¬(c≥512∧t.kind=1)→fM f (t::r) (.error e)→fa f c (t::r) (.error e)|more(c:Nat)(t:ax)(r:List ax)(x:bx)(aJ:List ax)(e:a7):t.kind≠0→¬(c≥512∧t.kind=1)→fM f (t::r) (.ok (x,aJ))→fa f (c+1) aJ (.error e)→fa f c (t::r) (.error e)|i'(c:Nat)(t:ax)(r:List ax)(x:bx)(aJ:List ax)(xs:List bx):t.kind≠0→¬(c≥512∧t.kind=1)→fM f (t::r) (.ok (x,aJ))→fa f (c+1) aJ (.ok xs)→fa f c (t::r) (.ok (x::xs))
inductive eM(f:a7):Nat→List ax→Except a7 (List aV)→Prop|none(c:Nat):eM f c [] (.error f)|fin(c:Nat)(t:ax)(r:List ax):t.kind=0→eM f c (t::r) (.ok [])|many(c:Nat)(t:ax)(r:List ax):c≥4096→t.kind=1→eM f c (t::r) (.error (24,t.off))|bad(c:Nat)(t:ax)(r:List ax)(e:a7):t.kind≠0→¬(c≥4096∧t.kind=1)→dk f D (t::r)=.error e→eM f c (t::r) (.error e)|mo(c:Nat)(t:ax)(r:List ax)(x:aV)(aJ:List ax)(e:a7):t.kind≠0→¬(c≥4096∧t.kind=1)→dk f D (t::r)=.ok (x,aJ)→cQ f 8 aJ=.error e→eM f c (t::r) (.error e)|more(c:Nat)(t:ax)(r:List ax)(x:aV)(aJ:List ax)(s:ax)(a8:List ax)(e:a7):t.kind≠0→¬(c≥4096∧t.kind=1)→dk f D (t::r)=.ok (x,aJ)→cQ f 8 aJ=.ok (s,a8)→eM f (c+1) a8 (.error e)→eM f c (t::r) (.error e)|i'(c:Nat)(t:ax)(r:List ax)(x:aV)(aJ:List ax)(s:ax)(a8:List ax)(xs:List aV):t.kind≠0→¬(c≥4096∧t.kind=1)→dk f D (t::r)=.ok (x,aJ)→cQ f 8 aJ=.ok (s,a8)→eM f (c+1) a8 (.ok xs)→eM f c (t::r) (.ok (x::xs))
section
variable{f:a7}{q:Bool}{c l n:Nat}{t:ax}{r b5:List ax}{e:a7}{a:aV}
theorem yi(d:t.kind≠0)(ak:¬(c≥512∧t.kind=1))(h:dk f K (t::r)=.error e):aT f q 0 c l n (t::r)=e:=by
 rw[gM]at h;by_cases h1:t.kind=1;·(have b:¬512<c+1:=by intro i;exact ak ⟨by omega,h1⟩);simp only[h1,if_true]at h;simp only[aT,step,h1];simp[b];cases a:dO f K r with|error g=>rw[a]at h;simp at h;subst h;exact oM .head a|ok x=>rw[a]at h;simp at h
 ·simp[h1]at h;simp[aT,step,h1,d,h]
theorem ns(ak:¬(c≥512∧t.kind=1))(h:dk f K (t::r)=.ok (a,b5)):aT f q 0 c l n (t::r)=aT f q 4 (c+1) 0 0 b5:=by
 rw[gM]at h;by_cases h1:t.kind=1;·(have d:¬512<c+1:=by intro g;exact ak ⟨by omega,h1⟩);simp only[h1,if_true]at h;(conv=>lhs;unfold aT);simp only[step,h1];simp[d];cases b:dO f K r with|error e=>rw[b]at h;simp at h|ok x=>obtain⟨az,i⟩:=x;rw[b]at h;simp at h;obtain⟨_,rfl⟩:=h;exact oN .head b (by simp)
 ·simp[h1]at h
theorem yj(d:t.kind≠0)(ak:¬(c≥4096∧t.kind=1))(h:dk f D (t::r)=.error e):aT f q 30 c l n (t::r)=e:=by
 rw[gM]at h;by_cases h1:t.kind=1;·(have b:¬4096<c+1:=by intro i;exact ak ⟨by omega,h1⟩);simp only[h1,if_true]at h;simp only[aT,step,h1];simp[b];cases a:dO f D r with|error g=>rw[a]at h;simp at h;subst h;exact oM .bF a|ok x=>rw[a]at h;simp at h
 ·simp[h1]at h;simp[aT,step,h1,d,h]
theorem ql(ak:¬(c≥4096∧t.kind=1))(h:dk f D (t::r)=.ok (a,b5)):aT f q 30 c l n (t::r)=aT f q 34 (c+1) 0 0 b5:=by
 rw[gM]at h;by_cases h1:t.kind=1;·(have d:¬4096<c+1:=by intro g;exact ak ⟨by omega,h1⟩);simp only[h1,if_true]at h;(conv=>lhs;unfold aT);simp only[step,h1];simp[d];cases b:dO f D r with|error e=>rw[b]at h;simp at h|ok x=>obtain⟨az,i⟩:=x;rw[b]at h;simp at h;obtain⟨_,rfl⟩:=h;exact oN .bF b (by simp)
 ·simp[h1]at h
theorem yk{res:eT bx}(g:t.kind≠0)(ak:¬(c≥512∧t.kind=1))(h:fM f (t::r) res)(b:res=.error e):aT f D 0 c l n (t::r)=e:=by
 cases h with|head d h1=>simp at b;subst b;exact yi g ak h1|none a h1=>simp at b;rw[ns ak h1];simp[aT,b]|dot a s a8 h1 h2=>simp at b|arrow a s a8 d h1 h2 h3=>simp at b;subst b;rw[ns ak h1];simp only[aT,step,h2];simp;exact yg h3 rfl|lB a s a8 xs i h1 h2 h3=>simp at b|other a s a8 h1 h2 h3=>simp at b;rw[ns ak h1];simp[aT,step,h2,h3,b]
theorem sW{res:eT bx}{x:bx}(ak:¬(c≥512∧t.kind=1))(h:fM f (t::r) res)(b:res=.ok (x,b5)):aT f D 0 c l n (t::r)=aT f D 0 (c+1) 0 0 b5:=by
 cases h with|head d h1=>simp at b|none a h1=>simp at b|dot a s a8 h1 h2=>simp at b;obtain⟨_,rfl⟩:=b;rw[ns ak h1];(conv=>lhs;unfold aT);simp only[step,h2];simp|arrow a s a8 d h1 h2 h3=>simp at b|lB a s a8 xs e h1 h2 h3=>simp at b;obtain⟨_,rfl⟩:=b;rw[ns ak h1];(conv=>lhs;unfold aT);simp only[step,h2];simp;have:=yh (q:=D) (c:=c+1) (n:=0) h3 rfl;simpa using this|other a s a8 h1 h2 h3=>simp at b
end
theorem yl{f:a7}:∀{c l n:Nat}{ad:List ax}{res:Except a7 (List bx)},fa f c ad res→aT f D 0 c l n ad=(match res with|.error e=>e|.ok _=>(0,0)):=by
 intro c l n ad res h;induction h generalizing l n with|none c=>simp[aT]|fin c t r h=>simp[aT,step,h]|many c t r h1 h2=>simp[aT,step,h2];omega|bad c t r e h1 h2 h3=>exact yk h1 h2 h3 rfl|more c t r x aJ e h1 h2 h3 h4 a=>rw[sW h2 h3 rfl];exact a|i' c t r x aJ xs h1 h2 h3 h4 a=>rw[sW h2 h3 rfl];exact a
theorem ym{f e:a7}{q:Bool}{c l n:Nat}{ad:List ax}(h:cQ f 8 ad=.error e):aT f q 34 c l n ad=e:=by
 cases ad with|nil=>simp[cQ]at h;simp[aT,h]|cons t r=>simp only[cQ]at h;by_cases h8:t.kind=8;(·simp[h8]at h);·simp[h8]at h;simp[aT,step,h8,h]
theorem sX{f:a7}{q:Bool}{c l n:Nat}{ad:List ax}{s:ax}{r:List ax}(h:cQ f 8 ad=.ok (s,r)):aT f q 34 c l n ad=aT f q 30 c 0 0 r:=by
 cases ad with|nil=>simp[cQ]at h|cons t u=>simp only[cQ]at h;by_cases h8:t.kind=8;(·simp[h8]at h;obtain⟨_,rfl⟩:=h;(conv=>lhs;unfold aT);simp only[step,h8];simp;exact sR _);·simp[h8]at h
theorem yn{f:a7}:∀{c l n:Nat}{ad:List ax}{res:Except a7 (List aV)},eM f c ad res→aT f D 30 c l n ad=(match res with|.error e=>e|.ok _=>(0,0)):=by
 intro c l n ad res h;induction h generalizing l n with|none c=>simp[aT]|fin c t r h=>simp[aT,step,h]|many c t r h1 h2=>simp[aT,step,h2];omega|bad c t r e h1 h2 h3=>exact yj h1 h2 h3|mo c t r x aJ e h1 h2 h3 h4=>rw[ql h2 h3];exact ym h4|more c t r x aJ s a8 e h1 h2 h3 h4 h5 a=>rw[ql h2 h3,sX h4];exact a|i' c t r x aJ s a8 xs h1 h2 h3 h4 h5 a=>rw[ql h2 h3,sX h4];exact a
structure dP where
 kind:Nat
 ai:List UInt8
 int:Int
 op:Nat
 off:Option Nat
structure lC(t:ax)(e:dP):Prop where
 kind:t.kind=e.kind
 ai:t.ai=e.ai
 int:t.int=e.int
 op:t.op=e.op
 off:∀o,e.off=O o→t.off=o
inductive ef:List ax→List dP→Prop|nil:ef [] []|cons{t:ax}{e:dP}{ad:List ax}{es:List dP}:lC t e→ef ad es→ef (t::ad) (e::es)
theorem ef.append{ad us:List ax}{es gs:List dP}(h:ef ad es)(k:ef us gs):ef (ad++us) (es++gs):=by
 induction h with|nil=>exact k|cons h1 _ a=>exact .cons h1 a
structure aD(t:ax):Prop where
 le:t.kind≤11
 int:t.kind≠3→t.int=0
 op:t.kind≠11→t.op=0
 ai:t.kind≠1→t.kind≠2→t.kind≠4→t.ai=[]
def bT(k:Nat):dP:=⟨k,[],0,0,Z⟩
def dQ(x:bl):dP:=⟨if x.kind=1 then 3 else if x.kind=2 then 1 else if x.kind=3 then 4 else if x.kind=4 then 2 else 0,x.ai,x.int,0,O x.off⟩
def jv:List bl→List dP|[]=>[]|x::xs=>bT 7::dQ x::jv xs
def nt:List bl→List dP|[]=>[]|x::xs=>bT 5::dQ x::jv xs++[bT 6]
def de(a:aV):List dP:=⟨1,a.af,0,0,O a.off⟩::nt a.args
def eF(x:Lit):List dP:=if x.kind=1 then de x.aB else if x.kind=2 then⟨10,[],0,0,O x.off⟩::de x.aB else[dQ x.left,⟨11,[],0,x.op,Z⟩,dQ x.right]
def gg:List Lit→List dP|[]=>[]|x::xs=>bT 7::eF x++gg xs
def dS:List Lit→List dP|[]=>[]|x::xs=>eF x++gg xs
def fw(x:bx):List dP:=de x.head++(if x.body=[]then[]else bT 9::dS x.body)++[bT 8]
def hN:List bx→List dP|[]=>[bT 0]|x::xs=>fw x++hN xs
def iq:List aV→List dP|[]=>[bT 0]|x::xs=>de x++bT 8::iq xs
section
variable{f:a7}{vars:Bool}{t s:ax}{r b5 ad:List ax}
theorem aD.mark(h:aD t)(k:Nat)(a:t.kind=k)(h5:k≠1∧k≠2∧k≠3∧k≠4∧k≠11):lC t (bT k):=⟨a,h.ai (by omega) (by omega) (by omega),h.int (by omega),h.op (by omega),fun o b=>by simp[bT]at b⟩
theorem aD.term(h:aD t)(b:bS vars t.kind=K):lC t (dQ (e' t)):=by
 simp[bS]at b;unfold e' dQ;by_cases h3:t.kind=3;·simp[h3];exact⟨h3,h.ai (by omega) (by omega) (by omega),rfl,h.op (by omega),fun o a=>by simpa using a⟩
 ·by_cases h1:t.kind=1;(·simp[h1];exact⟨h1,rfl,h.int (by omega),h.op (by omega),fun o a=>by simpa using a⟩);·by_cases h4:t.kind=4;(·simp[h4];exact⟨h4,rfl,h.int (by omega),h.op (by omega),fun o a=>by simpa using a⟩);·(have h2:t.kind=2:=by omega);simp[h2];exact⟨h2,rfl,h.int (by omega),h.op (by omega),fun o a=>by simpa using a⟩
theorem sY:∀(n:Nat)(ad:List ax)(az:List bl)(r:List ax),(∀t∈ad,aD t)→dd f vars n ad=.ok (az,r)→∃x xs p,az=x::xs∧ad=p++r∧ef p (dQ x::jv xs++[bT 6])|n,[],az,r,_,h=>by simp[dd]at h|n,[t],az,r,_,h=>by simp only[dd]at h;split at h;(·simp at h);(·split at h<;>simp at h)|n,t::u::r,az,b5,aq,h=>by simp only[dd]at h;have h1:=aq t (by simp);have h2:=aq u (by simp);split at h;(·simp at h);·split at h;(·rename_i a;split at h;(·rename_i h7;split at h;(·simp at h);·rename_i b d h4;simp at h;obtain⟨rfl,rfl⟩:=h;obtain⟨x,xs,p,rfl,rfl,hp⟩:=sY (n+1) r b d (fun z c=>aq z (by simp[c])) h4;exact⟨_,_,t::u::p,rfl,rfl,.cons (h1.term a) (.cons (h2.mark 7 h7 (by decide)) hp)⟩);·split at h;(·rename_i h6;simp at h;obtain⟨rfl,rfl⟩:=h;exact⟨_,[],[t,u],rfl,rfl,.cons (h1.term a) (.cons (h2.mark 6 h6 (by decide)) .nil)⟩);·simp at h);·simp at h
theorem nu{a:aV}(aq:∀t∈ad,aD t)(h:dk f vars ad=.ok (a,r)):∃p,ad=p++r∧ef p (de a):=by
 cases ad with|nil=>simp[dk]at h|cons t u=>rw[gM]at h;by_cases h1:t.kind=1;(·simp only[h1,if_true]at h;have av:=aq t (by simp);have c:∀az,lC t ⟨1,(⟨t.ai,az,t.off⟩:aV).af,0,0,O t.off⟩:=fun az=>⟨h1,rfl,av.int (by omega),av.op (by omega),fun o d=>by simpa using d⟩;cases b:dO f vars u with|error e=>rw[b]at h;simp at h|ok x=>obtain⟨az,i⟩:=x;rw[b]at h;simp at h;obtain⟨rfl,rfl⟩:=h;cases u with|nil=>simp[dO]at b|cons s j=>simp only[dO]at b;by_cases h5:s.kind=5;(·simp only[h5,if_true]at b;obtain⟨x,xs,p,rfl,rfl,hp⟩:=sY 0 j az i (fun z g=>aq z (by simp[g])) b;exact⟨t::s::p,rfl,.cons (c _) (.cons ((aq s (by simp)).mark 5 h5 (by decide)) hp)⟩);·simp only[h5,if_false]at b;simp at b;obtain⟨rfl,rfl⟩:=b;exact⟨[t],rfl,.cons (c _) .nil⟩);·simp[h1]at h
theorem sZ{x:Lit}(aq:∀t∈ad,aD t)(h:dJ f ad=.ok (x,r)):∃p,ad=p++r∧ef p (eF x):=by
 cases ad with|nil=>simp[dJ]at h|cons t u=>have av:=aq t (by simp);have hu:∀z∈u,aD z:=fun z i=>aq z (by simp[i]);simp only[dJ]at h;split at h;(·rename_i h10;split at h;(·simp at h);·rename_i a aJ c;simp at h;obtain⟨rfl,rfl⟩:=h;obtain⟨p,rfl,hp⟩:=nu hu c;refine⟨t::p,rfl,?_⟩;show ef (t::p) (⟨10,[],0,0,O t.off⟩::de a);exact .cons ⟨h10,av.ai (by omega) (by omega) (by omega),av.int (by omega),av.op (by omega),fun o b=>by simpa using b⟩ hp);·split at h;(·split at h;(·simp at h);·rename_i a aJ c;simp at h;obtain⟨rfl,rfl⟩:=h;obtain⟨p,e,hp⟩:=nu aq c;exact⟨p,e,hp⟩);·simp only[dt]at h;by_cases d:bS K t.kind=K;(·simp only[d,if_true]at h;cases u with|nil=>simp[cQ]at h|cons o u1=>simp only[cQ]at h;by_cases b:o.kind=11;(·simp[b]at h;cases u1 with|nil=>simp at h|cons w u2=>simp only at h;by_cases g:bS K w.kind=K;(·simp[g]at h;obtain⟨rfl,rfl⟩:=h;have h2:=aq o (by simp);refine⟨[t,o,w],rfl,?_⟩;show ef [t,o,w] [dQ (e' t),⟨11,[],0,o.op,Z⟩,dQ (e' w)];exact .cons (av.term d) (.cons ⟨b,h2.ai (by omega) (by omega) (by omega),h2.int (by omega),rfl,fun z i=>by simp at i⟩ (.cons ((aq w (by simp)).term g) .nil)));·simp[g]at h);·simp[b]at h);·simp[d]at h
theorem yo:∀{n:Nat}{ad:List ax}{xs:List Lit}{r:List ax}{res:eT (List Lit)},et f n ad res→res=.ok (xs,r)→(∀t∈ad,aD t)→∃p s,xs≠[]∧ad=p++s::r∧lC s (bT 8)∧ef p (dS xs)∧ef p ((gg xs).drop 1):=by
 intro n ad xs r res h;induction h generalizing xs r with|none l=>intro h;simp at h|many l t r h1 h2=>intro h;simp at h|bad l t r d h1 h2=>intro h;simp at h|ends l t r x h1 h2=>intro h;simp at h|comma l t r x s aJ d h1 h2 h3 h4 b=>intro h;simp at h|lz l t u x s aJ a a8 h1 h2 h3 h4 b=>intro h aq;simp at h;obtain⟨rfl,rfl⟩:=h;obtain⟨p,e,hp⟩:=sZ aq h2;rw[e]at aq;obtain⟨c,w,k,g,j,m,B⟩:=b rfl (fun z v=>aq z (by simp[v]));rw[e,g];have q:=(aq s (by simp)).mark 7 h3 (by decide);(have i:gg a=bT 7::dS a:=by cases a with|nil=>exact absurd rfl k|cons y C=>rfl);(have ae:ef (p++s::c) (dS (x::a)):=by show ef _ (eF x++gg a);rw[i];exact hp.append (.cons q m));exact⟨p++s::c,w,by simp,by simp,j,ae,ae⟩|dot l t u x s aJ h1 h2 h3=>intro h aq;simp at h;obtain⟨rfl,rfl⟩:=h;obtain⟨p,e,hp⟩:=sZ aq h2;rw[e]at aq⊢;(have ae:ef p (dS [x]):=by show ef p (eF x++[]);rw[List.append_nil];exact hp);exact⟨p,s,by simp,rfl,(aq s (by simp)).mark 8 h3 (by decide),ae,ae⟩|other l t r x s aJ h1 h2 h3 h4=>intro h;simp at h
theorem yp{x:bx}{res:eT bx}(aq:∀t∈ad,aD t)(h:fM f ad res)(b:res=.ok (x,r)):∃p,ad=p++r∧ef p (fw x):=by
 cases h with|head c h1=>simp at b|none a h1=>simp at b|dot a s a8 h1 h2=>simp at b;obtain⟨rfl,rfl⟩:=b;obtain⟨p,e,hp⟩:=nu aq h1;rw[e]at aq;refine⟨p++[s],by rw[e];simp,?_⟩;show ef (p++[s]) (de a++[]++[bT 8]);rw[List.append_nil];exact hp.append (.cons ((aq s (by simp)).mark 8 h2 (by decide)) .nil)|arrow a s a8 c h1 h2 h3=>simp at b|lB a s a8 xs n h1 h2 h3=>simp at b;obtain⟨rfl,rfl⟩:=b;obtain⟨p,e,hp⟩:=nu aq h1;rw[e]at aq;obtain⟨l,m,i,d,g,j,_⟩:=yo h3 rfl (fun z k=>aq z (by simp[k]));refine⟨p++s::l++[m],by rw[e,d];simp,?_⟩;unfold fw;rw[if_neg i];exact(hp.append (.cons ((aq s (by simp)).mark 9 h2 (by decide)) j)).append (.cons g .nil)|other a s a8 h1 h2 h3=>simp at b
end
def lD(ad:List ax):Prop:=∀t r p,ad=p++t::r→t.kind=0→r=[]
theorem lD.tail{p r:List ax}(h:lD (p++r)):lD r:=fun t u q e a=>h t u (p++q) (by rw[e,fH]) a
theorem yq{f:a7}:∀{c:Nat}{ad:List ax}{res:Except a7 (List bx)}{xs:List bx},fa f c ad res→res=.ok xs→(∀t∈ad,aD t)→lD ad→ef ad (hN xs):=by
 intro c ad res xs h;induction h generalizing xs with|none c=>intro h;simp at h|fin c t r h=>intro a aq b;simp at a;subst a;obtain rfl:=b t r [] rfl h;exact .cons ((aq t (by simp)).mark 0 h (by decide)) .nil|many c t r h1 h2=>intro h;simp at h|bad c t r e h1 h2 h3=>intro h;simp at h|more c t r x aJ e h1 h2 h3 h4 d=>intro h;simp at h|i' c t r x aJ i h1 h2 h3 h4 d=>intro a aq b;simp at a;subst a;obtain⟨p,e,hp⟩:=yp aq h3 rfl;rw[e]at aq b⊢;exact hp.append (d rfl (fun z g=>aq z (by simp[g])) b.tail)
theorem s0{f:a7}{ad:List ax}{s:ax}{r:List ax}(h:cQ f 8 ad=.ok (s,r)):ad=s::r∧s.kind=8:=by
 cases ad with|nil=>simp[cQ]at h|cons t u=>simp only[cQ]at h;by_cases h8:t.kind=8;(·simp[h8]at h;obtain⟨rfl,rfl⟩:=h;exact⟨rfl,h8⟩);·simp[h8]at h
theorem yr{f:a7}:∀{c:Nat}{ad:List ax}{res:Except a7 (List aV)}{xs:List aV},eM f c ad res→res=.ok xs→(∀t∈ad,aD t)→lD ad→ef ad (iq xs):=by
 intro c ad res xs h;induction h generalizing xs with|none c=>intro h;simp at h|fin c t r h=>intro a aq b;simp at a;subst a;obtain rfl:=b t r [] rfl h;exact .cons ((aq t (by simp)).mark 0 h (by decide)) .nil|many c t r h1 h2=>intro h;simp at h|bad c t r e h1 h2 h3=>intro h;simp at h|mo c t r x aJ e h1 h2 h3 h4=>intro h;simp at h|more c t r x aJ s a8 e h1 h2 h3 h4 h5 d=>intro h;simp at h|i' c t r x aJ s a8 k h1 h2 h3 h4 h5 d=>intro a aq b;simp at a;subst a;obtain⟨p,e,hp⟩:=nu aq h3;obtain⟨g,i⟩:=s0 h4;rw[e,g]at aq b⊢;refine hp.append (.cons ((aq s (by simp)).mark 8 i (by decide)) (d rfl (fun z j=>aq z (by simp[j])) ?_));exact lD.tail (p:=[s]) b.tail
end ab
end cA
namespace cA
namespace ab
theorem ys:∀s∈cx,s.2.1≠0∧s.2.1≤11∧(s.2.1≠11→s.2.2=0)∧s.2.1≠3:=by
 decide
theorem yt{w ai:List UInt8}{kind op off fin:Nat}{int:Int}(h:gL w kind op ai int):aD ⟨kind,ai,int,op,off,fin⟩∧kind≠0:=by
 cases h with|int w f v h1 h2 h3 h4=>exact⟨⟨by simp,by simp,by simp,by simp⟩,by simp⟩|no w h=>exact⟨⟨by simp,by simp,by simp,by simp⟩,by simp⟩|name c r h1 h2 h3 h4=>exact⟨⟨by simp,by simp,by simp,by simp⟩,by simp⟩|var c r h1 h2 h3 h4=>exact⟨⟨by simp,by simp,by simp,by simp⟩,by simp⟩|ai c w t h1 h2 h3=>exact⟨⟨by simp,by simp,by simp,by simp⟩,by simp⟩|sign w p kind op h1 h2=>obtain⟨a,b,d,e⟩:=ys _ h1;exact⟨⟨b,fun _=>rfl,d,fun _ _ _=>rfl⟩,a⟩
theorem s3{l:List UInt8}{p:Nat}{ad:List ax}{f:Nat×Nat}(h:ed l p ad f):(∀t∈ad,aD t)∧lD ad:=by
 induction h with|mm p st h=>exact⟨fun t av=>by simp at av,fun t r q e b=>by simp at e⟩|fin p h=>refine⟨fun t av=>?_,fun t r q e b=>?_⟩;(·simp at av;subst av;exact⟨by simp,by simp,by simp,by simp⟩);(·cases q with|nil=>simp at e;exact e.2|cons x q=>simp at e)|fault p r a code h1 h2=>exact⟨fun t av=>by simp at av,fun t r q e b=>by simp at e⟩|tok p r rest ai kind op int ad f h1 h2 h3 c=>obtain⟨w,_,_,h4,_⟩:=oG h2;obtain⟨d,g⟩:=yt (off:=l.length-r.length) (fin:=l.length-rest.length) h4;refine⟨fun t av=>?_,fun t b5 q e b=>?_⟩;(·rcases dz.1 av with rfl|av;(·exact d);·exact c.1 t av);·cases q with|nil=>simp at e;obtain⟨rfl,rfl⟩:=e;exact absurd b g|cons x q=>simp at e;exact c.2 t b5 q e.2 b
end ab
end cA
namespace cA
namespace ab
def Ends(f:a7)(ad:List ax):Prop:=f.1≠0∨∃p t,ad=p++[t]∧t.kind=0
section
variable{f:a7}{vars:Bool}{t:ax}{r ad:List ax}{e:a7}
theorem Ends.none(h:Ends f []):f.1≠0:=by
 rcases h with h|⟨p,t,e,_⟩;·exact h
 ·simp at e
theorem Ends.tail(h:Ends f (t::r))(a:t.kind≠0):Ends f r:=by
 rcases h with h|⟨p,u,e,hu⟩;·exact .inl h
 ·cases p with|nil=>simp at e;exact absurd hu (by rw[←e.1];exact a)|cons x p=>simp at e;exact .inr ⟨p,u,e.2,hu⟩
theorem jX(t:ax):(ref t).1≠0:=by
 unfold ref;simp only;split<;>decide
theorem oO(h:bS vars t.kind=K):t.kind≠0:=by
 intro e;simp[bS,e]at h
theorem qm:∀(n:Nat)(ad:List ax),Ends f ad→(∀e,dd f vars n ad=.error e→e.1≠0)∧∀az r,dd f vars n ad=.ok (az,r)→Ends f r|n,[],h=>⟨fun e a=>by simp[dd]at a;rw[←a];exact h.none,fun az r a=>by simp[dd]at a⟩|n,[t],h=>by refine⟨fun e a=>?_,fun az r a=>?_⟩;(·simp only[dd]at a;split at a;(·simp at a;rw[←a];simp);·split at a;(·rename_i b;simp at a;rw[←a];exact(h.tail (oO b)).none);·simp at a;rw[←a];exact jX t);(·simp only[dd]at a;split at a;(·simp at a);·split at a<;>simp at a)|n,t::s::r,h=>by by_cases b:bS vars t.kind=K;(·have h1:=h.tail (oO b);refine⟨fun e a=>?_,fun az b5 a=>?_⟩;(·simp only[dd,b,and_true,if_true]at a;split at a;(·simp at a;rw[←a];simp);·split at a;(·rename_i h7;have d:=qm (n+1) r (h1.tail (by omega));split at a;(·rename_i i c;simp at a;rw[←a];exact d.1 _ c);·simp at a);·split at a;(·simp at a);·simp at a;rw[←a];exact jX s);·simp only[dd,b,and_true,if_true]at a;split at a;(·simp at a);·split at a;(·rename_i h7;have d:=qm (n+1) r (h1.tail (by omega));split at a;(·simp at a);·rename_i g j c;simp at a;rw[←a.2];exact d.2 _ _ c);·split at a;(·rename_i h6;simp at a;rw[←a.2];exact h1.tail (by omega));·simp at a);·refine⟨fun e a=>?_,fun az b5 a=>?_⟩;(·simp[dd,b]at a;rw[←a];exact jX t);·simp[dd,b]at a
theorem yu(h:Ends f ad):(∀e,dO f vars ad=.error e→e.1≠0)∧∀az r,dO f vars ad=.ok (az,r)→Ends f r:=by
 cases ad with|nil=>exact⟨fun e a=>by simp[dO]at a;rw[←a];exact h.none,fun az r a=>by simp[dO]at a⟩|cons s u=>by_cases h5:s.kind=5;(·have:=qm (vars:=vars) 0 u (h.tail (by omega));simpa[dO,h5]using this);·exact⟨fun e a=>by simp[dO,h5]at a,fun az r a=>by simp[dO,h5]at a;rw[←a.2];exact h⟩
theorem jY(h:Ends f ad):(∀e,dk f vars ad=.error e→e.1≠0)∧∀a r,dk f vars ad=.ok (a,r)→Ends f r:=by
 cases ad with|nil=>exact⟨fun e b=>by simp[dk]at b;rw[←b];exact h.none,fun az r b=>by simp[dk]at b⟩|cons t u=>rw[gM];by_cases h1:t.kind=1;(·have:=yu (vars:=vars) (h.tail (by omega));simp only[h1,if_true];cases c:dO f vars u with|error d=>exact⟨fun e b=>by simp at b;rw[←b];exact this.1 _ c,fun a r b=>by simp at b⟩|ok x=>exact⟨fun e b=>by simp at b,fun a r b=>by simp at b;rw[←b.2];exact this.2 x.1 x.2 c⟩);·exact⟨fun e b=>by simp[h1]at b;rw[←b];exact jX t,fun a r b=>by simp[h1]at b⟩
theorem nv(h:Ends f ad):(∀e,dJ f ad=.error e→e.1≠0)∧∀a r,dJ f ad=.ok (a,r)→Ends f r:=by
 cases ad with|nil=>exact⟨fun e b=>by simp[dJ]at b;rw[←b];exact h.none,fun az r b=>by simp[dJ]at b⟩|cons t u=>simp only[dJ];by_cases h10:t.kind=10;(·have:=jY (vars:=K) (h.tail (by omega));simp only[h10,if_true];cases c:dk f K u with|error j=>exact⟨fun e b=>by simp at b;rw[←b];exact this.1 _ c,fun a r b=>by simp at b⟩|ok x=>exact⟨fun e b=>by simp at b,fun a r b=>by simp at b;rw[←b.2];exact this.2 x.1 x.2 c⟩);·simp only[h10,if_false];by_cases h1:t.kind=1∧hM u=D;(·have:=jY (vars:=K) h;rw[if_pos h1];cases c:dk f K (t::u)with|error j=>exact⟨fun e b=>by simp at b;rw[←b];exact this.1 _ c,fun a r b=>by simp at b⟩|ok x=>exact⟨fun e b=>by simp at b,fun a r b=>by simp at b;rw[←b.2];exact this.2 x.1 x.2 c⟩);·rw[if_neg h1];by_cases g:bS K t.kind=K;(·have h2:=h.tail (oO g);simp only[dt,g,if_true];cases u with|nil=>exact⟨fun e b=>by simp[cQ]at b;rw[←b];exact h2.none,fun a r b=>by simp[cQ]at b⟩|cons o u1=>by_cases i:o.kind=11;(·have h3:=h2.tail (by omega);simp only[cQ,i,if_true];cases u1 with|nil=>exact⟨fun e b=>by simp at b;rw[←b];exact h3.none,fun a r b=>by simp at b⟩|cons x u2=>by_cases d:bS K x.kind=K;(·exact⟨fun e b=>by simp[d]at b,fun a r b=>by simp[d]at b;rw[←b.2];exact h3.tail (oO d)⟩);·exact⟨fun e b=>by simp[d]at b;rw[←b];exact jX x,fun a r b=>by simp[d]at b⟩);·exact⟨fun e b=>by simp[cQ,i]at b;rw[←b];exact jX o,fun a r b=>by simp[cQ,i]at b⟩);·exact⟨fun e b=>by simp[dt,g]at b;rw[←b];exact jX t,fun a r b=>by simp[dt,g]at b⟩
end
theorem s4{f:a7}:∀{n:Nat}{ad:List ax}{res:eT (List Lit)},et f n ad res→Ends f ad→(∀e,res=.error e→e.1≠0)∧∀a r,res=.ok (a,r)→Ends f r:=by
 intro n ad res h;induction h with|none n=>exact fun h=>⟨fun e b=>by simp at b;rw[←b];exact h.none,fun a r b=>by simp at b⟩|many n t r h1 h2=>exact fun h=>⟨fun e b=>by simp at b;rw[←b];simp,fun a r b=>by simp at b⟩|bad n t r d h1 h2=>exact fun h=>⟨fun e b=>by simp at b;rw[←b];exact(nv h).1 _ h2,fun a r b=>by simp at b⟩|ends n t r x h1 h2=>exact fun h=>⟨fun e b=>by simp at b;rw[←b];exact((nv h).2 _ _ h2).none,fun a r b=>by simp at b⟩|comma n t r x s aJ d h1 h2 h3 h4 c=>exact fun h=>⟨fun e b=>(c (((nv h).2 _ _ h2).tail (by omega))).1 e b,fun a r b=>by simp at b⟩|lz n t r x s aJ xs a8 h1 h2 h3 h4 c=>exact fun h=>⟨fun e b=>by simp at b,fun a r b=>by simp at b;rw[←b.2];exact(c (((nv h).2 _ _ h2).tail (by omega))).2 _ _ rfl⟩|dot n t r x s aJ h1 h2 h3=>exact fun h=>⟨fun e b=>by simp at b,fun a r b=>by simp at b;rw[←b.2];exact((nv h).2 _ _ h2).tail (by omega)⟩|other n t r x s aJ h1 h2 h3 h4=>exact fun h=>⟨fun e b=>by simp at b;rw[←b];exact jX s,fun a r b=>by simp at b⟩
theorem s5{f:a7}{ad:List ax}{res:eT bx}(d:fM f ad res)(h:Ends f ad):(∀e,res=.error e→e.1≠0)∧∀a r,res=.ok (a,r)→Ends f r:=by
 cases d with|head c h1=>exact⟨fun e b=>by simp at b;rw[←b];exact(jY h).1 _ h1,fun a r b=>by simp at b⟩|none a h1=>exact⟨fun e b=>by simp at b;rw[←b];exact((jY h).2 _ _ h1).none,fun a r b=>by simp at b⟩|dot a s r h1 h2=>exact⟨fun e b=>by simp at b,fun a r b=>by simp at b;rw[←b.2];exact((jY h).2 _ _ h1).tail (by omega)⟩|arrow a s r c h1 h2 h3=>exact⟨fun e b=>by simp at b;rw[←b];exact(s4 h3 (((jY h).2 _ _ h1).tail (by omega))).1 _ rfl,fun a r b=>by simp at b⟩|lB a s r xs a8 h1 h2 h3=>exact⟨fun e b=>by simp at b,fun a r b=>by simp at b;rw[←b.2];exact(s4 h3 (((jY h).2 _ _ h1).tail (by omega))).2 _ _ rfl⟩|other a s r h1 h2 h3=>exact⟨fun e b=>by simp at b;rw[←b];exact jX s,fun a r b=>by simp at b⟩
theorem yv{f:a7}:∀{c:Nat}{ad:List ax}{res:Except a7 (List bx)},fa f c ad res→Ends f ad→∀e,res=.error e→e.1≠0:=by
 intro c ad res h;induction h with|none c=>(exact fun h e a=>by simp at a;rw[←a];exact h.none)|fin c t r h=>(exact fun h e a=>by simp at a)|many c t r h1 h2=>(exact fun h e a=>by simp at a;rw[←a];simp)|bad c t r d h1 h2 h3=>exact fun h e a=>(s5 h3 h).1 e (by simp at a;rw[a])|more c t r x aJ d h1 h2 h3 h4 b=>exact fun h e a=>b ((s5 h3 h).2 _ _ rfl) e a|i' c t r x aJ xs h1 h2 h3 h4 b=>exact fun h e a=>by simp at a
theorem yw{f:a7}:∀{c:Nat}{ad:List ax}{res:Except a7 (List aV)},eM f c ad res→Ends f ad→∀e,res=.error e→e.1≠0:=by
 intro c ad res h;have t8:∀{us:List ax}{e:a7},Ends f us→cQ f 8 us=.error e→e.1≠0:=fun{us e}hu a=>by cases us with|nil=>simp[cQ]at a;rw[←a];exact hu.none|cons t u=>by_cases h8:t.kind=8;(·simp[cQ,h8]at a);·simp[cQ,h8]at a;rw[←a];exact jX t
 induction h with|none c=>(exact fun h e a=>by simp at a;rw[←a];exact h.none)|fin c t r h=>(exact fun h e a=>by simp at a)|many c t r h1 h2=>(exact fun h e a=>by simp at a;rw[←a];simp)|bad c t r b h1 h2 h3=>(exact fun h e a=>by simp at a;rw[←a];exact(jY h).1 _ h3)|mo c t r x aJ b h1 h2 h3 h4=>(exact fun h e a=>by simp at a;rw[←a];exact t8 ((jY h).2 _ _ h3) h4)|more c t r x aJ s a8 b h1 h2 h3 h4 h5 d=>(exact fun h e a=>by obtain⟨g,i⟩:=s0 h4;have h6:=(jY h).2 _ _ h3;rw[g]at h6;exact d (h6.tail (by omega)) e a)|i' c t r x aJ s a8 xs h1 h2 h3 h4 h5 d=>exact fun h e a=>by simp at a
end ab
end cA
namespace cA
namespace ab
theorem yx{r a:List UInt8}{code:Nat}(h:next r=.fault code a):code≠0:=by
 cases r with|nil=>simp[next]at h|cons c r=>simp only[next]at h;split at h;(·unfold ku at h;split at h;(·split at h;(·simp at h);·simp at h;omega);·simp at h;omega);·split at h;(·unfold ku at h;split at h;(·split at h;(·simp at h);·simp at h;omega);·simp at h;omega);·split at h;(·unfold gK at h;split at h;(·simp at h;omega);·split at h;(·simp at h);·split at h<;>simp at h);·split at h;(·unfold jW at h;split at h<;>simp at h<;>omega);·unfold iL at h;split at h;(·simp at h);·simp at h;omega
theorem s6{l:List UInt8}{p:Nat}{ad:List ax}{f:Nat×Nat}(h:ed l p ad f):Ends f ad:=by
 induction h with|mm p st h=>exact .inl (by simp)|fin p h=>exact .inr ⟨[],_,rfl,rfl⟩|fault p r a code h1 h2=>exact .inl (yx h2)|tok p r rest ai kind op int ad f h1 h2 h3 c=>rcases c with h|⟨q,t,e,b⟩;(·exact .inl h);·exact .inr ⟨_::q,t,by rw[e];rfl,b⟩
end ab
end cA
namespace cA
namespace ab
def lE(x:Lit):Prop:=(x.kind=1∧x.left=.none∧x.right=.none∧x.op=0∧x.off=x.aB.off)∨(x.kind=2∧x.left=.none∧x.right=.none∧x.op=0)∨(x.kind=3∧x.off=x.left.off∧x.aB=⟨[],[],0⟩)
theorem yy(t:ax):(e' t).off=t.off:=by
 unfold e';repeat' split
 all_goals rfl
theorem yz{f:a7}{vars:Bool}{t:ax}{r b5:List ax}{a:aV}(h:dk f vars (t::r)=.ok (a,b5)):a.off=t.off:=by
 rw[gM]at h;split at h;·split at h;(·simp at h);·simp at h;rw[←h.1]
 ·simp at h
theorem yA{f:a7}{ad r:List ax}{x:Lit}(h:dJ f ad=.ok (x,r)):lE x:=by
 cases ad with|nil=>simp[dJ]at h|cons t u=>simp only[dJ]at h;split at h;(·split at h;(·simp at h);·simp at h;rw[←h.1];exact .inr (.inl ⟨rfl,rfl,rfl,rfl⟩));·split at h;(·split at h;(·simp at h);·rename_i a b5 c;simp at h;rw[←h.1];exact .inl ⟨rfl,rfl,rfl,rfl,(yz c).symm⟩);·split at h;(·simp at h);·rename_i y aJ b;split at h;(·simp at h);·split at h;(·simp at h);·simp at h;rw[←h.1];refine .inr (.inr ⟨rfl,?_,rfl⟩);simp only[dt]at b;split at b;(·simp at b;rw[←b.1];exact(yy t).symm);·simp at b
def kU:List bl→List dP|[]=>[]|x::xs=>bT 5::dQ x::jv xs
theorem yB(xs:List bl)(x:bl):jv (xs++[x])=jv xs++[bT 7,dQ x]:=by
 induction xs with|nil=>rfl|cons y b a=>simp only[List.cons_append,jv,a]
theorem yC(xs:List bl)(x:bl):kU (xs++[x])=kU xs++[bT (if xs=[]then 5 else 7),dQ x]:=by
 cases xs with|nil=>rfl|cons y a=>simp only[List.cons_append,kU,yB];simp
theorem s7(xs:List bl):nt xs=if xs=[]then[]else kU xs++[bT 6]:=by
 cases xs with|nil=>rfl|cons y a=>simp[nt,kU]
theorem oP(xs:List bl):(jv xs).length=2*xs.length:=by
 induction xs with|nil=>rfl|cons y b a=>simp only[jv,cT,a];omega
theorem s8(xs:List bl):(kU xs).length=2*xs.length:=by
 cases xs with|nil=>rfl|cons y a=>simp only[kU,cT,oP];omega
theorem nw(a:aV):(de a).length=if a.args=[]then 1 else 2*a.args.length+2:=by
 simp only[de,cT,s7];split;·simp
 ·simp[s8]
theorem yD(xs:List Lit)(x:Lit):gg (xs++[x])=gg xs++bT 7::eF x:=by
 induction xs with|nil=>simp[gg]|cons y b a=>simp only[List.cons_append,gg,a,fH]
theorem yE(xs:List Lit)(x:Lit):dS (xs++[x])=dS xs++(if xs=[]then[]else[bT 7])++eF x:=by
 cases xs with|nil=>simp[dS,gg]|cons y a=>simp[dS,yD]
theorem s9(xs:List bx):hN xs=xs.flatMap fw++[bT 0]:=by
 induction xs with|nil=>rfl|cons y b a=>simp only[hN,a,ff,fH]
theorem s'(xs:List aV):iq xs=xs.flatMap (fun x=>de x++[bT 8])++[bT 0]:=by
 induction xs with|nil=>rfl|cons y b a=>simp only[iq,a,ff,fH];simp
theorem ta{α β:Type}(g:α→List β)(xs:List α)(x:α):(xs++[x]).flatMap g=xs.flatMap g++g x:=by
 simp
theorem oQ{α:Type}{xs:List α}{i:Nat}(aj:i<xs.length):xs.take (i+1)=xs.take i++[xs[i]]:=by
 rw[dh aj]
theorem tb{α β:Type}(g:α→List β)(xs:List α)(i:Nat):((xs.take i).flatMap g).length≤(xs.flatMap g).length:=by
 induction xs generalizing i with|nil=>simp|cons y b a=>cases i with|zero=>simp|succ i=>simp only[List.take_succ_cons,ff,ba];have:=a i;omega
theorem tc{α β:Type}(g:α→List β){xs:List α}{x:α}(h:x∈xs):(g x).length≤(xs.flatMap g).length:=by
 induction xs with|nil=>simp at h|cons y b a=>simp only[ff,ba];rcases dz.1 h with rfl|h;(·omega);·have:=a h;omega
theorem yF(x:Lit):0<(eF x).length:=by
 unfold eF;repeat' split
 all_goals simp[de]
theorem yG(xs:List Lit)(i:Nat):(dS (xs.take i)).length≤(dS xs).length:=by
 have h:∀a i,(gg (a.take i)).length≤(gg a).length:=by intro a;induction a with|nil=>simp|cons y a b=>intro i;cases i with|zero=>simp[gg]|succ i=>simp only[List.take_succ_cons,gg,ba,cT];have:=b i;omega
 cases xs with|nil=>simp|cons y a=>cases i with|zero=>simp[dS]|succ i=>simp only[List.take_succ_cons,dS,ba];have:=h a i;omega
theorem yH{xs:List Lit}{x:Lit}(h:x∈xs):(eF x).length≤(dS xs).length:=by
 have k:∀a:List Lit,x∈a→(eF x).length≤(gg a).length:=by intro a;induction a with|nil=>simp|cons y a b=>intro h;simp only[gg,ba,cT];rcases dz.1 h with rfl|h;(·omega);·have:=b h;omega
 cases xs with|nil=>simp at h|cons y a=>simp only[dS,ba];rcases dz.1 h with rfl|h;(·omega);·have:=k a h;omega
structure kV where
 kind:Nat
 ai:List UInt8
 int:Int
 op:Nat
 off:Nat
 fin:Int
def fx(e:dP):kV:=⟨e.kind,e.ai,e.int,e.op,e.off.getD 0,if e.off=Z then-1 else 0⟩
structure qn(t:ax)(x:kV):Prop where
 kind:t.kind=x.kind
 ai:t.ai=x.ai
 int:t.int=x.int
 op:t.op=x.op
 off:x.fin=-1∨t.off=x.off
theorem lC.v{t:ax}{e:dP}(h:lC t e):qn t (fx e):=by
 refine⟨h.kind,h.ai,h.int,h.op,?_⟩;unfold fx;cases a:e.off with|none=>exact .inl (by simp)|some o=>exact .inr (by simpa using h.off o a)
theorem ef.at{ad:List ax}{es:List dP}(h:ef ad es):ad.length=es.length∧∀(i:Nat)(h1:i<ad.length)(h2:i<es.length),qn ad[i] (fx es[i]):=by
 induction h with|nil=>exact⟨rfl,fun i h1 _=>absurd h1 (by simp)⟩|cons h1 _ a=>refine⟨by simp[a.1],fun i=>?_⟩;cases i with|zero=>intro _ _;exact h1.v|succ i=>intro b c;exact a.2 i (by simpa using b) (by simpa using c)
def td(ad:List ax)(xs:List kV):Prop:=ad.length=xs.length∧∀(i:Nat)(h1:i<ad.length)(h2:i<xs.length),qn ad[i] xs[i]
theorem ef.v{ad:List ax}{es:List dP}(h:ef ad es):td ad (es.map fx):=by
 obtain⟨h1,h2⟩:=h.at;exact⟨by simp[h1],fun i a b=>by rw[List.getElem_map];exact h2 i a (by simpa using b)⟩
end ab
end cA
namespace cA
namespace ab
instance Gp:DecidableEq ax:=fun a b=>if h:a.kind=b.kind∧a.ai=b.ai∧a.int=b.int∧a.op=b.op∧a.off=b.off∧a.fin=b.fin then isTrue (by obtain⟨h1,h2,h3,h4,h5,h6⟩:=h;cases a;cases b;simp only at h1 h2 h3 h4 h5 h6;subst h1 h2 h3 h4 h5 h6;rfl)else isFalse fun e=>h (by subst e;exact⟨rfl,rfl,rfl,rfl,rfl,rfl⟩)
end ab
end cA
namespace cA
namespace ab
section
variable{f:a7}{vars:Bool}{n:Nat}{t s:ax}{r:List ax}
theorem yI(l:List ax):dk f vars l=(match cQ f 1 l with|.error e=>.error e|.ok (t,r)=>(match dO f vars r with|.error e=>.error e|.ok (az,b5)=>.ok (⟨t.ai,az,t.off⟩,b5))):=by
 cases l with|nil=>rfl|cons t r=>refine(gM _ _ _ _).trans ?_;by_cases h:t.kind=1;(·simp[cQ,h];try(cases dO f vars r<;>rfl));·simp[cQ,h]
def gw(f:a7)(vars:Bool)(af:List UInt8)(off:Nat)(az:List bl)(l:List ax):eT aV:=match dd f vars az.length l with|.error e=>.error e|.ok (bs,r)=>.ok (⟨af,az++bs,off⟩,r)
variable{af:List UInt8}{off:Nat}{az:List bl}
theorem te:gw f vars af off az []=.error f:=rfl
theorem yJ(a:az.length≥8)(b:bS vars t.kind=K):gw f vars af off az (t::r)=.error (22,t.off):=by
 unfold gw;cases r with|nil=>simp only[dd,b,and_true];rw[if_pos a]|cons s r=>simp only[dd,b,and_true];rw[if_pos a]
theorem tf(a:bS vars t.kind=D):gw f vars af off az (t::r)=.error (ref t):=by
 unfold gw;cases r with|nil=>simp[dd,a]|cons s r=>simp[dd,a]
theorem yK(a:¬az.length≥8)(b:bS vars t.kind=K):gw f vars af off az [t]=.error f:=by
 unfold gw;simp only[dd,b,and_true,if_true];rw[if_neg a]
theorem yL(a:¬az.length≥8)(b:bS vars t.kind=K)(h7:s.kind=7):gw f vars af off az (t::s::r)=gw f vars af off (az++[e' t]) r:=by
 unfold gw;simp only[dd,b,and_true,if_true,h7];rw[if_neg a,ba,er];cases dd f vars (az.length+1) r with|error e=>rfl|ok x=>simp
theorem yM(a:¬az.length≥8)(b:bS vars t.kind=K)(h6:s.kind=6):gw f vars af off az (t::s::r)=.ok (⟨af,az++[e' t],off⟩,r):=by
 unfold gw;simp only[dd,b,and_true,if_true,h6];rw[if_neg a];simp
theorem yN(a:¬az.length≥8)(b:bS vars t.kind=K)(h7:s.kind≠7)(h6:s.kind≠6):gw f vars af off az (t::s::r)=.error (ref s):=by
 unfold gw;simp only[dd,b,and_true,if_true,h7,h6,if_false];rw[if_neg a]
theorem yO(h5:s.kind=5)(a:t.kind=1):dk f vars (t::s::r)=gw f vars t.ai t.off [] r:=by
 rw[gM,if_pos a];simp only[dO,h5,if_true,gw];rfl
theorem yP(h5:s.kind≠5)(a:t.kind=1):dk f vars (t::s::r)=.ok (⟨t.ai,[],t.off⟩,s::r):=by
 rw[gM,if_pos a];simp[dO,h5]
theorem yQ(a:t.kind=1):dk f vars [t]=.error f:=by
 rw[gM,if_pos a];rfl
end
theorem tg{f:a7}{vars:Bool}:∀(n:Nat)(ad:List ax)(az:List bl)(r:List ax),dd f vars n ad=.ok (az,r)→∃p,ad=p++r∧0<p.length|n,[],az,r,h=>by simp[dd]at h|n,[t],az,r,h=>by simp only[dd]at h;split at h;(·simp at h);(·split at h<;>simp at h)|n,t::s::r,az,b5,h=>by simp only[dd]at h;split at h;(·simp at h);·split at h;(·split at h;(·split at h;(·simp at h);·rename_i a b h4;simp at h;obtain⟨p,hp,_⟩:=tg (n+1) r a b h4;exact⟨t::s::p,by rw[hp,←h.2];rfl,by simp⟩);·split at h;(·simp at h;exact⟨[t,s],by rw[←h.2];rfl,by simp⟩);·simp at h);·simp at h
theorem nx{f:a7}{vars:Bool}{ad r:List ax}{a:aV}(h:dk f vars ad=.ok (a,r)):∃p,ad=p++r∧0<p.length:=by
 cases ad with|nil=>simp[dk]at h|cons t u=>rw[gM]at h;split at h;(·split at h;(·simp at h);·rename_i c b5 b;simp at h;cases u with|nil=>simp[dO]at b|cons s d=>simp only[dO]at b;split at b;(·obtain⟨p,hp,_⟩:=tg _ _ _ _ b;exact⟨t::s::p,by rw[hp,←h.2];rfl,by simp⟩);·simp at b;exact⟨[t],by rw[←h.2,←b.2];rfl,by simp⟩);·simp at h
theorem qo{f:a7}{ad r:List ax}{x:Lit}(h:dJ f ad=.ok (x,r)):∃p,ad=p++r∧0<p.length:=by
 cases ad with|nil=>simp[dJ]at h|cons t u=>simp only[dJ]at h;split at h;(·split at h;(·simp at h);·rename_i a b5 e;simp at h;obtain⟨p,hp,_⟩:=nx e;exact⟨t::p,by rw[hp,←h.2];rfl,by simp⟩);·split at h;(·split at h;(·simp at h);·rename_i a b5 e;simp at h;obtain⟨p,hp,g⟩:=nx e;exact⟨p,by rw[hp,←h.2],g⟩);·split at h;(·simp at h);·rename_i y aJ d;simp only[dt]at d;split at d;(·simp at d;split at h;(·simp at h);·rename_i o a8 b;split at h;(·simp at h);·rename_i z j c;simp at h;cases u with|nil=>rw[←d.2]at b;simp[cQ]at b|cons jZ u1=>rw[←d.2]at b;simp only[cQ]at b;split at b;(·simp at b;cases u1 with|nil=>rw[←b.2]at c;simp[dt]at c|cons i u2=>rw[←b.2]at c;simp only[dt]at c;split at c;(·simp at c;exact⟨[t,jZ,i],by rw[←h.2,←c.2];rfl,by simp⟩);·simp at c);·simp at b);·simp at d
end ab
end cA
namespace cA
namespace ab
def ja(x:bl):Prop:=x.kind=1∨x.kind=2∨x.kind=3∨x.kind=4
def iM(a:aV):Prop:=∀x∈a.args,ja x
def ny(x:Lit):Prop:=lE x∧iM x.aB∧(x.kind=3→ja x.left∧ja x.right)
def lF(c:bx):Prop:=iM c.head∧∀l∈c.body,ny l
theorem qp(t:ax):ja (e' t):=by
 unfold e' ja;repeat' split
 all_goals simp
theorem th{f:a7}{vars:Bool}:∀(n:Nat)(ad:List ax)(az:List bl)(r:List ax),dd f vars n ad=.ok (az,r)→∀x∈az,ja x|n,[],az,r,h=>by simp[dd]at h|n,[t],az,r,h=>by simp only[dd]at h;split at h;(·simp at h);(·split at h<;>simp at h)|n,t::s::r,az,b5,h=>by simp only[dd]at h;split at h;(·simp at h);·split at h;(·split at h;(·split at h;(·simp at h);·rename_i b d h4;simp at h;have c:=th (n+1) r b d h4;intro x a;rw[←h.1]at a;rcases dz.1 a with rfl|a;(·exact qp t);·exact c x a);·split at h;(·simp at h;intro x a;rw[←h.1]at a;obtain rfl:=List.mem_singleton.1 a;exact qp t);·simp at h);·simp at h
theorem nz{f:a7}{vars:Bool}{ad r:List ax}{a:aV}(h:dk f vars ad=.ok (a,r)):iM a:=by
 cases ad with|nil=>simp[dk]at h|cons t u=>rw[gM]at h;split at h;(·split at h;(·simp at h);·rename_i d b5 b;simp at h;cases u with|nil=>simp[dO]at b|cons s e=>simp only[dO]at b;split at b;(·have:=th _ _ _ _ b;rw[←h.1];exact this);·simp at b;rw[←h.1];intro x c;simp[b.1]at c);·simp at h
theorem ti{f:a7}{ad r:List ax}{x:Lit}(h:dJ f ad=.ok (x,r)):ny x:=by
 refine⟨yA h,?_⟩;cases ad with|nil=>simp[dJ]at h|cons t u=>simp only[dJ]at h;split at h;(·split at h;(·simp at h);·rename_i a b5 c;simp at h;rw[←h.1];exact⟨nz c,fun h=>by simp at h⟩);·split at h;(·split at h;(·simp at h);·rename_i a b5 c;simp at h;rw[←h.1];exact⟨nz c,fun h=>by simp at h⟩);·split at h;(·simp at h);·rename_i y aJ g;split at h;(·simp at h);·rename_i o a8 k;split at h;(·simp at h);·rename_i z l i;simp at h;rw[←h.1];(have d:∀{us:List ax}{x:bl}{r:List ax},dt f K us=.ok (x,r)→ja x:=by intro us x r b;cases us with|nil=>simp[dt]at b|cons j m=>simp only[dt]at b;split at b;(·simp at b;rw[←b.1];exact qp j);·simp at b);exact⟨fun x e=>by simp at e,fun _=>⟨d g,d i⟩⟩
theorem yR{f:a7}:∀{n:Nat}{ad:List ax}{res:eT (List Lit)},et f n ad res→∀xs r,res=.ok (xs,r)→∀x∈xs,ny x:=by
 intro n ad res h;induction h with|none n=>intro xs r h;simp at h|many n t r h1 h2=>intro xs r h;simp at h|bad n t r c h1 h2=>intro xs r h;simp at h|ends n t r x h1 h2=>intro xs r h;simp at h|comma n t r x s aJ c h1 h2 h3 h4 b=>intro xs r h;simp at h|lz n t r x s aJ d a8 h1 h2 h3 h4 b=>intro xs r h y a;simp at h;rw[←h.1]at a;rcases dz.1 a with rfl|a;(·exact ti h2);(·exact b _ _ rfl y a)|dot n t r x s aJ h1 h2 h3=>intro xs r h y a;simp at h;rw[←h.1]at a;obtain rfl:=List.mem_singleton.1 a;exact ti h2|other n t r x s aJ h1 h2 h3=>intro xs r h;simp at h
theorem yS{f:a7}{ad:List ax}{res:eT bx}(h:fM f ad res):∀x r,res=.ok (x,r)→lF x:=by
 cases h with|head b h1=>intro x r h;simp at h|none a h1=>intro x r h;simp at h|dot a s a8 h1 h2=>intro x r h;simp at h;rw[←h.1];exact⟨nz h1,fun l c=>by simp at c⟩|arrow a s a8 b h1 h2 h3=>intro x r h;simp at h|lB a s a8 xs d h1 h2 h3=>intro x r h;simp at h;rw[←h.1];exact⟨nz h1,yR h3 _ _ rfl⟩|other a s a8 h1 h2 h3=>intro x r h;simp at h
theorem yT{f:a7}:∀{c:Nat}{ad:List ax}{res:Except a7 (List bx)},fa f c ad res→∀xs,res=.ok xs→∀x∈xs,lF x:=by
 intro c ad res h;induction h with|none c=>intro xs h;simp at h|fin c t r h=>intro xs h;simp at h;subst h;intro x d;simp at d|many c t r h1 h2=>intro xs h;simp at h|bad c t r e h1 h2 h3=>intro xs h;simp at h|more c t r x aJ e h1 h2 h3 h4 b=>intro xs h;simp at h|i' c t r x aJ g h1 h2 h3 h4 b=>intro xs h;simp at h;subst h;intro y a;rcases dz.1 a with rfl|a;(·exact yS h3 _ _ rfl);·exact b _ rfl y a
theorem yU{f:a7}:∀{c:Nat}{ad:List ax}{res:Except a7 (List aV)},eM f c ad res→∀xs,res=.ok xs→∀x∈xs,iM x:=by
 intro c ad res h;induction h with|none c=>intro xs h;simp at h|fin c t r h=>intro xs h;simp at h;subst h;intro x d;simp at d|many c t r h1 h2=>intro xs h;simp at h|bad c t r e h1 h2 h3=>intro xs h;simp at h|mo c t r x aJ e h1 h2 h3 h4=>intro xs h;simp at h|more c t r x aJ s a8 e h1 h2 h3 h4 h5 b=>intro xs h;simp at h|i' c t r x aJ s a8 g h1 h2 h3 h4 h5 b=>intro xs h;simp at h;subst h;intro y a;rcases dz.1 a with rfl|a;(·exact nz h3);·exact b _ rfl y a
end ab
end cA
namespace cA
namespace ab
theorem tj{t:ax}(h:bS D t.kind=K):(e' t).kind≠4:=by
 unfold bS at h;simp only[Bool.and_false,Bool.or_false,Bool.or_eq_true,decide_eq_true_eq]at h;unfold e';rcases h with(h|h)|h<;>rw[h]<;>simp
theorem tk{f:a7}:∀(n:Nat)(ad:List ax)(az:List bl)(r:List ax),dd f D n ad=.ok (az,r)→∀x∈az,x.kind≠4|n,[],az,r,h=>by simp[dd]at h|n,[t],az,r,h=>by simp only[dd]at h;split at h;(·simp at h);(·split at h<;>simp at h)|n,t::s::r,az,b5,h=>by simp only[dd]at h;split at h;(·simp at h);·split at h;(·rename_i b;split at h;(·split at h;(·simp at h);·rename_i c e h4;simp at h;have d:=tk (n+1) r c e h4;intro x a;rw[←h.1]at a;rcases dz.1 a with rfl|a;(·exact tj b);·exact d x a);·split at h;(·simp at h;intro x a;rw[←h.1]at a;obtain rfl:=List.mem_singleton.1 a;exact tj b);·simp at h);·simp at h
theorem yV{f:a7}{ad r:List ax}{a:aV}(h:dk f D ad=.ok (a,r)):∀x∈a.args,x.kind≠4:=by
 cases ad with|nil=>simp[dk]at h|cons t u=>rw[gM]at h;split at h;(·split at h;(·simp at h);·rename_i d b5 b;simp at h;cases u with|nil=>simp[dO]at b|cons s e=>simp only[dO]at b;split at b;(·have:=tk _ _ _ _ b;rw[←h.1];exact this);·simp at b;rw[←h.1];intro x c;simp[b.1]at c);·simp at h
theorem yW{f:a7}:∀{c:Nat}{ad:List ax}{res:Except a7 (List aV)},eM f c ad res→∀xs,res=.ok xs→∀x∈xs,∀t∈x.args,t.kind≠4:=by
 intro c ad res h;induction h with|none c=>intro xs h;simp at h|fin c t r h=>intro xs h;simp at h;subst h;intro x d;simp at d|many c t r h1 h2=>intro xs h;simp at h|bad c t r e h1 h2 h3=>intro xs h;simp at h|mo c t r x aJ e h1 h2 h3 h4=>intro xs h;simp at h|more c t r x aJ s a8 e h1 h2 h3 h4 h5 b=>intro xs h;simp at h|i' c t r x aJ s a8 g h1 h2 h3 h4 h5 b=>intro xs h;simp at h;subst h;intro y a;rcases dz.1 a with rfl|a;(·exact yV h3);·exact b _ rfl y a
end ab
end cA
end Go.Proofs.YtcmcicacdelmkaaGreatDoor
namespace Go.Proofs.YtcmcicacdelmkaaGreatDoor.E
open cA.ab
abbrev aF:=List UInt8
structure aK where
 kind:Nat
 int:Int
 ai:aF deriving DecidableEq
def aK.zero:aK:=⟨0,0,[]⟩
structure cB where
 af:aF
 args:List aK deriving DecidableEq
structure dG where
 head:aV
 pos:List aV
 cm:List Lit
 neg:List aV
 vars:List aF
 body:Nat
def place{α:Type}[DecidableEq α]:List α→α→Option Nat|[],_=>Z|x::r,c=>if x=c then O 0 else(place r c).map (·+1)
theorem lG{α:Type}[DecidableEq α]:∀{l:List α}{c:α}{i:Nat},place l c=O i→∃h:i<l.length,l[i]=c|x::r,c,i,h=>by unfold place at h;split at h;(·rename_i e;simp at h;subst h;exact⟨by simp,e⟩);·cases hp:place r c with|none=>rw[hp]at h;simp at h|some j=>rw[hp]at h;simp at h;subst h;obtain⟨h1,h2⟩:=lG hp;exact⟨by simp;omega,by simpa using h2⟩
theorem qq{α:Type}[DecidableEq α]:∀{l:List α}{c:α},place l c=Z→c∉l|[],c,_=>by simp|x::r,c,h=>by unfold place at h;split at h;(·cases h);·rename_i e;cases hp:place r c with|none=>intro a;rcases dz.1 a with rfl|a;exact e rfl;exact qq hp a|some j=>rw[hp]at h;simp at h
theorem qs{α:Type}[DecidableEq α]{l:List α}{c:α}(h:c∈l):∃i,place l c=O i:=by
 cases hp:place l c with|none=>exact absurd h (qq hp)|some i=>exact⟨i,rfl⟩
theorem oR{α:Type}[DecidableEq α]:∀{l:List α}{c:α}{i:Nat}(h:i<l.length),(∀j(d:j<i),l[j]'(by omega)≠c)→l[i]=c→place l c=O i|[],_,_,h,_,_=>by simp at h|x::r,c,0,h,_,a=>by simp only[List.getElem_cons_zero]at a;unfold place;rw[if_pos a]|x::r,c,i+1,h,b,a=>by have h0:=b 0 (by omega);simp only[List.getElem_cons_zero]at h0;unfold place;rw[if_neg h0,oR (l:=r) (i:=i) (by simpa using h) (fun j d=>by have:=b (j+1) (by omega);simpa using this) (by simpa using a)];rfl
theorem oS{α:Type}[DecidableEq α]{l:List α}{c:α}(h:c∉l):place l c=Z:=by
 cases hp:place l c with|none=>rfl|some i=>obtain⟨h1,h2⟩:=lG hp;exact absurd (h2▸cb h1) h
def cY{α:Type}[DecidableEq α](l:List α)(c:α):Int:=match place l c with|some i=>(i:Int)|none=>-1
theorem jb{α:Type}[DecidableEq α]{l:List α}{c:α}{i:Nat}(h:place l c=O i):cY l c=(i:Int):=by
 unfold cY;rw[h]
theorem mq{α:Type}[DecidableEq α]{l:List α}{c:α}(h:place l c=Z):cY l c=-1:=by
 unfold cY;rw[h]
theorem ir{α:Type}[DecidableEq α]{l:List α}{c:α}(h:c∈l):∃i:Nat,i<l.length∧cY l c=(i:Int)∧l[i]?=O c:=by
 obtain⟨i,aj⟩:=qs h;obtain⟨h1,h2⟩:=lG aj;exact⟨i,h1,jb aj,by rw[cr h1,h2]⟩
theorem kW{α:Type}[DecidableEq α]{l:List α}{c:α}:cY l c<0↔c∉l:=by
 constructor;·intro h a;obtain⟨i,_,h2,_⟩:=ir a;omega
 ·intro h;rw[mq (oS h)];decide
theorem yX{α:Type}[DecidableEq α](l:List α)(c:α):-1≤cY l c∧cY l c<l.length:=by
 unfold cY;cases hp:place l c with|none=>simp;omega|some i=>obtain⟨h1,_⟩:=lG hp;simp;omega
theorem yY{α:Type}[DecidableEq α]{l:List α}{c d:α}(ak:c∈l)(ar:d∈l)(h:cY l c=cY l d):c=d:=by
 obtain⟨i,h1,h2,h3⟩:=ir ak;obtain⟨j,b,e,a⟩:=ir ar;have:i=j:=by omega
 subst this;rw[h3]at a;exact ee a
def dx(t:bl):aK:=⟨t.kind,t.int,t.ai⟩
def gx:aF:=[95]
section
variable(wildS:Nat→aF)
structure lH where
 args:List bl
 vars:List aF
 cO:Nat
def aM(t:bl):Bool:=decide (t.kind=4)&&decide (t.ai=gx)
def kX(k:Nat)(t:bl):bl:=if aM t=K then⟨t.kind,t.int,wildS k,t.off⟩else t
def j0(vars:List aF)(t:bl):List aF:=if t.kind=4 then ez vars t.ai else vars
def stepT(s:lH)(t:bl):lH:=⟨s.args++[kX wildS s.cO t],j0 s.vars (kX wildS s.cO t),if aM t=K then s.cO+1 else s.cO⟩
structure lI where
 pos:List aV
 cm:List Lit
 neg:List aV
 vars:List aF
 cO:Nat
def eg(s:lI)(l:Lit):lI:=if l.kind=1 then let r:=l.aB.args.foldl (stepT wildS) ⟨[],s.vars,s.cO⟩;⟨s.pos++[⟨l.aB.af,r.args,0⟩],s.cm,s.neg,r.vars,r.cO⟩else if l.kind=2 then⟨s.pos,s.cm,s.neg++[l.aB],s.vars,s.cO⟩else⟨s.pos,s.cm++[l],s.neg,s.vars,s.cO⟩
def eA(c:bx):dG:=let s:=c.body.foldl (eg wildS) ⟨[],[],[],[],0⟩;⟨c.head,s.pos,s.cm,s.neg,s.vars,c.body.length⟩
def hv(cs:List aK)(t:bl):List aK:=if t.kind=4 then cs else ez cs (dx t)
structure dT where
 aC:List aF
 cs:List aK
def gy(s:dT)(a:aV):dT:=⟨ez s.aC a.af,a.args.foldl hv s.cs⟩
def eG(a:aV):cB:=⟨a.af,a.args.map dx⟩
def eB(s:dT)(l:Lit):dT:=if l.kind=3 then⟨s.aC,hv (hv s.cs l.left) l.right⟩else gy s l.aB
structure cq where
 aP:List dG
 bF:List cB
 z:dT
def fU(s:cq)(c:bx):cq:=let z:=c.body.foldl eB (gy s.z c.head);if c.body.length=0 then⟨s.aP,ez s.bF (eG c.head),z⟩else⟨s.aP++[eA wildS c],s.bF,z⟩
def jw(s:cq)(a:aV):cq:=⟨s.aP,ez s.bF (eG a),gy s.z a⟩
def world(p:List bx)(az:List aV):cq:=az.foldl jw (p.foldl (fU wildS) ⟨[],[],⟨[],[]⟩⟩)
end
def cZ(vars:List aF)(sub:List aK)(t:bl):Option aK:=if t.kind≠4 then O (dx t)else match place vars t.ai with|some i=>sub[i]?|none=>Z
def gh(vars:List aF)(sub:List aK):List bl→Option (List aK)|[]=>O []|t::r=>match cZ vars sub t with|none=>Z|some c=>(gh vars sub r).map (c::·)
def fy(vars:List aF)(sub:List aK)(a:aV):Option cB:=(gh vars sub a.args).map fun l=>⟨a.af,l⟩
end Go.Proofs.YtcmcicacdelmkaaGreatDoor.E
