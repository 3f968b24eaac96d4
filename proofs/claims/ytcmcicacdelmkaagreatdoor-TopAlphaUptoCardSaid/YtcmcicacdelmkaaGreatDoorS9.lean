/- Texts of this seat. Conditions: those that each of them states. -/
import Derived.Test.YtcmcicacdelmkaaGreatDoorS8
import Derived.Lib.LaidTab
import Derived.Stop.LaidErr
import Derived.Deep.Slices
import Derived.Deep.Strs
import Derived.OpenShut
open Option renaming none→Z,some→O
open Bool renaming true→K,false→D
open Go.Value renaming int→Y,slice→J,string→A,pointer→V
open Go.IntKind renaming i64→I
open Go.Obj renaming cells→M
open Go.Proofs.Tryz
set_option maxRecDepth 100000
set_option maxHeartbeats 6400000
set_option linter.all false
namespace Go.Proofs.YtcmcicacdelmkaaGreatDoor
open Go.RowKit Go.Shelf Go.Deep cA
theorem vc{s:ByteArray}{l:List UInt8}(h:s.data.toList=l):s=⟨l.toArray⟩:=mH h
theorem vd{P:Program}{a:World}{name:String}{bs:List (List UInt8)}{rest:List (String×DataW Unit)}{g:Nat}{t e:TypeId}{n:Nat}(c:P.globalNamed name=O g)(u:(P.globals[g]?).map (·.type)=O t)(av:P.underlying t=O (.array n e))(j:P.underlying e=O .string)(f:P.cellsOf e=1)(h:laidMet P ((name,.agg (bs.map fun b=>.lit (.string b)))::rest) a):∀i(aj:i<bs.length),a.cell? ⟨g,i,Z⟩=O (.string ⟨bs[i].toArray⟩):=by
 obtain⟨bd,⟨y,C,cs,fuel,p,q,l,r,v,ar,_,_⟩,_⟩:=h;obtain rfl:=ee (c.symm.trans l);obtain rfl:=ee (u.symm.trans r);intro i aj;obtain⟨xs,m,_,w,_,B,k⟩:=DataW.trod_array av ar;have d:xs.map (·.1)=bs.map fun b=>(DataW.lit (.string b):DataW Unit):=by have:=congrArg Prod.fst w;simp only[DataW.agg.injEq]at this;exact this.symm
 have z:xs.length=bs.length:=by simpa using congrArg List.length d
 have h1:=k i (by omega);rw[f,Nat.mul_one,cr (by omega)]at h1;obtain⟨s,aq,x,_⟩:=DataW.trod_string j h1;have h2:(xs.map (·.1))[i]?=O (DataW.lit (.string s.data.toList):DataW Unit):=by rw[List.getElem?_map,cr (by omega),x];rfl
 rw[d,List.getElem?_map,cr aj]at h2;simp only[Option.map_some,e9,DataW.lit.injEq,Lit.string.injEq]at h2;have h3:cs.toList[i]?=O (.string s):=by have:=congrArg (·[0]?) aq;simpa[List.getElem?_take,List.getElem?_drop]using this
 rw[World.var?_cell c v i,←Array.getElem?_toList,h3,vc h2.symm]
theorem BL{b:World}{base:Nat}{a:Addr}{cs:List Value}(h:b.cells? base a 3=O cs):∃x y z,cs=[x,y,z]∧b.cell? (a.add 0)=O x∧b.cell? (a.add 1)=O y∧b.cell? (a.add 2)=O z:=by
 unfold World.cells? at h;split at h;·have c:=Lib.mapM_length h;simp at c;match cs,c with|[x,y,z],_=>obtain⟨g,h0,d⟩:=Lib.mapM_at h 0 0 rfl;obtain⟨i,h1,e⟩:=Lib.mapM_at h 1 1 rfl;obtain⟨j,h2,f⟩:=Lib.mapM_at h 2 2 rfl;simp at h0 h1 h2;subst h0 h1 h2;exact⟨_,_,_,rfl,d,e,f⟩
 ·cases h
theorem BM{P:Program}{c:World}{name:String}{L3:List (List UInt8×Int×Int)}{rest:List (String×DataW Unit)}{g:Nat}{t e ad u v:TypeId}{f0 f1 f2:Field}(F:P.globalNamed name=O g)(ah:(P.globals[g]?).map (·.type)=O t)(av:P.underlying t=O (.slice e))(S:P.underlying e=O (.struct #[f0,f1,f2]))(Q:P.cellsOf e=3)(t0:f0.type=ad)(t1:f1.type=u)(t2:f2.type=v)(am:f0.offset=0)(an:f1.offset=1)(ao:f2.offset=2)(aq:P.underlying ad=O .string)(X:P.underlying u=O (.int .i64))(aa:P.underlying v=O (.int .i64))(c0:P.cellsOf ad=1)(c1:P.cellsOf u=1)(c2:P.cellsOf v=1)(ae:0<L3.length)(h:laidMet P ((name,.slice (L3.map fun x=>.agg [.lit (.string x.1),.lit (.int .i64 x.2.1),.lit (.int .i64 x.2.2)]) [])::rest) c):∃b off cap,c.cell? ⟨g,0,Z⟩=O (.slice (O ⟨b,off,Z⟩) L3.length cap)∧b<c.heap.size∧∀i(aj:i<L3.length),c.cell? ⟨b,off+i*3,Z⟩=O (.string ⟨L3[i].1.toArray⟩)∧c.cell? ⟨b,off+i*3+1,Z⟩=O (.int .i64 L3[i].2.1)∧c.cell? ⟨b,off+i*3+2,Z⟩=O (.int .i64 L3[i].2.2):=by
 obtain⟨bd,⟨au,aA,cs,fuel,p,q,U,ag,ai,ar,_,_⟩,_⟩:=h;obtain rfl:=ee (F.symm.trans U);obtain rfl:=ee (ah.symm.trans ag);subst t0 t1 t2;rcases open_slice av ar with⟨_,r⟩|⟨a,len,cap,m,n,aI,cA,R,_,aw,_,ac,r,T⟩;·cases r
 have f:=congrArg Prod.fst r;simp only[DataW.slice.injEq]at f;obtain⟨f,_⟩:=f;have ab:L3.length=len:=by simpa using congrArg List.length f
 subst ab;have ax:L3.length≤m:=by rw[ac];split<;>omega
 have each:∀i(aj:i<L3.length),c.cell? ((a.add (i*3)).add 0)=O (.string ⟨L3[i].1.toArray⟩)∧c.cell? ((a.add (i*3)).add 1)=O (.int .i64 L3[i].2.1)∧c.cell? ((a.add (i*3)).add 2)=O (.int .i64 L3[i].2.2):=by intro i aj;obtain⟨ap,h1,h2⟩:=T i (by omega);rw[Q]at h1;obtain⟨x,y,z,rfl,j,k,l⟩:=BL h1;obtain⟨y0,y1,y2,ay,al,_,g0,g1,g2⟩:=trod_struct3 S h2;rw[am,c0]at g0;rw[an,c1]at g1;rw[ao,c2]at g2;obtain⟨s,w,G,_⟩:=DataW.trod_string aq g0;obtain⟨v1,B,H,_⟩:=DataW.trod_int X g1;obtain⟨v2,C,L,_⟩:=DataW.trod_int aa g2;have E:=congrArg Prod.fst al;simp only at E;(have d:(L3.map fun x=>(DataW.agg [.lit (.string x.1),.lit (.int .i64 x.2.1),.lit (.int .i64 x.2.2)]:DataW Unit))[i]?=O (aI i):=by rw[f,List.getElem?_map,List.getElem?_range aj];rfl);rw[List.getElem?_map,cr aj]at d;simp only[Option.map_some,e9]at d;rw[E,G,H,L]at d;simp only[DataW.agg.injEq,List.cons.injEq,DataW.lit.injEq,Lit.string.injEq,Lit.int.injEq,and_true,true_and]at d;simp at w B C;refine⟨?_,?_,?_⟩;(·rw[j,w,vc d.1.symm]);(·rw[k,B,d.2.1]);·rw[l,C,d.2.2]
 have h0:=(each 0 ae).1;obtain⟨b,off,spot⟩:=a;have af:spot=Z:=by simpa[Addr.add]using World.cell?_spot h0
 subst af;have ak:c.cell? ⟨g,0,Z⟩=O (.slice (O ⟨b,off,Z⟩) L3.length cap):=by rw[World.var?_cell F ai 0,←Array.getElem?_toList,R];rfl
 refine⟨b,off,cap,ak,?_,fun i aj=>?_⟩;·simp only[Go.WideShapes.add_plain]at h0;exact World.block_lt_of_cell? _ _ h0
 ·obtain⟨j,k,l⟩:=each i aj;simp only[Go.WideShapes.add_plain]at j k l;exact⟨j,k,l⟩
end Go.Proofs.YtcmcicacdelmkaaGreatDoor
namespace Go.Proofs.YtcmcicacdelmkaaGreatDoor
open Go.RowKit Go.Shelf cA
def ca(k a d b e c f:Int):Int:=if k=a then d else if k=b then e else if k=c then f else-1
theorem ep(k a h b i c j:Int)(w:World):Calls prog 115 #[Y I k,Y I a,Y I h,Y I b,Y I i,Y I c,Y I j] w fun e w'=>e=.returned (Y I (ca k a h b i c j))∧w'=w:=by
 obtain⟨g,d⟩:=aa (ca k a h b i c j);rw[←d];by_cases h1:k=a;·(have l:(k==a)=K:=by simpa using h1);have f:=N (show g=h by rw[d,ca,if_pos h1]);clear h1 d;go_enter func115,ntmps115;go_wp2;go_ret;exact⟨by rw[f.o];first|done|rfl,rfl⟩
 ·(have l:(k==a)=D:=by simpa using h1);by_cases h2:k=b;(·(have m:(k==b)=K:=by simpa using h2);have f:=N (show g=i by rw[d,ca,if_neg h1,if_pos h2]);clear h1 h2 d;go_enter func115,ntmps115;go_wp2;go_ret;exact⟨by rw[f.o];first|done|rfl,rfl⟩);·(have m:(k==b)=D:=by simpa using h2);by_cases h3:k=c;(·(have n:(k==c)=K:=by simpa using h3);have f:=N (show g=j by rw[d,ca,if_neg h1,if_neg h2,if_pos h3]);clear h1 h2 h3 d;go_enter func115,ntmps115;go_wp2;go_ret;exact⟨by rw[f.o];first|done|rfl,rfl⟩);·(have n:(k==c)=D:=by simpa using h3);have f:=N (show g=-1 by rw[d,ca,if_neg h1,if_neg h2,if_neg h3]);clear h1 h2 h3 d;go_enter func115,ntmps115;go_wp2;go_ret;exact⟨by rw[f.o];first|done|rfl,rfl⟩
theorem pt(k:Nat)(vars:Bool)(w:World):Calls prog 119 #[Y I k,.bool vars] w fun e w'=>e=.returned (.bool (ab.bS vars k))∧w'=w:=by
 obtain⟨d,c⟩:=aa (ab.bS vars k);rw[←c];have key:∀b:Bool,ab.bS vars k=b→W (d=b):=fun b h=>N (by rw[c,h]);by_cases h1:k=1;·have a:=key K (by simp[ab.bS,h1]);subst h1;clear c key;go_enter func119,ntmps119;go_wp2;go_ret;exact⟨by rw[a.o];first|done|rfl,rfl⟩
 ·by_cases h3:k=3;(·have a:=key K (by simp[ab.bS,h3]);subst h3;clear c key h1;go_enter func119,ntmps119;go_wp2;go_ret;exact⟨by rw[a.o];first|done|rfl,rfl⟩);·by_cases h4:k=4;(·have a:=key K (by simp[ab.bS,h4]);subst h4;clear c key h1 h3;go_enter func119,ntmps119;go_wp2;go_ret;exact⟨by rw[a.o];first|done|rfl,rfl⟩);·by_cases h2:k=2;(·have a:=key vars (by simp[ab.bS,h2]);subst h2;clear c key h1 h3 h4;go_enter func119,ntmps119;go_wp2;go_ret;exact⟨by rw[a.o];first|done|rfl,rfl⟩);·have a:=key D (by simp[ab.bS,h1,h2,h3,h4]);(have f:=ay k 1 (by omega));(have g:=ay k 2 (by omega));(have i:=ay k 3 (by omega));(have j:=ay k 4 (by omega));clear c key h1 h2 h3 h4;go_enter func119,ntmps119;go_wp2;go_ret;exact⟨by rw[a.o];first|done|rfl,rfl⟩
theorem la(k:Nat)(ground:Bool)(w:World):Calls prog 116 #[Y I k,.bool ground] w fun e w'=>e=.returned (.bool (ab.bS (!ground) k))∧w'=w:=by
 obtain⟨d,c⟩:=aa (ab.bS (!ground) k);rw[←c];have key:∀b:Bool,ab.bS (!ground) k=b→W (d=b):=fun b h=>N (by rw[c,h]);by_cases h1:k=1;·have a:=key K (by simp[ab.bS,h1]);subst h1;clear c key;go_enter func116,ntmps116;go_wp2;go_ret;exact⟨by rw[a.o];first|done|rfl,rfl⟩
 ·by_cases h3:k=3;(·have a:=key K (by simp[ab.bS,h3]);subst h3;clear c key h1;go_enter func116,ntmps116;go_wp2;go_ret;exact⟨by rw[a.o];first|done|rfl,rfl⟩);·by_cases h4:k=4;(·have a:=key K (by simp[ab.bS,h4]);subst h4;clear c key h1 h3;go_enter func116,ntmps116;go_wp2;go_ret;exact⟨by rw[a.o];first|done|rfl,rfl⟩);·by_cases h2:k=2;(·have a:=key (!ground) (by simp[ab.bS,h2]);subst h2;clear c key h1 h3 h4;cases ground<;>·go_enter func116,ntmps116;go_wp2;go_ret;exact⟨by rw[a.o];first|done|rfl,rfl⟩);·have a:=key D (by simp[ab.bS,h1,h2,h3,h4]);(have f:=ay k 1 (by omega));(have g:=ay k 2 (by omega));(have i:=ay k 3 (by omega));(have j:=ay k 4 (by omega));clear c key h1 h2 h3 h4;go_enter func116,ntmps116;go_wp2;go_ret;exact⟨by rw[a.o];first|done|rfl,rfl⟩
def cg:Option Nat→Int|some n=>(n:Int)|none=>-1
def e6(st k:Nat):Int:=if st<15 then-1 else cg (ab.step st k D)
theorem BN(k:Nat):e6 20 k=ca (k:Int) 0 99 (-2) 0 (-2) 0:=by
 simp only[e6,ab.step,ca];repeat' split
 all_goals first|rfl|omega|(exfalso;omega)|(simp[cg];done)
theorem BO(k:Nat):e6 30 k=ca (k:Int) 1 31 0 99 (-2) 0:=by
 simp only[e6,ab.step,ca];repeat' split
 all_goals first|rfl|omega|(exfalso;omega)|(simp[cg];done)
theorem BP(k:Nat):e6 31 k=ca (k:Int) 5 32 8 30 (-2) 0:=by
 simp only[e6,ab.step,ca];repeat' split
 all_goals first|rfl|omega|(exfalso;omega)|(simp[cg];done)
theorem BQ(k:Nat):e6 32 k=if ab.bS D k=K then 33 else-1:=by
 simp only[e6,ab.step];repeat' split
 all_goals first|rfl|omega|(simp[cg];done)
theorem BR(k:Nat):e6 42 k=if ab.bS D k=K then 43 else-1:=by
 simp only[e6,ab.step];repeat' split
 all_goals first|rfl|omega|(simp[cg];done)
theorem BS(k:Nat):e6 33 k=ca (k:Int) 7 32 6 34 (-2) 0:=by
 simp only[e6,ab.step,ca];repeat' split
 all_goals first|rfl|omega|(exfalso;omega)|(simp[cg];done)
theorem BU(k:Nat):e6 34 k=ca (k:Int) 8 30 (-2) 0 (-2) 0:=by
 simp only[e6,ab.step,ca];repeat' split
 all_goals first|rfl|omega|(exfalso;omega)|(simp[cg];done)
theorem BV(k:Nat):e6 40 k=ca (k:Int) 1 41 (-2) 0 (-2) 0:=by
 simp only[e6,ab.step,ca];repeat' split
 all_goals first|rfl|omega|(exfalso;omega)|(simp[cg];done)
theorem BW(k:Nat):e6 41 k=ca (k:Int) 5 42 0 99 (-2) 0:=by
 simp only[e6,ab.step,ca];repeat' split
 all_goals first|rfl|omega|(exfalso;omega)|(simp[cg];done)
theorem BX(k:Nat):e6 43 k=ca (k:Int) 7 42 6 44 (-2) 0:=by
 simp only[e6,ab.step,ca];repeat' split
 all_goals first|rfl|omega|(exfalso;omega)|(simp[cg];done)
theorem BY(k:Nat):e6 44 k=ca (k:Int) 0 99 (-2) 0 (-2) 0:=by
 simp only[e6,ab.step,ca];repeat' split
 all_goals first|rfl|omega|(exfalso;omega)|(simp[cg];done)
theorem ve(st k:Nat)(w:World):Calls prog 117 #[Y I st,Y I k] w fun e w'=>e=.returned (Y I (e6 st k))∧w'=w:=by
 obtain⟨d,b⟩:=aa (e6 st k);rw[←b];by_cases h20:st=20;·subst h20;have a:=N (b.trans (BN k));clear b;go_enter func117,ntmps117;go_wp2_with fail;refine(ep (k:Int) 0 99 (-2) 0 (-2) 0 w).mono ?_;rintro e w'⟨rfl,rfl⟩;rw[←a.o];go_wp2;go_ret;exact⟨rfl,rfl⟩
 by_cases h30:st=30;·subst h30;have a:=N (b.trans (BO k));clear b;go_enter func117,ntmps117;go_wp2_with fail;refine(ep (k:Int) 1 31 0 99 (-2) 0 w).mono ?_;rintro e w'⟨rfl,rfl⟩;rw[←a.o];go_wp2;go_ret;exact⟨rfl,rfl⟩
 by_cases h31:st=31;·subst h31;have a:=N (b.trans (BP k));clear b;go_enter func117,ntmps117;go_wp2_with fail;refine(ep (k:Int) 5 32 8 30 (-2) 0 w).mono ?_;rintro e w'⟨rfl,rfl⟩;rw[←a.o];go_wp2;go_ret;exact⟨rfl,rfl⟩
 by_cases h32:st=32;·subst h32;have a:=N (b.trans (BQ k));clear b;go_enter func117,ntmps117;go_wp2_with fail;refine(la k K w).mono ?_;rintro e w'⟨rfl,rfl⟩;rw[show(!K)=D from rfl];cases ae:ab.bS D k with|true=>have c:=N (show d=33 by rw[a.o,if_pos ae]);clear ae a;go_wp2;go_ret;(exact⟨by rw[c.o];first|done|rfl,rfl⟩)|false=>have c:=N (show d=-1 by rw[a.o,if_neg (by rw[ae];simp)]);clear ae a;go_wp2;go_ret;exact⟨by rw[c.o];first|done|rfl,rfl⟩
 by_cases h42:st=42;·subst h42;have a:=N (b.trans (BR k));clear b;go_enter func117,ntmps117;go_wp2_with fail;refine(la k K w).mono ?_;rintro e w'⟨rfl,rfl⟩;rw[show(!K)=D from rfl];cases ae:ab.bS D k with|true=>have c:=N (show d=43 by rw[a.o,if_pos ae]);clear ae a;go_wp2;go_ret;(exact⟨by rw[c.o];first|done|rfl,rfl⟩)|false=>have c:=N (show d=-1 by rw[a.o,if_neg (by rw[ae];simp)]);clear ae a;go_wp2;go_ret;exact⟨by rw[c.o];first|done|rfl,rfl⟩
 by_cases h33:st=33;·subst h33;have a:=N (b.trans (BS k));clear b;go_enter func117,ntmps117;go_wp2_with fail;refine(ep (k:Int) 7 32 6 34 (-2) 0 w).mono ?_;rintro e w'⟨rfl,rfl⟩;rw[←a.o];go_wp2;go_ret;exact⟨rfl,rfl⟩
 by_cases h34:st=34;·subst h34;have a:=N (b.trans (BU k));clear b;go_enter func117,ntmps117;go_wp2_with fail;refine(ep (k:Int) 8 30 (-2) 0 (-2) 0 w).mono ?_;rintro e w'⟨rfl,rfl⟩;rw[←a.o];go_wp2;go_ret;exact⟨rfl,rfl⟩
 by_cases h40:st=40;·subst h40;have a:=N (b.trans (BV k));clear b;go_enter func117,ntmps117;go_wp2_with fail;refine(ep (k:Int) 1 41 (-2) 0 (-2) 0 w).mono ?_;rintro e w'⟨rfl,rfl⟩;rw[←a.o];go_wp2;go_ret;exact⟨rfl,rfl⟩
 by_cases h41:st=41;·subst h41;have a:=N (b.trans (BW k));clear b;go_enter func117,ntmps117;go_wp2_with fail;refine(ep (k:Int) 5 42 0 99 (-2) 0 w).mono ?_;rintro e w'⟨rfl,rfl⟩;rw[←a.o];go_wp2;go_ret;exact⟨rfl,rfl⟩
 by_cases h43:st=43;·subst h43;have a:=N (b.trans (BX k));clear b;go_enter func117,ntmps117;go_wp2_with fail;refine(ep (k:Int) 7 42 6 44 (-2) 0 w).mono ?_;rintro e w'⟨rfl,rfl⟩;rw[←a.o];go_wp2;go_ret;exact⟨rfl,rfl⟩
 by_cases h44:st=44;·subst h44;have a:=N (b.trans (BY k));clear b;go_enter func117,ntmps117;go_wp2_with fail;refine(ep (k:Int) 0 99 (-2) 0 (-2) 0 w).mono ?_;rintro e w'⟨rfl,rfl⟩;rw[←a.o];go_wp2;go_ret;exact⟨rfl,rfl⟩
 have a:=N (show d=-1 by rw[b];unfold e6 ab.step;split;(·rfl);·split<;>first|omega|rfl);have f:=ay st 20 (by omega)
 have g:=ay st 30 (by omega)
 have h:=ay st 31 (by omega)
 have i:=ay st 32 (by omega)
 have p:=ay st 42 (by omega)
 have j:=ay st 33 (by omega)
 have l:=ay st 34 (by omega)
 have m:=ay st 40 (by omega)
 have n:=ay st 41 (by omega)
 have q:=ay st 43 (by omega)
 have r:=ay st 44 (by omega)
 clear b h20 h30 h31 h32 h42 h33 h34 h40 h41 h43 h44;go_enter func117,ntmps117;go_wp2;go_ret;exact⟨by rw[a.o];first|done|rfl,rfl⟩
def cd(st k:Nat)(q:Bool):Int:=cg (ab.step st k q)
theorem vf{st k:Nat}{q:Bool}(h:15≤st):cd st k q=e6 st k:=by
 unfold cd e6;rw[if_neg (by omega)];unfold ab.step;split<;>first|rfl|omega
theorem BZ(k:Nat):cd 0 k K=ca (k:Int) 1 1 0 99 (-2) 0:=by
 simp only[cd,ab.step,ca];repeat' split
 all_goals first|rfl|omega|(exfalso;omega)|(simp[cg];done)|(simp_all[cg];done)
theorem B0(k:Nat):cd 1 k K=ca (k:Int) 5 2 8 0 9 5:=by
 simp only[cd,ab.step,ca];repeat' split
 all_goals first|rfl|omega|(exfalso;omega)|(simp[cg];done)|(simp_all[cg];done)
theorem B1(k:Nat):cd 2 k K=if ab.bS K k=K then 3 else-1:=by
 simp only[cd,ab.step];repeat' split
 all_goals first|rfl|omega|(simp[cg];done)
theorem B2(k:Nat):cd 7 k K=if ab.bS K k=K then 8 else-1:=by
 simp only[cd,ab.step];repeat' split
 all_goals first|rfl|omega|(simp[cg];done)
theorem B3(k:Nat):cd 3 k K=ca (k:Int) 7 2 6 4 (-2) 0:=by
 simp only[cd,ab.step,ca];repeat' split
 all_goals first|rfl|omega|(exfalso;omega)|(simp[cg];done)|(simp_all[cg];done)
theorem B4(k:Nat):cd 4 k K=ca (k:Int) 8 0 9 5 (-2) 0:=by
 simp only[cd,ab.step,ca];repeat' split
 all_goals first|rfl|omega|(exfalso;omega)|(simp[cg];done)|(simp_all[cg];done)
theorem B5(k:Nat):cd 5 k K=if k=2∨k=3∨k=4 then 12 else ca (k:Int) 1 6 10 10 (-2) 0:=by
 simp only[cd,ab.step,ca];repeat' split
 all_goals first|rfl|omega|(exfalso;omega)|(simp[cg];done)
theorem B6(k:Nat):cd 6 k K=if k=11 then 13 else ca (k:Int) 5 7 7 5 8 20:=by
 simp only[cd,ab.step,ca];repeat' split
 all_goals first|rfl|omega|(exfalso;omega)|(simp[cg];done)|(simp_all[cg];done)
theorem B7(k:Nat):cd 8 k K=ca (k:Int) 7 7 6 9 (-2) 0:=by
 simp only[cd,ab.step,ca];repeat' split
 all_goals first|rfl|omega|(exfalso;omega)|(simp[cg];done)|(simp_all[cg];done)
theorem B8(k:Nat):cd 9 k K=ca (k:Int) 7 5 8 20 (-2) 0:=by
 simp only[cd,ab.step,ca];repeat' split
 all_goals first|rfl|omega|(exfalso;omega)|(simp[cg];done)|(simp_all[cg];done)
theorem B9(k:Nat):cd 14 k K=ca (k:Int) 7 5 8 20 (-2) 0:=by
 simp only[cd,ab.step,ca];repeat' split
 all_goals first|rfl|omega|(exfalso;omega)|(simp[cg];done)|(simp_all[cg];done)
theorem B'(k:Nat):cd 10 k K=ca (k:Int) 1 11 (-2) 0 (-2) 0:=by
 simp only[cd,ab.step,ca];repeat' split
 all_goals first|rfl|omega|(exfalso;omega)|(simp[cg];done)|(simp_all[cg];done)
theorem Ca(k:Nat):cd 11 k K=ca (k:Int) 5 7 7 5 8 20:=by
 simp only[cd,ab.step,ca];repeat' split
 all_goals first|rfl|omega|(exfalso;omega)|(simp[cg];done)|(simp_all[cg];done)
theorem Cb(k:Nat):cd 12 k K=ca (k:Int) 11 13 (-2) 0 (-2) 0:=by
 simp only[cd,ab.step,ca];repeat' split
 all_goals first|rfl|omega|(exfalso;omega)|(simp[cg];done)|(simp_all[cg];done)
theorem Cc(k:Nat):cd 13 k K=if ab.bS K k=K then 14 else-1:=by
 simp only[cd,ab.step];repeat' split
 all_goals first|rfl|omega|(simp[cg];done)
theorem Cd(k:Nat):cd 0 k D=ca (k:Int) 1 1 0 99 (-2) 0:=by
 simp only[cd,ab.step,ca];repeat' split
 all_goals first|rfl|omega|(exfalso;omega)|(simp[cg];done)|(simp_all[cg];done)
theorem Ce(k:Nat):cd 1 k D=ca (k:Int) 5 2 8 0 9 5:=by
 simp only[cd,ab.step,ca];repeat' split
 all_goals first|rfl|omega|(exfalso;omega)|(simp[cg];done)|(simp_all[cg];done)
theorem Cf(k:Nat):cd 2 k D=if ab.bS K k=K then 3 else-1:=by
 simp only[cd,ab.step];repeat' split
 all_goals first|rfl|omega|(simp[cg];done)
theorem Cg(k:Nat):cd 7 k D=if ab.bS K k=K then 8 else-1:=by
 simp only[cd,ab.step];repeat' split
 all_goals first|rfl|omega|(simp[cg];done)
theorem Ch(k:Nat):cd 3 k D=ca (k:Int) 7 2 6 4 (-2) 0:=by
 simp only[cd,ab.step,ca];repeat' split
 all_goals first|rfl|omega|(exfalso;omega)|(simp[cg];done)|(simp_all[cg];done)
theorem Ci(k:Nat):cd 4 k D=ca (k:Int) 8 0 9 5 (-2) 0:=by
 simp only[cd,ab.step,ca];repeat' split
 all_goals first|rfl|omega|(exfalso;omega)|(simp[cg];done)|(simp_all[cg];done)
theorem Cj(k:Nat):cd 5 k D=if k=2∨k=3∨k=4 then 12 else ca (k:Int) 1 6 10 10 (-2) 0:=by
 simp only[cd,ab.step,ca];repeat' split
 all_goals first|rfl|omega|(exfalso;omega)|(simp[cg];done)
theorem Ck(k:Nat):cd 6 k D=if k=11 then 13 else ca (k:Int) 5 7 7 5 8 0:=by
 simp only[cd,ab.step,ca];repeat' split
 all_goals first|rfl|omega|(exfalso;omega)|(simp[cg];done)|(simp_all[cg];done)
theorem Cl(k:Nat):cd 8 k D=ca (k:Int) 7 7 6 9 (-2) 0:=by
 simp only[cd,ab.step,ca];repeat' split
 all_goals first|rfl|omega|(exfalso;omega)|(simp[cg];done)|(simp_all[cg];done)
theorem Cm(k:Nat):cd 9 k D=ca (k:Int) 7 5 8 0 (-2) 0:=by
 simp only[cd,ab.step,ca];repeat' split
 all_goals first|rfl|omega|(exfalso;omega)|(simp[cg];done)|(simp_all[cg];done)
theorem Cn(k:Nat):cd 14 k D=ca (k:Int) 7 5 8 0 (-2) 0:=by
 simp only[cd,ab.step,ca];repeat' split
 all_goals first|rfl|omega|(exfalso;omega)|(simp[cg];done)|(simp_all[cg];done)
theorem Co(k:Nat):cd 10 k D=ca (k:Int) 1 11 (-2) 0 (-2) 0:=by
 simp only[cd,ab.step,ca];repeat' split
 all_goals first|rfl|omega|(exfalso;omega)|(simp[cg];done)|(simp_all[cg];done)
theorem Cp(k:Nat):cd 11 k D=ca (k:Int) 5 7 7 5 8 0:=by
 simp only[cd,ab.step,ca];repeat' split
 all_goals first|rfl|omega|(exfalso;omega)|(simp[cg];done)|(simp_all[cg];done)
theorem Cq(k:Nat):cd 12 k D=ca (k:Int) 11 13 (-2) 0 (-2) 0:=by
 simp only[cd,ab.step,ca];repeat' split
 all_goals first|rfl|omega|(exfalso;omega)|(simp[cg];done)|(simp_all[cg];done)
theorem Cr(k:Nat):cd 13 k D=if ab.bS K k=K then 14 else-1:=by
 simp only[cd,ab.step];repeat' split
 all_goals first|rfl|omega|(simp[cg];done)
theorem Cs(st k mode:Nat)(w:World)(C:((mode:Int)==2)=K):Calls prog 92 #[Y I st,Y I k,Y I mode] w fun e w'=>e=.returned (Y I (cd st k K))∧w'=w:=by
 obtain⟨f,c⟩:=aa (cd st k K);rw[←c];by_cases h0:st=0;·subst h0;have a:=N (c.trans (BZ k));clear c;have b:=a;go_enter func92,ntmps92;go_wp2_with fail;refine(ep (k:Int) 1 1 0 99 (-2) 0 w).mono ?_;rintro e w'⟨rfl,rfl⟩;rw[←b.o];go_wp2;go_ret;exact⟨rfl,rfl⟩
 by_cases h1:st=1;·subst h1;have a:=N (c.trans (B0 k));clear c;have b:=a;go_enter func92,ntmps92;go_wp2_with fail;refine(ep (k:Int) 5 2 8 0 9 5 w).mono ?_;rintro e w'⟨rfl,rfl⟩;rw[←b.o];go_wp2;go_ret;exact⟨rfl,rfl⟩
 by_cases h2:st=2;·subst h2;have a:=N (c.trans (B1 k));clear c;go_enter func92,ntmps92;go_wp2_with fail;refine(la k D w).mono ?_;rintro e w'⟨rfl,rfl⟩;rw[show(!D)=K from rfl];cases ae:ab.bS K k with|true=>have d:=N (show f=3 by rw[a.o,if_pos ae]);clear ae a;go_wp2;go_ret;(exact⟨by rw[d.o];first|done|rfl,rfl⟩)|false=>have d:=N (show f=-1 by rw[a.o,if_neg (by rw[ae];simp)]);clear ae a;go_wp2;go_ret;exact⟨by rw[d.o];first|done|rfl,rfl⟩
 by_cases h7:st=7;·subst h7;have a:=N (c.trans (B2 k));clear c;go_enter func92,ntmps92;go_wp2_with fail;refine(la k D w).mono ?_;rintro e w'⟨rfl,rfl⟩;rw[show(!D)=K from rfl];cases ae:ab.bS K k with|true=>have d:=N (show f=8 by rw[a.o,if_pos ae]);clear ae a;go_wp2;go_ret;(exact⟨by rw[d.o];first|done|rfl,rfl⟩)|false=>have d:=N (show f=-1 by rw[a.o,if_neg (by rw[ae];simp)]);clear ae a;go_wp2;go_ret;exact⟨by rw[d.o];first|done|rfl,rfl⟩
 by_cases h3:st=3;·subst h3;have a:=N (c.trans (B3 k));clear c;have b:=a;go_enter func92,ntmps92;go_wp2_with fail;refine(ep (k:Int) 7 2 6 4 (-2) 0 w).mono ?_;rintro e w'⟨rfl,rfl⟩;rw[←b.o];go_wp2;go_ret;exact⟨rfl,rfl⟩
 by_cases h4:st=4;·subst h4;have a:=N (c.trans (B4 k));clear c;have b:=a;go_enter func92,ntmps92;go_wp2_with fail;refine(ep (k:Int) 8 0 9 5 (-2) 0 w).mono ?_;rintro e w'⟨rfl,rfl⟩;rw[←b.o];go_wp2;go_ret;exact⟨rfl,rfl⟩
 by_cases h5:st=5;·subst h5;have a:=N (c.trans (B5 k));clear c;by_cases g:k=2;(·have b:=N (show f=12 by rw[a.o,if_pos (by omega)]);subst g;go_enter func92,ntmps92;go_wp2;go_ret;exact⟨by rw[b.o];first|done|rfl,rfl⟩);·by_cases i:k=3;(·have b:=N (show f=12 by rw[a.o,if_pos (by omega)]);subst i;go_enter func92,ntmps92;go_wp2;go_ret;exact⟨by rw[b.o];first|done|rfl,rfl⟩);·by_cases j:k=4;(·have b:=N (show f=12 by rw[a.o,if_pos (by omega)]);subst j;go_enter func92,ntmps92;go_wp2;go_ret;exact⟨by rw[b.o];first|done|rfl,rfl⟩);·have b:=N (a.o.trans (if_neg (by omega)));(have h:=ay k 2 (by omega));(have l:=ay k 3 (by omega));(have m:=ay k 4 (by omega));clear g i j;go_enter func92,ntmps92;go_wp2_with fail;refine(ep (k:Int) 1 6 10 10 (-2) 0 w).mono ?_;rintro e w'⟨rfl,rfl⟩;rw[←b.o];go_wp2;go_ret;exact⟨rfl,rfl⟩
 by_cases h6:st=6;·subst h6;have a:=N (c.trans (B6 k));clear c;by_cases g:k=11;(·have b:=N (show f=13 by rw[a.o,if_pos g]);subst g;go_enter func92,ntmps92;go_wp2;go_ret;exact⟨by rw[b.o];first|done|rfl,rfl⟩);·have b:=N (a.o.trans (if_neg g));(have h:=ay k 11 (by omega));clear g;go_enter func92,ntmps92;go_wp2_with fail;refine(ep (k:Int) 5 7 7 5 8 20 w).mono ?_;rintro e w'⟨rfl,rfl⟩;rw[←b.o];go_wp2;go_ret;exact⟨rfl,rfl⟩
 by_cases h8:st=8;·subst h8;have a:=N (c.trans (B7 k));clear c;have b:=a;go_enter func92,ntmps92;go_wp2_with fail;refine(ep (k:Int) 7 7 6 9 (-2) 0 w).mono ?_;rintro e w'⟨rfl,rfl⟩;rw[←b.o];go_wp2;go_ret;exact⟨rfl,rfl⟩
 by_cases h9:st=9;·subst h9;have a:=N (c.trans (B8 k));clear c;have b:=a;go_enter func92,ntmps92;go_wp2_with fail;refine(ep (k:Int) 7 5 8 20 (-2) 0 w).mono ?_;rintro e w'⟨rfl,rfl⟩;rw[←b.o];go_wp2;go_ret;exact⟨rfl,rfl⟩
 by_cases h14:st=14;·subst h14;have a:=N (c.trans (B9 k));clear c;have b:=a;go_enter func92,ntmps92;go_wp2_with fail;refine(ep (k:Int) 7 5 8 20 (-2) 0 w).mono ?_;rintro e w'⟨rfl,rfl⟩;rw[←b.o];go_wp2;go_ret;exact⟨rfl,rfl⟩
 by_cases h10:st=10;·subst h10;have a:=N (c.trans (B' k));clear c;have b:=a;go_enter func92,ntmps92;go_wp2_with fail;refine(ep (k:Int) 1 11 (-2) 0 (-2) 0 w).mono ?_;rintro e w'⟨rfl,rfl⟩;rw[←b.o];go_wp2;go_ret;exact⟨rfl,rfl⟩
 by_cases h11:st=11;·subst h11;have a:=N (c.trans (Ca k));clear c;have b:=a;go_enter func92,ntmps92;go_wp2_with fail;refine(ep (k:Int) 5 7 7 5 8 20 w).mono ?_;rintro e w'⟨rfl,rfl⟩;rw[←b.o];go_wp2;go_ret;exact⟨rfl,rfl⟩
 by_cases h12:st=12;·subst h12;have a:=N (c.trans (Cb k));clear c;have b:=a;go_enter func92,ntmps92;go_wp2_with fail;refine(ep (k:Int) 11 13 (-2) 0 (-2) 0 w).mono ?_;rintro e w'⟨rfl,rfl⟩;rw[←b.o];go_wp2;go_ret;exact⟨rfl,rfl⟩
 by_cases h13:st=13;·subst h13;have a:=N (c.trans (Cc k));clear c;go_enter func92,ntmps92;go_wp2_with fail;refine(la k D w).mono ?_;rintro e w'⟨rfl,rfl⟩;rw[show(!D)=K from rfl];cases ae:ab.bS K k with|true=>have d:=N (show f=14 by rw[a.o,if_pos ae]);clear ae a;go_wp2;go_ret;(exact⟨by rw[d.o];first|done|rfl,rfl⟩)|false=>have d:=N (show f=-1 by rw[a.o,if_neg (by rw[ae];simp)]);clear ae a;go_wp2;go_ret;exact⟨by rw[d.o];first|done|rfl,rfl⟩
 have n:=ay st 0 (by omega)
 have p:=ay st 1 (by omega)
 have h:=ay st 2 (by omega)
 have y:=ay st 7 (by omega)
 have l:=ay st 3 (by omega)
 have m:=ay st 4 (by omega)
 have v:=ay st 5 (by omega)
 have x:=ay st 6 (by omega)
 have z:=ay st 8 (by omega)
 have B:=ay st 9 (by omega)
 have u:=ay st 14 (by omega)
 have q:=ay st 10 (by omega)
 have r:=ay st 11 (by omega)
 have s:=ay st 12 (by omega)
 have t:=ay st 13 (by omega)
 have b:=N (c.trans (vf (by omega)));clear c h0 h1 h2 h7 h3 h4 h5 h6 h8 h9 h14 h10 h11 h12 h13;go_enter func92,ntmps92;go_wp2_with fail;refine(ve st k w).mono ?_;rintro e w'⟨rfl,rfl⟩;rw[←b.o];go_wp2;go_ret;exact⟨rfl,rfl⟩
theorem Ct(st k mode:Nat)(w:World)(C:((mode:Int)==2)=D):Calls prog 92 #[Y I st,Y I k,Y I mode] w fun e w'=>e=.returned (Y I (cd st k D))∧w'=w:=by
 obtain⟨f,c⟩:=aa (cd st k D);rw[←c];by_cases h0:st=0;·subst h0;have a:=N (c.trans (Cd k));clear c;have b:=a;go_enter func92,ntmps92;go_wp2_with fail;refine(ep (k:Int) 1 1 0 99 (-2) 0 w).mono ?_;rintro e w'⟨rfl,rfl⟩;rw[←b.o];go_wp2;go_ret;exact⟨rfl,rfl⟩
 by_cases h1:st=1;·subst h1;have a:=N (c.trans (Ce k));clear c;have b:=a;go_enter func92,ntmps92;go_wp2_with fail;refine(ep (k:Int) 5 2 8 0 9 5 w).mono ?_;rintro e w'⟨rfl,rfl⟩;rw[←b.o];go_wp2;go_ret;exact⟨rfl,rfl⟩
 by_cases h2:st=2;·subst h2;have a:=N (c.trans (Cf k));clear c;go_enter func92,ntmps92;go_wp2_with fail;refine(la k D w).mono ?_;rintro e w'⟨rfl,rfl⟩;rw[show(!D)=K from rfl];cases ae:ab.bS K k with|true=>have d:=N (show f=3 by rw[a.o,if_pos ae]);clear ae a;go_wp2;go_ret;(exact⟨by rw[d.o];first|done|rfl,rfl⟩)|false=>have d:=N (show f=-1 by rw[a.o,if_neg (by rw[ae];simp)]);clear ae a;go_wp2;go_ret;exact⟨by rw[d.o];first|done|rfl,rfl⟩
 by_cases h7:st=7;·subst h7;have a:=N (c.trans (Cg k));clear c;go_enter func92,ntmps92;go_wp2_with fail;refine(la k D w).mono ?_;rintro e w'⟨rfl,rfl⟩;rw[show(!D)=K from rfl];cases ae:ab.bS K k with|true=>have d:=N (show f=8 by rw[a.o,if_pos ae]);clear ae a;go_wp2;go_ret;(exact⟨by rw[d.o];first|done|rfl,rfl⟩)|false=>have d:=N (show f=-1 by rw[a.o,if_neg (by rw[ae];simp)]);clear ae a;go_wp2;go_ret;exact⟨by rw[d.o];first|done|rfl,rfl⟩
 by_cases h3:st=3;·subst h3;have a:=N (c.trans (Ch k));clear c;have b:=a;go_enter func92,ntmps92;go_wp2_with fail;refine(ep (k:Int) 7 2 6 4 (-2) 0 w).mono ?_;rintro e w'⟨rfl,rfl⟩;rw[←b.o];go_wp2;go_ret;exact⟨rfl,rfl⟩
 by_cases h4:st=4;·subst h4;have a:=N (c.trans (Ci k));clear c;have b:=a;go_enter func92,ntmps92;go_wp2_with fail;refine(ep (k:Int) 8 0 9 5 (-2) 0 w).mono ?_;rintro e w'⟨rfl,rfl⟩;rw[←b.o];go_wp2;go_ret;exact⟨rfl,rfl⟩
 by_cases h5:st=5;·subst h5;have a:=N (c.trans (Cj k));clear c;by_cases g:k=2;(·have b:=N (show f=12 by rw[a.o,if_pos (by omega)]);subst g;go_enter func92,ntmps92;go_wp2;go_ret;exact⟨by rw[b.o];first|done|rfl,rfl⟩);·by_cases i:k=3;(·have b:=N (show f=12 by rw[a.o,if_pos (by omega)]);subst i;go_enter func92,ntmps92;go_wp2;go_ret;exact⟨by rw[b.o];first|done|rfl,rfl⟩);·by_cases j:k=4;(·have b:=N (show f=12 by rw[a.o,if_pos (by omega)]);subst j;go_enter func92,ntmps92;go_wp2;go_ret;exact⟨by rw[b.o];first|done|rfl,rfl⟩);·have b:=N (a.o.trans (if_neg (by omega)));(have h:=ay k 2 (by omega));(have l:=ay k 3 (by omega));(have m:=ay k 4 (by omega));clear g i j;go_enter func92,ntmps92;go_wp2_with fail;refine(ep (k:Int) 1 6 10 10 (-2) 0 w).mono ?_;rintro e w'⟨rfl,rfl⟩;rw[←b.o];go_wp2;go_ret;exact⟨rfl,rfl⟩
 by_cases h6:st=6;·subst h6;have a:=N (c.trans (Ck k));clear c;by_cases g:k=11;(·have b:=N (show f=13 by rw[a.o,if_pos g]);subst g;go_enter func92,ntmps92;go_wp2;go_ret;exact⟨by rw[b.o];first|done|rfl,rfl⟩);·have b:=N (a.o.trans (if_neg g));(have h:=ay k 11 (by omega));clear g;go_enter func92,ntmps92;go_wp2_with fail;refine(ep (k:Int) 5 7 7 5 8 0 w).mono ?_;rintro e w'⟨rfl,rfl⟩;rw[←b.o];go_wp2;go_ret;exact⟨rfl,rfl⟩
 by_cases h8:st=8;·subst h8;have a:=N (c.trans (Cl k));clear c;have b:=a;go_enter func92,ntmps92;go_wp2_with fail;refine(ep (k:Int) 7 7 6 9 (-2) 0 w).mono ?_;rintro e w'⟨rfl,rfl⟩;rw[←b.o];go_wp2;go_ret;exact⟨rfl,rfl⟩
 by_cases h9:st=9;·subst h9;have a:=N (c.trans (Cm k));clear c;have b:=a;go_enter func92,ntmps92;go_wp2_with fail;refine(ep (k:Int) 7 5 8 0 (-2) 0 w).mono ?_;rintro e w'⟨rfl,rfl⟩;rw[←b.o];go_wp2;go_ret;exact⟨rfl,rfl⟩
 by_cases h14:st=14;·subst h14;have a:=N (c.trans (Cn k));clear c;have b:=a;go_enter func92,ntmps92;go_wp2_with fail;refine(ep (k:Int) 7 5 8 0 (-2) 0 w).mono ?_;rintro e w'⟨rfl,rfl⟩;rw[←b.o];go_wp2;go_ret;exact⟨rfl,rfl⟩
 by_cases h10:st=10;·subst h10;have a:=N (c.trans (Co k));clear c;have b:=a;go_enter func92,ntmps92;go_wp2_with fail;refine(ep (k:Int) 1 11 (-2) 0 (-2) 0 w).mono ?_;rintro e w'⟨rfl,rfl⟩;rw[←b.o];go_wp2;go_ret;exact⟨rfl,rfl⟩
 by_cases h11:st=11;·subst h11;have a:=N (c.trans (Cp k));clear c;have b:=a;go_enter func92,ntmps92;go_wp2_with fail;refine(ep (k:Int) 5 7 7 5 8 0 w).mono ?_;rintro e w'⟨rfl,rfl⟩;rw[←b.o];go_wp2;go_ret;exact⟨rfl,rfl⟩
 by_cases h12:st=12;·subst h12;have a:=N (c.trans (Cq k));clear c;have b:=a;go_enter func92,ntmps92;go_wp2_with fail;refine(ep (k:Int) 11 13 (-2) 0 (-2) 0 w).mono ?_;rintro e w'⟨rfl,rfl⟩;rw[←b.o];go_wp2;go_ret;exact⟨rfl,rfl⟩
 by_cases h13:st=13;·subst h13;have a:=N (c.trans (Cr k));clear c;go_enter func92,ntmps92;go_wp2_with fail;refine(la k D w).mono ?_;rintro e w'⟨rfl,rfl⟩;rw[show(!D)=K from rfl];cases ae:ab.bS K k with|true=>have d:=N (show f=14 by rw[a.o,if_pos ae]);clear ae a;go_wp2;go_ret;(exact⟨by rw[d.o];first|done|rfl,rfl⟩)|false=>have d:=N (show f=-1 by rw[a.o,if_neg (by rw[ae];simp)]);clear ae a;go_wp2;go_ret;exact⟨by rw[d.o];first|done|rfl,rfl⟩
 have n:=ay st 0 (by omega)
 have p:=ay st 1 (by omega)
 have h:=ay st 2 (by omega)
 have y:=ay st 7 (by omega)
 have l:=ay st 3 (by omega)
 have m:=ay st 4 (by omega)
 have v:=ay st 5 (by omega)
 have x:=ay st 6 (by omega)
 have z:=ay st 8 (by omega)
 have B:=ay st 9 (by omega)
 have u:=ay st 14 (by omega)
 have q:=ay st 10 (by omega)
 have r:=ay st 11 (by omega)
 have s:=ay st 12 (by omega)
 have t:=ay st 13 (by omega)
 have b:=N (c.trans (vf (by omega)));clear c h0 h1 h2 h7 h3 h4 h5 h6 h8 h9 h14 h10 h11 h12 h13;go_enter func92,ntmps92;go_wp2_with fail;refine(ve st k w).mono ?_;rintro e w'⟨rfl,rfl⟩;rw[←b.o];go_wp2;go_ret;exact⟨rfl,rfl⟩
def n0(m:Int):Int:=if m=1 then 30 else if m=2 then 5 else if m=3 then 40 else 0
theorem Cu(m:Int)(w:World):Calls prog 91 #[Y I m] w fun e w'=>e=.returned (Y I (n0 m))∧w'=w:=by
 by_cases h1:m=1;·subst h1;go_enter func91,ntmps91;go_wp2;go_ret;exact⟨rfl,rfl⟩
 ·by_cases h2:m=2;(·subst h2;go_enter func91,ntmps91;go_wp2;go_ret;exact⟨rfl,rfl⟩);·by_cases h3:m=3;(·subst h3;go_enter func91,ntmps91;go_wp2;go_ret;exact⟨rfl,rfl⟩);·have a:=N (show n0 m=0 by unfold n0;rw[if_neg h1,if_neg h2,if_neg h3]);(have b:(m==1)=D:=by simpa using h1);(have c:(m==2)=D:=by simpa using h2);(have d:(m==3)=D:=by simpa using h3);clear h1 h2 h3;go_enter func91,ntmps91;go_wp2;go_ret;exact⟨by rw[a.o];first|done|rfl,rfl⟩
def kF(k:Nat):Bool:=decide (k=10)||ab.bS K k
theorem vg(k:Nat)(w:World):Calls prog 126 #[Y I k] w fun e w'=>e=.returned (.bool (kF k))∧w'=w:=by
 by_cases h:k=10;·subst h;go_enter func126,ntmps126;go_wp2;go_ret;exact⟨rfl,rfl⟩
 ·have a:=N (show kF k=ab.bS K k by unfold kF;simp[h]);(have b:=ay k 10 (by omega));clear h;go_enter func126,ntmps126;go_wp2_with fail;refine(pt k K w).mono ?_;rintro e w'⟨rfl,rfl⟩;go_wp2;go_ret;exact⟨by rw[a.o];first|done|rfl,rfl⟩
def iR(k:Int):Value:=.agg #[Y I k,A bq,Y I 0,Y I 0,Y I 0,Y I (-1)]
theorem je(k:Int)(w:World):Calls prog 95 #[Y I k] w fun e w'=>e=.returned (iR k)∧Below w.heap.size w w':=by
 go_enter func95,ntmps95;go_wp2;refine bb (bX rfl _ _ w.heap.size 182 #[Y I k,A bq,Y I 0,Y I 0,Y I 0,Y I (-1)] (0,0) _ rfl (bm _ _) underlying182 rfl eO) rfl ?_;exact⟨rfl,bc w _⟩
def vh(kind:Nat)(int:Int)(ai:ByteArray)(off:Nat):Value:=.agg #[Y I kind,Y I int,A ai,Y I off]
def kG(k:Nat):Nat:=if k=1 then 3 else if k=2 then 1 else if k=3 then 4 else 2
theorem pv(w:World)(o p:Obj):((w.alloc o).alloc p).heap[w.heap.size+1]?=O p:=by
 have:=bm (w.alloc o) p;simpa using this
theorem pw(kind:Nat)(int:Int)(ai:ByteArray)(off:Nat)(w:World)(a:kind=1∨kind=2∨kind=3∨kind=4):Calls prog 118 #[vh kind int ai off] w fun e w'=>e=.returned (iw (kG kind) ai int 0 off 0)∧Below w.heap.size w w':=by
 unfold vh;rcases a with rfl|rfl|rfl|rfl;·go_enter func118,ntmps118;go_wp2;refine bb (bX rfl _ _ (w.heap.size+1) 182 #[Y I 3,A ai,Y I int,Y I 0,Y I off,Y I 0] (0,0) _ rfl (pv w _ _) underlying182 rfl eO) rfl ?_;exact⟨rfl,(bc w _).alloc (by simp) _⟩
 ·go_enter func118,ntmps118;go_wp2;refine bb (bX rfl _ _ (w.heap.size+1) 182 #[Y I 1,A ai,Y I int,Y I 0,Y I off,Y I 0] (0,0) _ rfl (pv w _ _) underlying182 rfl eO) rfl ?_;exact⟨rfl,(bc w _).alloc (by simp) _⟩
 ·go_enter func118,ntmps118;go_wp2;refine bb (bX rfl _ _ (w.heap.size+1) 182 #[Y I 4,A ai,Y I int,Y I 0,Y I off,Y I 0] (0,0) _ rfl (pv w _ _) underlying182 rfl eO) rfl ?_;exact⟨rfl,(bc w _).alloc (by simp) _⟩
 ·go_enter func118,ntmps118;go_wp2;refine bb (bX rfl _ _ (w.heap.size+1) 182 #[Y I 2,A ai,Y I int,Y I 0,Y I off,Y I 0] (0,0) _ rfl (pv w _ _) underlying182 rfl eO) rfl ?_;exact⟨rfl,(bc w _).alloc (by simp) _⟩
def ag(T:TypeId→Prop)(w w':World):Prop:=∀(k:Nat)(c:Array Value)(t:TypeId),w.heap[k]?=O (Obj.cells c t (0,0))→T t→w'.heap[k]?=O (Obj.cells c t (0,0))
section
variable{T vi:TypeId→Prop}{w w' an:World}
theorem ag.refl(T:TypeId→Prop)(w:World):ag T w w:=fun _ _ _ h _=>h
theorem ag.trans(h:ag T w w')(k:ag T w' an):ag T w an:=fun i c t e av=>k i c t (h i c t e av) av
theorem ag.kb(h:ag T w w')(a:∀t,vi t→T t):ag vi w w':=fun i c t e av=>h i c t e (a t av)
theorem ag.below(h:Below w.heap.size w w'):ag T w w':=fun k c t e _=>by
 rw[h.block k (aS.1 e).1];exact e
theorem ag.alloc(w:World)(o:Obj):ag T w (w.alloc o):=ag.below (bc w o)
theorem ag.drewN(w:World)(n:Nat):ag T w (w.drewN n):=fun _ _ _ h _=>h
theorem ag.drew(w:World):ag T w w.drew:=fun _ _ _ h _=>h
theorem ag.bZ{X:Nat}{c:Array Value}{t0:TypeId}(h:aR X w w')(dL:w.heap[X]?=O (M c t0 (0,0)))(a:¬T t0):ag T w w':=fun k d t e av=>by
 rw[h.block k (aS.1 e).1 (fun b=>by rw[b,dL]at e;simp at e;exact a (by rw[e.2];exact av))];exact e
theorem ag.set{p:Addr}{c:Array Value}{t0:TypeId}{v:Value}(hp:w.heap[p.block]?=O (M c t0 (0,0)))(a:¬T t0):ag T w (w.setCell p v):=fun k d t e av=>by
 rw[bR _ _ _ _ (fun b=>by rw[b,hp]at e;simp at e;exact a (by rw[e.2];exact av))];exact e
theorem ag.own{B t m n:Nat}{v:Value}{xs:List Value}(h:ag T w w')(b:T t)(e:w.ownsRow B t m v n xs):w'.ownsRow B t m v n xs:=by
 obtain⟨h1,h2⟩:=e;refine⟨h1,?_⟩;rcases h2 with h2|⟨g,cap,a,f,c,d,r⟩;·exact Or.inl h2
 ·exact Or.inr ⟨g,cap,a,f,c,h g a t d b,r⟩
theorem ag.grown{B t m n:Nat}{v:Value}{xs:List Value}(h:w.grownBy w' v.ownBlock)(f:w.ownsRow B t m v n xs)(b:¬T t):ag T w w':=fun k c l e av=>by
 rw[h.block k (aS.1 e).1 (fun a=>by rcases f.2 with⟨rfl,_⟩|⟨g,cap,i,rfl,j,d,r⟩;(·cases a);·simp[Value.ownBlock]at a;rw[a,d]at e;simp at e;exact b (by rw[e.2];exact av))];exact e
theorem vj{X B t m n:Nat}{aA:World}{v:Value}{xs:List Value}(ae:aR X aA w)(h:w.grownBy w' v.ownBlock)(b:w.ownsRow B t m v n xs)(d:aA.heap.size≤B):aR X aA w':=by
 refine⟨h.os.trans ae.os,h.tape.trans ae.tape,h.output.trans ae.output,cp ae.size h.size,fun k a c=>?_⟩;rw[h.block k (fJ a ae.size) (fun e=>?_)];·exact ae.block k a c
 ·have:=(dD b k e.symm).1;omega
end
structure b9(w:World)(X:Nat)(v:Value)(ad:List ax)(a:Nat)(f:ab.a7):Prop where
 row:w.heap[X]?=O (M #[v,Y I a,Y I f.1,Y I 0,Y I f.2] 210)
 own:w.ownsRow 0 182 6 v ad.length (eQ ad)
 le:a≤ad.length
 c':ad.length≤70000
section
variable{w w':World}{X:Nat}{v:Value}{ad:List ax}{a q:Nat}{f:ab.a7}
theorem b9.ah{T:TypeId→Prop}(h:b9 w X v ad a f)(k:ag T w w')(h1:T 210)(h2:T 182):b9 w' X v ad a f:=⟨k X _ _ h.row h1,k.own h2 h.own,h.le,h.c'⟩
theorem b9.below(h:b9 w X v ad a f)(ae:Below w.heap.size w w'):b9 w' X v ad a f:=h.ah (T:=fun _=>True) (ag.below ae) trivial trivial
theorem b9.alloc(h:b9 w X v ad a f)(o:Obj):b9 (w.alloc o) X v ad a f:=h.below (bc w o)
theorem b9.drew(h:b9 w X v ad a f):b9 w.drew X v ad a f:=h.ah (T:=fun _=>True) (ag.drew w) trivial trivial
theorem b9.drewN(h:b9 w X v ad a f)(n:Nat):b9 (w.drewN n) X v ad a f:=h.ah (T:=fun _=>True) (ag.drewN w n) trivial trivial
theorem b9.lt(h:b9 w X v ad a f):X<w.heap.size:=(aS.1 h.row).1
theorem b9.set(h:b9 w X v ad a f)(b:q≤ad.length):b9 (w.setCell ⟨X,1,Z⟩ (Y I q)) X v ad q f:=by
 refine⟨?_,(ag.set (T:=fun t=>t=182) h.row (by decide)).own rfl h.own,b,h.c'⟩;have:=h.row;simp[World.setCell,eE,this]
theorem b9.hn(h:b9 w X v ad a f)(ae:aR X w w')(c:w'.heap[X]?=O (M #[v,Y I q,Y I f.1,Y I 0,Y I f.2] 210))(b:q≤ad.length):b9 w' X v ad q f:=⟨c,(ag.bZ (T:=fun t=>t=182) ae h.row (by decide)).own rfl h.own,b,h.c'⟩
theorem b9.cells(h:b9 w X v ad a f):w.cell? ⟨X,0,Z⟩=O v∧w.cell? ⟨X,1,Z⟩=O (Y I a)∧w.cell? ⟨X,2,Z⟩=O (Y I f.1)∧w.cell? ⟨X,4,Z⟩=O (Y I f.2)∧w.frozen? ⟨X,1,Z⟩=D:=by
 refine⟨?_,?_,?_,?_,?_⟩<;>simp only[World.cell?,World.frozen?,h.row]<;>rfl
theorem b9.slice(h:b9 w X v ad a f):∃b c,v=J b ad.length c:=by
 rcases db h.own with⟨h5,h6⟩|⟨g,cap,h5⟩;·exact⟨Z,0,by rw[h5,h6]⟩
 ·exact⟨_,cap,h5⟩
theorem gf{t:ax}{r:List ax}(h:ad.drop a=t::r):∃c:a<ad.length,ad[a]=t∧ad.drop (a+1)=r:=by
 have c:a<ad.length:=by rcases Nat.lt_or_ge a ad.length with b|b;(·exact b);·rw[fI b]at h;cases h
 rw[kp c]at h;injection h with h1 h2;exact⟨c,h1,h2⟩
theorem b9.tok(h:b9 w X v ad a f){t:ax}{r:List ax}(ar:ad.drop a=t::r):∃g cap,v=J (O ⟨g,0,Z⟩) ad.length cap∧w.cell? ⟨g,a*6,Z⟩=O (Y I t.kind)∧w.cell? ⟨g,a*6+1,Z⟩=O (A ⟨t.ai.toArray⟩)∧w.cell? ⟨g,a*6+2,Z⟩=O (Y I t.int)∧w.cell? ⟨g,a*6+3,Z⟩=O (Y I t.op)∧w.cell? ⟨g,a*6+4,Z⟩=O (Y I t.off)∧w.cell? ⟨g,a*6+5,Z⟩=O (Y I t.fin):=by
 obtain⟨c,h1,_⟩:=gf ar;have b:=h.own;obtain⟨g,cap,rfl⟩:=cM b (by omega);have ak:=lX b c;rw[h1]at ak;exact⟨g,cap,rfl,ak⟩
theorem b9.Cv{g cap n:Nat}(h:b9 w X (J (O ⟨g,0,Z⟩) n cap) ad a f){t:ax}{r:List ax}(ar:ad.drop a=t::r):n=ad.length∧w.cell? ⟨g,a*6,Z⟩=O (Y I t.kind)∧w.cell? ⟨g,a*6+1,Z⟩=O (A ⟨t.ai.toArray⟩)∧w.cell? ⟨g,a*6+2,Z⟩=O (Y I t.int)∧w.cell? ⟨g,a*6+3,Z⟩=O (Y I t.op)∧w.cell? ⟨g,a*6+4,Z⟩=O (Y I t.off)∧w.cell? ⟨g,a*6+5,Z⟩=O (Y I t.fin):=by
 obtain⟨j,d,e,ak⟩:=h.tok ar;injection e with b c i;injection b with b;injection b with b;subst b;exact⟨c,ak⟩
end
theorem q5{w:World}{R:Nat}{x0 x1 x2 x3 x4 x5 u0 u1 u2 u3 u4 u5:Value}(h:w.heap[R]?=O (M #[u0,u1,u2,u3,u4,u5] 182)):((((((w.setCell ⟨R,0,Z⟩ x0).setCell ⟨R,1,Z⟩ x1).setCell ⟨R,2,Z⟩ x2).setCell ⟨R,3,Z⟩ x3).setCell ⟨R,4,Z⟩ x4).setCell ⟨R,5,Z⟩ x5).heap[R]?=O (M #[x0,x1,x2,x3,x4,x5] 182):=by
 simp[World.setCell,eE,h]
theorem vk{aA w:World}{B R:Nat}{x0 x1 x2 x3 x4 x5:Value}(h:Below B aA w)(a:B≤R):Below B aA ((((((w.setCell ⟨R,0,Z⟩ x0).setCell ⟨R,1,Z⟩ x1).setCell ⟨R,2,Z⟩ x2).setCell ⟨R,3,Z⟩ x3).setCell ⟨R,4,Z⟩ x4).setCell ⟨R,5,Z⟩ x5):=(((((h.setCell a _).setCell a _).setCell a _).setCell a _).setCell a _).setCell a _
theorem Cw{aA w:World}{X R:Nat}{x0 x1 x2 x3 x4 x5:Value}(h:aR X aA w)(a:aA.heap.size≤R):aR X aA ((((((w.setCell ⟨R,0,Z⟩ x0).setCell ⟨R,1,Z⟩ x1).setCell ⟨R,2,Z⟩ x2).setCell ⟨R,3,Z⟩ x3).setCell ⟨R,4,Z⟩ x4).setCell ⟨R,5,Z⟩ x5):=(((((h.set (.inr a) _).set (.inr a) _).set (.inr a) _).set (.inr a) _).set (.inr a) _).set (.inr a) _
theorem Cx{w:World}{k R:Nat}{x0 x1 x2 x3 x4 x5:Value}(h:k≠R):((((((w.setCell ⟨R,0,Z⟩ x0).setCell ⟨R,1,Z⟩ x1).setCell ⟨R,2,Z⟩ x2).setCell ⟨R,3,Z⟩ x3).setCell ⟨R,4,Z⟩ x4).setCell ⟨R,5,Z⟩ x5).heap[k]?=w.heap[k]?:=by
 rw[bR _ _ _ _ h,bR _ _ _ _ h,bR _ _ _ _ h,bR _ _ _ _ h,bR _ _ _ _ h,bR _ _ _ _ h]
theorem lY(a b c d e f:Value)(w:World):(Instr.field 182 (.agg #[a,b,c,d,e,f]) 0).run prog w=.ok a w:=by
 kernel_rfl
theorem Cy(a b c d e f:Value)(w:World):(Instr.field 182 (.agg #[a,b,c,d,e,f]) 3).run prog w=.ok d w:=by
 kernel_rfl
theorem Cz(a b c d e f:Value)(w:World):(Instr.field 182 (.agg #[a,b,c,d,e,f]) 4).run prog w=.ok e w:=by
 kernel_rfl
def fD(a:ab.a7):Ending:=.panicked [{v:=.iface 207 (.agg #[Y I a.1,Y I 0,Y I a.2]),recovered:=D}]
def mJ{α:Type}(X:Nat)(v:Value)(ad:List ax)(f:ab.a7)(w:World)(c:α→World→Value→Prop)(res:ab.eT α)(e:Ending)(w':World):Prop:=aR X w w'∧match res with|.error b=>e=fD b|.ok (x,r)=>∃u a,c x w' u∧e=.returned u∧b9 w' X v ad a f∧ad.drop a=r
end Go.Proofs.YtcmcicacdelmkaaGreatDoor
namespace Go.Proofs.YtcmcicacdelmkaaGreatDoor
open Go
section
variable{P:Program}{ops:Array Oper}{Q:Exit→Act→World→Prop}{md:Region.Mode}{S:World→Prop}
def px(md:Region.Mode)(ops:Array Oper)(listed:Array Bool)(i:Nat):Bool:=Region.noSelect ops&&Region.free md ops listed i&&(Region.ready md ops listed).contains i
theorem ew(i:Nat){bn:Oper}(d:Option Tmp)(v:Value){fuel:Nat}{listed:Array Bool}{a:Act}{w:World}(aj:ops[i]?=O bn)(ar:bn.dst=d)(ak:px md ops listed i=K)(b:∀c a w,Q (.panic c) (a.put d v) w→Q (.panic c) a w)(e:S w)(f:YieldsIf P ops S bn v a)(h:wpAnyH P md ops Q S fuel (listed.setIfInBounds i K) (a.put d v) w):wpAnyH P md ops Q S (fuel+1) listed a w:=by
 subst ar;simp only[px,gF]at ak;exact wpAnyH_take aj ak.1.1 ak.1.2 ak.2 b f e h
theorem fQ(i:Nat){bn:Oper}{fuel:Nat}{listed:Array Bool}{a:Act}{w:World}(aj:ops[i]?=O bn)(e:Region.ready md ops listed=[i])(h:∀b:Act→World→Prop,(∀c w',S w'→wpAnyH P md ops Q S fuel (listed.setIfInBounds i K) c w'→b c w')→if Region.wanted bn (yielded ops a.tmps)=K then Oper.wp P bn a w b Q else b (a.put bn.dst undef) w):wpAnyH P md ops Q S (fuel+1) listed a w:=by
 refine⟨fun h0=>(by rw[e]at h0;cases h0),fun j d=>?_⟩;rw[e]at d;obtain rfl:j=i:=by simpa using d
 exact wpOp_step aj (fun b f=>h b (fun c w' h1 h2=>f c w' ⟨h1,h2⟩))
theorem dV{id:Nat}{a:Act}{w:World}(S:World→Prop)(b:P.follows .mixedOrders=K)(h:wpAnyH P .any ops Q S ops.size (Array.replicate ops.size D) a w.drew):(Code.region id ops K).wp P Q a w:=wp_region_held b h
theorem CA(i j:Nat){bn d:Oper}{last:Nat}{fuel:Nat}{listed:Array Bool}{a:Act}{w:World}(aj:ops[i]?=O bn)(m:ops[j]?=O d)(l:Region.ready md ops listed=[i,j])(h:∀b:Act→World→Prop,(∀c w',(i≠last→S w')→eD P md ops Q S last fuel (listed.setIfInBounds i K) c w'→b c w')→if Region.wanted bn (yielded ops a.tmps)=K then Oper.wp P bn a w b Q else b (a.put bn.dst undef) w)(g:∀b:Act→World→Prop,(∀c w',(j≠last→S w')→eD P md ops Q S last fuel (listed.setIfInBounds j K) c w'→b c w')→if Region.wanted d (yielded ops a.tmps)=K then Oper.wp P d a w b Q else b (a.put d.dst undef) w):eD P md ops Q S last (fuel+1) listed a w:=by
 refine⟨fun h0=>(by rw[l]at h0;cases h0),fun k f=>?_⟩;rw[l]at f;simp only[dz,List.not_mem_nil,or_false]at f;rcases f with rfl|rfl;·exact wpOp_step aj (fun b e=>h b (fun c w' h1 h2=>e c w' ⟨h1,h2⟩))
 ·exact wpOp_step m (fun b e=>g b (fun c w' h1 h2=>e c w' ⟨h1,h2⟩))
theorem dR(i:Nat){bn:Oper}{last:Nat}(d:Option Tmp)(v:Value){fuel:Nat}{listed:Array Bool}{a:Act}{w:World}(aj:ops[i]?=O bn)(ar:bn.dst=d)(ak:qE md ops listed last i=K)(b:∀c a w,Q (.panic c) (a.put d v) w→Q (.panic c) a w)(e:S w)(f:YieldsIf P ops S bn v a)(h:eD P md ops Q S last fuel (listed.setIfInBounds i K) (a.put d v) w):eD P md ops Q S last (fuel+1) listed a w:=zG i aj ar ak b e f h
end
end Go.Proofs.YtcmcicacdelmkaaGreatDoor
namespace Go.Proofs.YtcmcicacdelmkaaGreatDoor
open Go.RowKit Go.Shelf cA
theorem gl(X:Nat)(v:Value)(ad:List ax)(a:Nat)(f:ab.a7)(w:World)(t:ax)(r:List ax)(ar:ad.drop a=t::r)(h:b9 w X v ad a f):Calls prog 88 #[V (O ⟨X,0,Z⟩)] w fun e w'=>e=.returned (eR t)∧Below w.heap.size w w':=by
 obtain⟨ac,_,_⟩:=gf ar;have S:=h.c';obtain⟨w1,b⟩:=aa (w.alloc (M #[Y I 0,A {data:=#[]},Y I 0,Y I 0,Y I 0,Y I 0] 182));have d:b9 w1 X v ad a f:=by rw[b];exact h.alloc _
 have j:w1.heap[w.heap.size]?=O (M #[Y I 0,A {data:=#[]},Y I 0,Y I 0,Y I 0,Y I 0] 182):=by rw[b];exact bm _ _
 have m:Below w.heap.size w w1:=by rw[b];exact bc _ _
 obtain⟨g,cap,rfl,p,q,s,u,x,y⟩:=d.tok ar;obtain⟨c0,c1,c2,c4,l⟩:=d.cells;obtain⟨z,aJ,a8,B,C,E,f0,f1,f2,f3,f4,f5⟩:=dp j;have T:decide (ad.length≤a)=D:=a1 (by omega);have U:¬ad.length≤a:=by omega
 have m0:(0:Int)≤(a:Int):=by omega
 have m1:(a:Int)<(ad.length:Int):=by omega
 have R:=N b;have P:=N j;have F:=N m;have Q:=N d;have H:=N ar;clear h ar b j m d;go_enter func88,ntmps88;go_upto_region 1 with fail;rw[←R.o];go_quiet(fail);obtain⟨an,c⟩:=aa (w1.drewN nq);rw[←c];have i:b9 an X (J (O ⟨g,0,Z⟩) ad.length cap) ad a f:=by rw[c];exact Q.o.drewN _
 have k:an.heap[w.heap.size]?=O (M #[Y I 0,A {data:=#[]},Y I 0,Y I 0,Y I 0,Y I 0] 182):=by rw[c];exact P.o
 have n:Below w.heap.size w an:=by rw[c];exact below_drewN F.o
 clear p q s u x y c0 c1 c2 c4 l z aJ a8 B C E f0 f1 f2 f3 f4 f5 c;obtain⟨_,p,q,s,u,x,y⟩:=i.Cv H.o;obtain⟨c0,c1,c2,c4,l⟩:=i.cells;obtain⟨z,aJ,a8,B,C,E,f0,f1,f2,f3,f4,f5⟩:=dp k;have G:=N n;have L:=N (q5 (x0:=Y I t.kind) (x1:=A ⟨t.ai.toArray⟩) (x2:=Y I t.int) (x3:=Y I t.op) (x4:=Y I t.off) (x5:=Y I t.fin) k);clear i k n;go_upto_region 3 with fail;go_region;all_goals go_wp2;refine bb (bX rfl _ _ w.heap.size 182 #[Y I t.kind,A ⟨t.ai.toArray⟩,Y I t.int,Y I t.op,Y I t.off,Y I t.fin] (0,0) _ rfl (by rw[dU];exact L.o) underlying182 rfl eO) rfl ?_;exact⟨rfl,(vk G.o (aG _)).drew⟩
theorem jI(X:Nat)(v:Value)(ad:List ax)(a:Nat)(f:ab.a7)(w:World)(ar:ad.drop a=[])(c:b9 w X v ad a f):Calls prog 88 #[V (O ⟨X,0,Z⟩)] w fun e w'=>e=fD f∧Below w.heap.size w w':=by
 have B:=c.c';have E:ad.length≤a:=by simpa using ar
 obtain⟨w1,d⟩:=aa (w.alloc (M #[Y I 0,A {data:=#[]},Y I 0,Y I 0,Y I 0,Y I 0] 182));have i:b9 w1 X v ad a f:=by rw[d];exact c.alloc _
 have k:Below w.heap.size w w1:=by rw[d];exact bc _ _
 obtain⟨s,t,rfl⟩:=c.slice;obtain⟨c0,c1,c2,c4,j⟩:=i.cells;have C:decide (ad.length≤a)=K:=aY (by omega);have r:=N d;have n:=N k;have q:=N i;clear c ar d k i;go_enter func88,ntmps88;go_upto_region 1 with fail;rw[←r.o];go_quiet(fail);obtain⟨an,g⟩:=aa (w1.drewN nq);rw[←g];have m:b9 an X (J s ad.length t) ad a f:=by rw[g];exact q.o.drewN _
 have l:Below w.heap.size w an:=by rw[g];exact below_drewN n.o
 clear c0 c1 c2 c4 j g;obtain⟨c0,c1,c2,c4,j⟩:=m.cells;have p:=N l;clear m l;go_upto_region 2 with fail;refine dV (fun x=>x=an.drew) (by kernel_rfl) ?_;have z:an.drew=an.drew:=rfl;refine ew 0 _ ?_ rfl rfl (by kernel_rfl) (fun _ _ _ h=>h) (by assumption) (Or.inl ⟨by rfl,fun x b=>?_⟩) ?_;rotate_left;·rw[b];clear b;go_simp;try with_reducible rfl
 simp only[Act.put,bK,bJ,bH];refine ew 1 _ ?_ rfl rfl (by kernel_rfl) (fun _ _ _ h=>h) (by assumption) (Or.inl ⟨by rfl,fun x b=>?_⟩) ?_;rotate_left;·rw[b];clear b;go_simp;try with_reducible rfl
 simp only[Act.put,bK,bJ,bH];refine ew 2 _ ?_ rfl rfl (by kernel_rfl) (fun _ _ _ h=>h) (by assumption) (Or.inl ⟨by rfl,fun x b=>?_⟩) ?_;rotate_left;·rw[b];clear b;go_simp;try with_reducible rfl
 simp only[Act.put,bK,bJ,bH];refine ew 3 _ ?_ rfl rfl (by kernel_rfl) (fun _ _ _ h=>h) (by assumption) (Or.inl ⟨by rfl,fun x b=>?_⟩) ?_;rotate_left;·rw[b];clear b;go_simp;try with_reducible rfl
 simp only[Act.put,bK,bJ,bH];refine ew 4 _ ?_ rfl rfl (by kernel_rfl) (fun _ _ _ h=>h) (by assumption) (Or.inl ⟨by rfl,fun x b=>?_⟩) ?_;rotate_left;·rw[b];clear b;go_simp;try with_reducible rfl
 simp only[Act.put,bK,bJ,bH];refine ew 5 _ ?_ rfl rfl (by kernel_rfl) (fun _ _ _ h=>h) (by assumption) (Or.inl ⟨by rfl,fun x b=>?_⟩) ?_;rotate_left;·rw[b];clear b;go_simp;try with_reducible rfl
 simp only[Act.put,bK,bJ,bH];refine ew 6 _ ?_ rfl rfl (by kernel_rfl) (fun _ _ _ h=>h) (by assumption) (Or.inl ⟨by rfl,fun x b=>?_⟩) ?_;rotate_left;·rw[b];clear b;go_simp;try with_reducible rfl
 simp only[Act.put,bK,bJ,bH];refine ew 7 _ ?_ rfl rfl (by kernel_rfl) (fun _ _ _ h=>h) (by assumption) (Or.inl ⟨by rfl,fun x b=>?_⟩) ?_;rotate_left;·rw[b];clear b;go_simp;try with_reducible rfl
 simp only[Act.put,bK,bJ,bH];refine ew 8 _ ?_ rfl rfl (by kernel_rfl) (fun _ _ _ h=>h) (by assumption) (Or.inl ⟨by rfl,fun x b=>?_⟩) ?_;rotate_left;·rw[b];clear b;go_simp;try with_reducible rfl
 simp only[Act.put,bK,bJ,bH];refine ew 9 _ ?_ rfl rfl (by kernel_rfl) (fun _ _ _ h=>h) (by assumption) (Or.inl ⟨by rfl,fun x b=>?_⟩) ?_;rotate_left;·rw[b];clear b;go_simp;try with_reducible rfl
 simp only[Act.put,bK,bJ,bH];refine ew 10 _ ?_ rfl rfl (by kernel_rfl) (fun _ _ _ h=>h) (by assumption) (Or.inl ⟨by rfl,fun x b=>?_⟩) ?_;rotate_left;·rw[b];clear b;go_simp;try with_reducible rfl
 simp only[Act.put,bK,bJ,bH];refine ew 11 _ ?_ rfl rfl (by kernel_rfl) (fun _ _ _ h=>h) (by assumption) (Or.inl ⟨by rfl,fun x b=>?_⟩) ?_;rotate_left;·rw[b];clear b;go_simp;try with_reducible rfl
 simp only[Act.put,bK,bJ,bH];refine ew 12 _ ?_ rfl rfl (by kernel_rfl) (fun _ _ _ h=>h) (by assumption) (Or.inl ⟨by rfl,fun x b=>?_⟩) ?_;rotate_left;·rw[b];clear b;go_simp;try with_reducible rfl
 simp only[Act.put,bK,bJ,bH];refine fQ 13 rfl (by kernel_rfl) (fun u y=>?_);go_simp;refine⟨rfl,?_⟩;exact⟨rfl,p.o.drew⟩
theorem mK(X:Nat)(v:Value)(ad:List ax)(a:Nat)(f:ab.a7)(w:World)(t:ax)(r:List ax)(k:Nat)(ar:ad.drop a=t::r)(b:b9 w X v ad a f):Calls prog 89 #[V (O ⟨X,0,Z⟩),Y I k] w fun e w'=>e=fD (k,t.off)∧Below w.heap.size w w':=by
 go_enter func89,ntmps89;go_wp2_with fail;refine(gl X v ad a f _ t r ar b).mono ?_;rintro e an⟨rfl,ae⟩;simp only[eR];have c:=Cz;go_wp2;exact⟨rfl,rfl,ae⟩
theorem n1(X:Nat)(v:Value)(ad:List ax)(a:Nat)(f:ab.a7)(w:World)(t:ax)(r:List ax)(ar:ad.drop a=t::r)(b:b9 w X v ad a f):Calls prog 114 #[V (O ⟨X,0,Z⟩)] w fun e w'=>e=fD (ab.ref t)∧Below w.heap.size w w':=by
 have j:=lY;by_cases c:t.kind=0;·(have h:=b3 t.kind 0 (by omega));have d:W (ab.ref t=(21,t.off)):=N (by simp[ab.ref,c]);clear c;go_enter func114,ntmps114;go_wp2_with fail;refine(gl X v ad a f _ t r ar b).mono ?_;rintro e an⟨rfl,ae⟩;simp only[eR];go_wp2_with fail;refine(mK X v ad a f _ t r 21 ar (b.below ae)).mono ?_;rintro e i⟨rfl,g⟩;refine⟨rfl,by rw[d.o];rfl,ae.trans (g.mono ae.size)⟩
 ·(have h:=ay t.kind 0 (by omega));have d:W (ab.ref t=(20,t.off)):=N (by simp[ab.ref,c]);clear c;go_enter func114,ntmps114;go_wp2_with fail;refine(gl X v ad a f _ t r ar b).mono ?_;rintro e an⟨rfl,ae⟩;simp only[eR];go_wp2_with fail;refine(mK X v ad a f _ t r 20 ar (b.below ae)).mono ?_;rintro e i⟨rfl,g⟩;refine⟨rfl,by rw[d.o];rfl,ae.trans (g.mono ae.size)⟩
def CB(X:Nat)(v:Value)(ad:List ax)(f:ab.a7)(w:World)(res:ab.eT ax)(e:Ending)(w':World):Prop:=mJ X v ad f w (fun t _ u=>u=eR t) res e w'
theorem py(X:Nat)(v:Value)(ad:List ax)(a:Nat)(f:ab.a7)(w:World)(k:Nat)(m:b9 w X v ad a f):Calls prog 98 #[V (O ⟨X,0,Z⟩),Y I k] w (CB X v ad f w (ab.cQ f k (ad.drop a))):=by
 have dL:=m.lt;have aI:=m.c';obtain⟨C,c⟩:=aa (ab.cQ f k (ad.drop a));rw[←c];obtain⟨w1,h⟩:=aa (w.alloc (M #[Y I 0,A {data:=#[]},Y I 0,Y I 0,Y I 0,Y I 0] 182));have x:b9 w1 X v ad a f:=by rw[h];exact m.alloc _
 have R:Below w.heap.size w w1:=by rw[h];exact bc _ _
 have aM:w1.heap.size=w.heap.size+1:=by rw[h];simp
 have ah:w1.heap[w.heap.size]?=O (M #[Y I 0,A {data:=#[]},Y I 0,Y I 0,Y I 0,Y I 0] 182):=by rw[h];exact bm _ _
 have Q:=N h;have H:=N R;have aw:=N ah;clear h R ah;cases ar:ad.drop a with|nil=>rw[ar]at c;have d:=N c;clear c;go_enter func98,ntmps98;go_upto_region 1 with fail;rw[←Q.o];go_wp2_with fail;refine(jI X v ad a f _ ar x).mono ?_;rintro e an⟨rfl,ae⟩;refine⟨rfl,aR.of (H.o.trans (ae.mono (by omega))),?_⟩;rw[d.o];rfl|cons t r=>rw[ar]at c;have aH:=gf ar;have L:=N ar;go_enter func98,ntmps98;go_upto_region 1 with fail;rw[←Q.o];go_wp2_with fail;refine(gl X v ad a f _ t r ar x).mono ?_;rintro e an⟨rfl,ae⟩;simp only[eR];have ac:=x.below ae;(have aj:an.heap[w.heap.size]?=O (M #[Y I 0,A {data:=#[]},Y I 0,Y I 0,Y I 0,Y I 0] 182):=by rw[ae.block _ (by omega)];exact aw.o);have S:=H.o.trans (ae.mono (by omega));go_upto_region 2 with fail;obtain⟨n,i⟩:=aa (an.alloc (M #[Y I t.kind,A {data:=t.ai.toArray},Y I t.int,Y I t.op,Y I t.off,Y I t.fin] 182));rw[←i];have aN:=ae.size;(have af:b9 n X v ad a f:=by rw[i];exact ac.alloc _);(have T:Below w.heap.size w n:=by rw[i];exact S.alloc (by omega) _);(have F:n.heap[w.heap.size]?=O (M #[Y I 0,A {data:=#[]},Y I 0,Y I 0,Y I 0,Y I 0] 182):=by rw[i,Below.heap_alloc _ _ _ (by omega)];exact aj);(have t3:n.heap[an.heap.size]?=O (M #[Y I t.kind,A {data:=t.ai.toArray},Y I t.int,Y I t.op,Y I t.off,Y I t.fin] 182):=by rw[i];exact bm _ _);obtain⟨b,E⟩:=aa an.heap.size;rw[←E]at t3⊢;have av:=N E;have B:=N af;have u:=N T;have P:=N F;have aA:=N t3;obtain⟨ak,aJ,a8,al,am,ao,f0,f1,f2,f3,f4,f5⟩:=dp t3;obtain⟨y0,y1,y2,ap,aq,au,g0,g1,g2,g3,g4,g5⟩:=dp F;clear ac aj S i ae x E af T F t3;by_cases g:t.kind=k;(·(have aB:((t.kind:Int)!=(k:Int))=D:=by simp;omega);by_cases y:k=0;(·(have aC:((k:Int)!=0)=D:=by simp;omega);have d:W (C=.ok (t,t::r)):=N (by rw[c];simp[ab.cQ,g,y]);clear g y c;have z:=N (q5 (x0:=Y I t.kind) (x1:=A ⟨t.ai.toArray⟩) (x2:=Y I t.int) (x3:=Y I t.op) (x4:=Y I t.off) (x5:=Y I t.fin) P.o);have l:=N (vk (x0:=Y I t.kind) (x1:=A ⟨t.ai.toArray⟩) (x2:=Y I t.int) (x3:=Y I t.op) (x4:=Y I t.off) (x5:=Y I t.fin) u.o (aG _));go_wp2;refine bb (bX rfl _ _ w.heap.size 182 #[Y I t.kind,A ⟨t.ai.toArray⟩,Y I t.int,Y I t.op,Y I t.off,Y I t.fin] (0,0) _ rfl z.o underlying182 rfl eO) rfl ?_;refine⟨aR.of l.o,?_⟩;rw[d.o];exact⟨_,a,rfl,rfl,m.below l.o,L.o⟩);·(have aC:((k:Int)!=0)=K:=by simp;omega);have d:W (C=.ok (t,r)):=N (by rw[c];simp[ab.cQ,g,y]);clear g y c;obtain⟨aK,_,aF⟩:=aH;(have aL:IntKind.i64.wrap ((a:Int)+1)=((a+1:Nat):Int):=by rw[dc];omega);obtain⟨c0,c1,c2,c4,aD⟩:=B.o.cells;go_upto_region 6 with fail;obtain⟨s,j⟩:=aa (n.setCell ⟨X,1,Z⟩ (Y I ((a:Int)+1)));rw[←j];(have U:aR X w s:=by rw[j];exact(aR.of u.o).set (p:=⟨X,1,Z⟩) (.inl rfl) _);(have ag:b9 s X v ad (a+1) f:=by rw[j];exact B.o.set (q:=a+1) (by omega));(have G:s.heap[w.heap.size]?=O (M #[Y I 0,A {data:=#[]},Y I 0,Y I 0,Y I 0,Y I 0] 182):=by rw[j,bR _ _ _ _ (by simp;omega)];exact P.o);(have t4:s.heap[b]?=O (M #[Y I t.kind,A {data:=t.ai.toArray},Y I t.int,Y I t.op,Y I t.off,Y I t.fin] 182):=by rw[j,bR _ _ _ _ (by have:=av.o;simp;omega)];exact aA.o);clear j ak aJ a8 al am ao f0 f1 f2 f3 f4 f5 y0 y1 y2 ap aq au g0 g1 g2 g3 g4 g5 c0 c1 c2 c4 aD;obtain⟨ak,aJ,a8,al,am,ao,f0,f1,f2,f3,f4,f5⟩:=dp t4;obtain⟨y0,y1,y2,ap,aq,au,g0,g1,g2,g3,g4,g5⟩:=dp G;have z:=N (q5 (x0:=Y I t.kind) (x1:=A ⟨t.ai.toArray⟩) (x2:=Y I t.int) (x3:=Y I t.op) (x4:=Y I t.off) (x5:=Y I t.fin) G);have l:=N (Cw (x0:=Y I t.kind) (x1:=A ⟨t.ai.toArray⟩) (x2:=Y I t.int) (x3:=Y I t.op) (x4:=Y I t.off) (x5:=Y I t.fin) U (aG _));have ay:=N (m.hn l.o (by rw[Cx (by omega)];exact ag.row) (by omega));clear U ag G t4;go_wp2;refine bb (bX rfl _ _ w.heap.size 182 #[Y I t.kind,A ⟨t.ai.toArray⟩,Y I t.int,Y I t.op,Y I t.off,Y I t.fin] (0,0) _ rfl z.o underlying182 rfl eO) rfl ?_;refine⟨l.o,?_⟩;rw[d.o];exact⟨_,a+1,rfl,rfl,ay.o,aF⟩);·(have aB:((t.kind:Int)!=(k:Int))=K:=by simp;omega);have d:W (C=.error (ab.ref t)):=N (by rw[c];simp[ab.cQ,g]);clear g c;go_wp2_with fail;refine(n1 X v ad a f _ t r L.o B.o).mono ?_;rintro e s⟨rfl,aE⟩;refine⟨rfl,aR.of (u.o.trans (aE.mono (u.o.size))),?_⟩;rw[d.o];rfl
theorem CC(X:Nat)(v:Value)(ad:List ax)(a:Nat)(f:ab.a7)(w:World)(t:ax)(r:List ax)(ar:ad.drop a=t::r)(b:b9 w X v ad a f):Calls prog 138 #[V (O ⟨X,0,Z⟩)] w fun e w'=>e=.returned (.bool (ab.hM r))∧Below w.heap.size w w':=by
 obtain⟨u,_,d⟩:=gf ar;have p:=b.c';obtain⟨j,c⟩:=aa (ab.hM r);rw[←c];obtain⟨g,cap,rfl,_⟩:=b.tok ar;obtain⟨c0,c1,c2,c4,n⟩:=b.cells;have x:IntKind.i64.wrap ((a:Int)+1)=((a:Int)+1):=by rw[dc];omega
 have q:=b.le;have i:W (Below w.heap.size w w):=N (bP _ _);cases r with|nil=>have h:W (j=D):=N c;have l:decide ((a:Int)+1<(ad.length:Int))=D:=a1 (by simp at d;omega);clear c d ar b;go_enter func138,ntmps138;go_upto_region 1 with fail;go_quiet(fail);go_wp2;go_ret;exact⟨by rw[h.o];rfl,below_drewN i.o⟩|cons s a8=>have h:W (j=((s.kind:Int)==11)):=N (by rw[c,Bool.eq_iff_iff];simp[ab.hM];omega);obtain⟨m,_,_⟩:=gf d;have l:decide ((a:Int)+1<(ad.length:Int))=K:=aY (by omega);(have m0:(0:Int)≤(a:Int)+1:=by omega);(have m1:(a:Int)+1<(ad.length:Int):=by omega);have k:b9 w X (J (O ⟨g,0,Z⟩) ad.length cap) ad (a+1) f→True:=fun _=>trivial;(have y:w.cell? ⟨g,(a+1)*6,Z⟩=O (Y I s.kind):=by have ak:=(lX b.own m).1;rw[ak];have:=(gf d).2.1;simp only[this]);(have ah:((a:Int)+1).toNat=a+1:=by omega);clear c d ar b k;go_enter func138,ntmps138;go_upto_region 1 with fail;go_quiet(fail);go_wp2;go_ret;exact⟨by rw[h.o];rfl,below_drewN i.o⟩
theorem jJ{w:World}{B:Nat}{a b c d:Value}(h:w.heap[B]?=O (M #[a,b,c,d] 148)):w.cell? ⟨B,0,Z⟩=O a∧w.cell? ⟨B,1,Z⟩=O b∧w.cell? ⟨B,2,Z⟩=O c∧w.cell? ⟨B,3,Z⟩=O d∧w.frozen? ⟨B,0,Z⟩=D∧w.frozen? ⟨B,1,Z⟩=D∧w.frozen? ⟨B,2,Z⟩=D∧w.frozen? ⟨B,3,Z⟩=D:=by
 refine⟨?_,?_,?_,?_,?_,?_,?_,?_⟩<;>simp only[World.cell?,World.frozen?,h]<;>rfl
theorem pz:(prog.info? 148).map (·.size)=O 4:=by
 kernel_rfl
theorem pA{w:World}{R:Nat}{x0 x1 x2 x3 u0 u1 u2 u3:Value}(h:w.heap[R]?=O (M #[u0,u1,u2,u3] 148)):((((w.setCell ⟨R,0,Z⟩ x0).setCell ⟨R,1,Z⟩ x1).setCell ⟨R,2,Z⟩ x2).setCell ⟨R,3,Z⟩ x3).heap[R]?=O (M #[x0,x1,x2,x3] 148):=by
 simp[World.setCell,eE,h]
theorem pB{aA w:World}{X R:Nat}{x0 x1 x2 x3:Value}(h:aR X aA w)(a:aA.heap.size≤R):aR X aA ((((w.setCell ⟨R,0,Z⟩ x0).setCell ⟨R,1,Z⟩ x1).setCell ⟨R,2,Z⟩ x2).setCell ⟨R,3,Z⟩ x3):=(((h.set (.inr a) _).set (.inr a) _).set (.inr a) _).set (.inr a) _
theorem n2{w:World}{k R:Nat}{x0 x1 x2 x3:Value}(h:k≠R):((((w.setCell ⟨R,0,Z⟩ x0).setCell ⟨R,1,Z⟩ x1).setCell ⟨R,2,Z⟩ x2).setCell ⟨R,3,Z⟩ x3).heap[k]?=w.heap[k]?:=by
 rw[bR _ _ _ _ h,bR _ _ _ _ h,bR _ _ _ _ h,bR _ _ _ _ h]
theorem CD{w:World}{R:Nat}{x0 x1 x2 u0 u1 u2 u3:Value}(h:w.heap[R]?=O (M #[u0,u1,u2,u3] 148)):(((w.setCell ⟨R,0,Z⟩ x0).setCell ⟨R,1,Z⟩ x1).setCell ⟨R,2,Z⟩ x2).heap[R]?=O (M #[x0,x1,x2,u3] 148):=by
 simp[World.setCell,eE,h]
theorem vl{w:World}{R:Nat}{x0 u0 u1 u2 u3:Value}(h:w.heap[R]?=O (M #[u0,u1,u2,u3] 148)):(w.setCell ⟨R,0,Z⟩ x0).heap[R]?=O (M #[x0,u1,u2,u3] 148):=by
 simp[World.setCell,eE,h]
def ho(x:ab.bl):List Value:=[Y I x.kind,Y I x.int,A ⟨x.ai.toArray⟩,Y I x.off]
def kH(x:ab.bl):Value:=.agg #[Y I x.kind,Y I x.int,A ⟨x.ai.toArray⟩,Y I x.off]
def CE(X:Nat)(v:Value)(ad:List ax)(f:ab.a7)(w:World)(res:ab.eT ab.bl)(e:Ending)(w':World):Prop:=mJ X v ad f w (fun x _ u=>u=kH x) res e w'
theorem mL(X:Nat)(v:Value)(ad:List ax)(a:Nat)(f:ab.a7)(w:World)(vars:Bool)(af:b9 w X v ad a f):Calls prog 120 #[V (O ⟨X,0,Z⟩),.bool vars] w (CE X v ad f w (ab.dt f vars (ad.drop a))):=by
 have dL:=af.lt;have bI:=af.c';obtain⟨aO,x⟩:=aa (ab.dt f vars (ad.drop a));rw[←x];obtain⟨w1,am⟩:=aa (w.alloc (M #[Y I 0,Y I 0,A {data:=#[]},Y I 0] 148));have aB:b9 w1 X v ad a f:=by rw[am];exact af.alloc _
 have aP:Below w.heap.size w w1:=by rw[am];exact bc _ _
 have bL:w1.heap.size=w.heap.size+1:=by rw[am];simp
 have a6:w1.heap[w.heap.size]?=O (M #[Y I 0,Y I 0,A {data:=#[]},Y I 0] 148):=by rw[am];exact bm _ _
 have aN:=N am;have aM:=N aP;have bj:=N a6;clear am aP a6;cases ar:ad.drop a with|nil=>rw[ar]at x;have y:=N x;clear x;go_enter func120,ntmps120;go_upto_region 1 with fail;rw[←aN.o];go_wp2_with fail;refine(jI X v ad a f _ ar aB).mono ?_;rintro e an⟨rfl,ae⟩;refine⟨rfl,aR.of (aM.o.trans (ae.mono (by omega))),?_⟩;rw[y.o];rfl|cons t r=>rw[ar]at x;have br:=gf ar;have bh:=N ar;go_enter func120,ntmps120;go_upto_region 1 with fail;rw[←aN.o];go_wp2_with fail;refine(gl X v ad a f _ t r ar aB).mono ?_;rintro e an⟨rfl,ae⟩;simp only[eR];have aV:=aB.below ae;(have a':an.heap[w.heap.size]?=O (M #[Y I 0,Y I 0,A {data:=#[]},Y I 0] 148):=by rw[ae.block _ (by omega)];exact bj.o);have aQ:=aM.o.trans (ae.mono (by omega));go_upto_region 2 with fail;obtain⟨ak,ag⟩:=aa (an.alloc (M #[Y I t.kind,A {data:=t.ai.toArray},Y I t.int,Y I t.op,Y I t.off,Y I t.fin] 182));rw[←ag];have bM:=ae.size;(have aW:b9 ak X v ad a f:=by rw[ag];exact aV.alloc _);(have aS:Below w.heap.size w ak:=by rw[ag];exact aQ.alloc (by omega) _);(have ba:ak.heap[w.heap.size]?=O (M #[Y I 0,Y I 0,A {data:=#[]},Y I 0] 148):=by rw[ag,Below.heap_alloc _ _ _ (by omega)];exact a');(have t3:ak.heap[an.heap.size]?=O (M #[Y I t.kind,A {data:=t.ai.toArray},Y I t.int,Y I t.op,Y I t.off,Y I t.fin] 182):=by rw[ag];exact bm _ _);have aH:W (ak.heap.size=an.heap.size+1):=N (by rw[ag];simp);obtain⟨b,aK⟩:=aa an.heap.size;rw[←aK]at t3⊢;have aq:=N aK;have aF:=N aW;have aE:=N aS;have bk:=N ba;have bn:=N t3;obtain⟨P,aJ,a8,Q,R,S,f0,f1,f2,f3,f4,f5⟩:=dp t3;clear aV a' aQ ag ae aB aK aW aS ba t3;go_wp2_with fail;refine(pt t.kind vars _).mono ?_;rintro e i⟨rfl,aZ⟩;rw[aZ];clear aZ i;cases ap:ab.bS vars t.kind with|false=>have y:W (aO=.error (ab.ref t)):=N (by rw[x];simp[ab.dt,ap]);clear ap x;go_wp2_with fail;refine(n1 X v ad a f _ t r bh.o aF.o).mono ?_;rintro e i⟨rfl,bq⟩;refine⟨rfl,aR.of (aE.o.trans (bq.mono (aE.o.size))),?_⟩;rw[y.o];rfl|true=>have y:W (aO=.ok (ab.e' t,r)):=N (by rw[x];simp[ab.dt,ap]);have bi:=N ap;clear ap x;obtain⟨bJ,_,aC⟩:=br;(have bK:IntKind.i64.wrap ((a:Int)+1)=((a+1:Nat):Int):=by rw[dc];omega);obtain⟨c0,c1,c2,c4,bp⟩:=aF.o.cells;go_upto_region 5 with fail;obtain⟨i,ah⟩:=aa (ak.setCell ⟨X,1,Z⟩ (Y I ((a:Int)+1)));rw[←ah];(have aT:aR X w i:=by rw[ah];exact(aR.of aE.o).set (p:=⟨X,1,Z⟩) (.inl rfl) _);(have aX:b9 i X v ad (a+1) f:=by rw[ah];exact aF.o.set (q:=a+1) (by omega));have aI:W (i.heap.size=ak.heap.size):=N (by rw[ah];exact size_set _ _ _);(have bd:i.heap[w.heap.size]?=O (M #[Y I 0,Y I 0,A {data:=#[]},Y I 0] 148):=by rw[ah,bR _ _ _ _ (by simp;omega)];exact bk.o);(have t4:i.heap[b]?=O (M #[Y I t.kind,A {data:=t.ai.toArray},Y I t.int,Y I t.op,Y I t.off,Y I t.fin] 182):=by rw[ah,bR _ _ _ _ (by have:=aq.o;simp;omega)];exact bn.o);clear ah P aJ a8 Q R S f0 f1 f2 f3 f4 f5 c0 c1 c2 c4 bp;obtain⟨P,aJ,a8,Q,R,S,f0,f1,f2,f3,f4,f5⟩:=dp t4;have bg:=N aT;have ao:=N aX;have bl:=N bd;have bo:=N t4;clear aT aX bd t4;go_upto_region 6 with fail;obtain⟨al,aj⟩:=aa (i.alloc (M #[Y I 4,Y I 0,A {data:=t.ai.toArray},Y I t.off] 148));rw[←aj];(have aU:aR X w al:=by rw[aj];exact bg.o.alloc _);(have a1:al.heap[X]?=i.heap[X]?:=by rw[aj];exact Below.heap_alloc _ _ _ ao.o.lt);(have be:al.heap[w.heap.size]?=O (M #[Y I 0,Y I 0,A {data:=#[]},Y I 0] 148):=by rw[aj,Below.heap_alloc _ _ _ (by have:=aq.o;have:=aI.o;have:=aH.o;omega)];exact bl.o);(have t5:al.heap[b]?=O (M #[Y I t.kind,A {data:=t.ai.toArray},Y I t.int,Y I t.op,Y I t.off,Y I t.fin] 182):=by rw[aj,Below.heap_alloc _ _ _ (by have:=aq.o;have:=aI.o;have:=aH.o;omega)];exact bo.o);(have aD:al.heap[i.heap.size]?=O (M #[Y I 4,Y I 0,A {data:=t.ai.toArray},Y I t.off] 148):=by rw[aj];exact bm _ _);obtain⟨c,aY⟩:=aa i.heap.size;rw[←aY]at aD⊢;have m:W (w.heap.size<c∧X≠c∧b≠c):=N (by have:=aq.o;have:=aI.o;have:=aH.o;omega);clear P aJ a8 Q R S f0 f1 f2 f3 f4 f5 aj aY;obtain⟨P,aJ,a8,Q,R,S,f0,f1,f2,f3,f4,f5⟩:=dp t5;obtain⟨F,G,H,L,z,B,C,E⟩:=jJ aD;have au:=N aU;have aA:=N a1;have aw:=N be;have av:=N aD;(have bt:t.kind=1∨t.kind=2∨t.kind=3∨t.kind=4:=by have:=bi.o;simp[ab.bS]at this;omega);clear aU a1 be aD t5;rcases bt with h|h|h|h;(·have ac:W (ab.e' t=⟨2,0,t.ai,t.off⟩):=N (by simp[ab.e',h]);(have bv:=ay t.kind 3 (by omega));(have bu:=b3 t.kind 1 (by omega));(have bx:=ay t.kind 4 (by omega));clear h;go_upto_region 13 with fail;obtain⟨g,d⟩:=aa (al.setCell ⟨c,0,Z⟩ (Y I 2));rw[←d];(have s:aR X w g:=by rw[d];exact au.o.set (p:=⟨c,0,Z⟩) (.inr (hK m.o.1)) _);(have u:g.heap[c]?=O (M #[Y I 2,Y I 0,A {data:=t.ai.toArray},Y I t.off] 148):=by rw[d];exact vl av.o);(have j:∀k,k≠c→g.heap[k]?=al.heap[k]?:=fun k h=>by rw[d,bR _ _ _ _ h]);(have l:g.heap[w.heap.size]?=O (M #[Y I 0,Y I 0,A {data:=#[]},Y I 0] 148):=by rw[j _ (by have:=m.o.1;omega)];exact aw.o);(have x6:g.heap[X]?=i.heap[X]?:=by rw[j _ m.o.2.1];exact aA.o);clear d j F G H L z B C E P aJ a8 Q R S f0 f1 f2 f3 f4 f5;obtain⟨F,G,H,L,z,B,C,E⟩:=jJ u;obtain⟨y0,y1,y2,aL,g0,g1,g2,g3⟩:=jJ l;have T:=N (pA (x0:=Y I 2) (x1:=Y I 0) (x2:=A {data:=t.ai.toArray}) (x3:=Y I t.off) l);have n:=N (pB (x0:=Y I 2) (x1:=Y I 0) (x2:=A {data:=t.ai.toArray}) (x3:=Y I t.off) s (aG _));have U:=N (af.hn n.o (q:=a+1) (by rw[n2 (by omega),x6];exact ao.o.row) (by omega));clear s u l x6;go_wp2;refine bb (bX rfl _ _ w.heap.size 148 #[Y I 2,Y I 0,A {data:=t.ai.toArray},Y I t.off] (0,0) _ rfl T.o underlying148 rfl pz) rfl ?_;refine⟨n.o,?_⟩;rw[y.o,ac.o];exact⟨_,a+1,rfl,rfl,U.o,aC⟩);(·have ac:W (ab.e' t=⟨4,0,t.ai,t.off⟩):=N (by simp[ab.e',h]);(have bA:=ay t.kind 3 (by omega));(have bz:=ay t.kind 1 (by omega));(have bB:=ay t.kind 4 (by omega));clear h;go_upto_region 13 with fail;obtain⟨g,d⟩:=aa al;rw[←d];(have s:aR X w g:=by rw[d];exact au.o);(have u:g.heap[c]?=O (M #[Y I 4,Y I 0,A {data:=t.ai.toArray},Y I t.off] 148):=by rw[d];exact av.o);(have j:∀k,k≠c→g.heap[k]?=al.heap[k]?:=fun k h=>by rw[d]);(have l:g.heap[w.heap.size]?=O (M #[Y I 0,Y I 0,A {data:=#[]},Y I 0] 148):=by rw[j _ (by have:=m.o.1;omega)];exact aw.o);(have x6:g.heap[X]?=i.heap[X]?:=by rw[j _ m.o.2.1];exact aA.o);clear d j F G H L z B C E P aJ a8 Q R S f0 f1 f2 f3 f4 f5;obtain⟨F,G,H,L,z,B,C,E⟩:=jJ u;obtain⟨y0,y1,y2,aL,g0,g1,g2,g3⟩:=jJ l;have T:=N (pA (x0:=Y I 4) (x1:=Y I 0) (x2:=A {data:=t.ai.toArray}) (x3:=Y I t.off) l);have n:=N (pB (x0:=Y I 4) (x1:=Y I 0) (x2:=A {data:=t.ai.toArray}) (x3:=Y I t.off) s (aG _));have U:=N (af.hn n.o (q:=a+1) (by rw[n2 (by omega),x6];exact ao.o.row) (by omega));clear s u l x6;go_wp2;refine bb (bX rfl _ _ w.heap.size 148 #[Y I 4,Y I 0,A {data:=t.ai.toArray},Y I t.off] (0,0) _ rfl T.o underlying148 rfl pz) rfl ?_;refine⟨n.o,?_⟩;rw[y.o,ac.o];exact⟨_,a+1,rfl,rfl,U.o,aC⟩);(·have ac:W (ab.e' t=⟨1,t.int,[],t.off⟩):=N (by simp[ab.e',h]);(have bD:=b3 t.kind 3 (by omega));(have bC:=ay t.kind 1 (by omega));(have bE:=ay t.kind 4 (by omega));clear h;go_upto_region 8 with fail;go_region;all_goals go_upto_region 13 with fail;obtain⟨g,d⟩:=aa ((((al.setCell ⟨c,0,Z⟩ (Y I 1)).setCell ⟨c,1,Z⟩ (Y I t.int)).setCell ⟨c,2,Z⟩ (A {data:=#[]})).drew);rw[←d];(have s:aR X w g:=by rw[d];exact(((au.o.set (p:=⟨c,0,Z⟩) (.inr (hK m.o.1)) _).set (p:=⟨c,1,Z⟩) (.inr (hK m.o.1)) _).set (p:=⟨c,2,Z⟩) (.inr (hK m.o.1)) _).drew);(have u:g.heap[c]?=O (M #[Y I 1,Y I t.int,A {data:=#[]},Y I t.off] 148):=by rw[d,dU];exact CD av.o);(have j:∀k,k≠c→g.heap[k]?=al.heap[k]?:=fun k h=>by rw[d,dU,bR _ _ _ _ h,bR _ _ _ _ h,bR _ _ _ _ h]);(have l:g.heap[w.heap.size]?=O (M #[Y I 0,Y I 0,A {data:=#[]},Y I 0] 148):=by rw[j _ (by have:=m.o.1;omega)];exact aw.o);(have x6:g.heap[X]?=i.heap[X]?:=by rw[j _ m.o.2.1];exact aA.o);clear d j F G H L z B C E P aJ a8 Q R S f0 f1 f2 f3 f4 f5;obtain⟨F,G,H,L,z,B,C,E⟩:=jJ u;obtain⟨y0,y1,y2,aL,g0,g1,g2,g3⟩:=jJ l;have T:=N (pA (x0:=Y I 1) (x1:=Y I t.int) (x2:=A {data:=#[]}) (x3:=Y I t.off) l);have n:=N (pB (x0:=Y I 1) (x1:=Y I t.int) (x2:=A {data:=#[]}) (x3:=Y I t.off) s (aG _));have U:=N (af.hn n.o (q:=a+1) (by rw[n2 (by omega),x6];exact ao.o.row) (by omega));clear s u l x6;go_wp2;refine bb (bX rfl _ _ w.heap.size 148 #[Y I 1,Y I t.int,A {data:=#[]},Y I t.off] (0,0) _ rfl T.o underlying148 rfl pz) rfl ?_;refine⟨n.o,?_⟩;rw[y.o,ac.o];exact⟨_,a+1,rfl,rfl,U.o,aC⟩);·have ac:W (ab.e' t=⟨3,0,t.ai,t.off⟩):=N (by simp[ab.e',h]);(have bG:=ay t.kind 3 (by omega));(have bF:=ay t.kind 1 (by omega));(have bH:=b3 t.kind 4 (by omega));clear h;go_upto_region 13 with fail;obtain⟨g,d⟩:=aa (al.setCell ⟨c,0,Z⟩ (Y I 3));rw[←d];(have s:aR X w g:=by rw[d];exact au.o.set (p:=⟨c,0,Z⟩) (.inr (hK m.o.1)) _);(have u:g.heap[c]?=O (M #[Y I 3,Y I 0,A {data:=t.ai.toArray},Y I t.off] 148):=by rw[d];exact vl av.o);(have j:∀k,k≠c→g.heap[k]?=al.heap[k]?:=fun k h=>by rw[d,bR _ _ _ _ h]);(have l:g.heap[w.heap.size]?=O (M #[Y I 0,Y I 0,A {data:=#[]},Y I 0] 148):=by rw[j _ (by have:=m.o.1;omega)];exact aw.o);(have x6:g.heap[X]?=i.heap[X]?:=by rw[j _ m.o.2.1];exact aA.o);clear d j F G H L z B C E P aJ a8 Q R S f0 f1 f2 f3 f4 f5;obtain⟨F,G,H,L,z,B,C,E⟩:=jJ u;obtain⟨y0,y1,y2,aL,g0,g1,g2,g3⟩:=jJ l;have T:=N (pA (x0:=Y I 3) (x1:=Y I 0) (x2:=A {data:=t.ai.toArray}) (x3:=Y I t.off) l);have n:=N (pB (x0:=Y I 3) (x1:=Y I 0) (x2:=A {data:=t.ai.toArray}) (x3:=Y I t.off) s (aG _));have U:=N (af.hn n.o (q:=a+1) (by rw[n2 (by omega),x6];exact ao.o.row) (by omega));clear s u l x6;go_wp2;refine bb (bX rfl _ _ w.heap.size 148 #[Y I 3,Y I 0,A {data:=t.ai.toArray},Y I t.off] (0,0) _ rfl T.o underlying148 rfl pz) rfl ?_;refine⟨n.o,?_⟩;rw[y.o,ac.o];exact⟨_,a+1,rfl,rfl,U.o,aC⟩
theorem lQ{P:Program}(w:World){ops:Array Oper}{o:Oper}{a:Act}{aE:Act→World→Prop}{Q:Exit→Act→World→Prop}{E:Prop}(k:o.guard=Z)(s x:Operand)(t:TypeId)(q:o.op=.call {callee:=.builtin .append,args:=#[s,x],argTypes:=#[t,t]})(base:Nat)(e:TypeId)(i:TypeInfo)(z:Value)(size bytes:Nat)(av:P.underlying t=O (.slice e))(aj:P.info? e=O i)(G:i.zero=O z)(y:i.size=size)(f:i.bytes=bytes)(H:z.cells.size=size)(B:0<size)(v:Value)(n:Nat)(xs:List Value)(aq:a.eval s=v)(r:w.ownsRow base e size v n xs)(b:Addr)(m c:Nat)(news:List Value)(F:a.eval x=J (O b) m c)(l:news.length=m*size)(p:∀j u,news[j]?=O u→w.cell? (b.add j)=O u)(h1:∀u∈news,u.oneCell'=K)(h63:n+m≤maxLen)(g:(n+m)*bytes≤140737488355328)(d:base≤w.heap.size)(h:∀bo w',w'.ownsRow base e size bo (n+m) (xs++news)→w.grownBy w' v.ownBlock→(bo=J Z 0 0↔v=J Z 0 0∧m=0)→aE (a.put o.dst bo) w'):if Region.wanted o (yielded ops a.tmps)=K then Oper.wp P o a w aE Q else E:=by
 have C:Region.wanted o (yielded ops a.tmps)=K:=by simp[Region.wanted,k]
 rw[if_pos C];exact wp_append_own w s x t q base e i z size bytes av aj G y f H B v n xs aq r b m c news F l p h1 h63 g d h
theorem iS(w:World)(B:Nat):Below B w w.drew:=⟨rfl,rfl,rfl,aG _,fun _ _=>rfl⟩
theorem CF{ad r:List ax}{t:ax}{q mM:Nat}(h1:ad.drop q=t::r)(h2:ad.drop mM=r)(c:mM≤ad.length):mM=q+1:=by
 have a:=congrArg List.length h1;have b:=congrArg List.length h2;simp only[cl,cT]at a b;omega
theorem b9.eu{w:World}{X:Nat}{v:Value}{ad:List ax}{a:Nat}{f:ab.a7}(h:b9 w X v ad a f):eu w X=a:=by
 unfold YtcmcicacdelmkaaGreatDoor.eu;rw[h.cells.2.1];rfl
theorem pC{w w':World}{X a b n:Nat}{v:Value}{ad:List ax}{f:ab.a7}(h:eu w X=a)(c:b9 w' X v ad b f)(d:a<b)(e:ad.length=n):n-eu w' X<n-eu w X:=by
 have:=c.le;rw[h,c.eu];omega
def dq(xs:List ab.bl):List Value:=xs.flatMap ho
theorem q6(xs:List ab.bl)(x:ab.bl):dq (xs++[x])=dq xs++ho x:=by
 simp[dq]
theorem CG(x:ab.bl):∀u∈ho x,u.oneCell'=K:=by
 intro u hu;simp only[ho,dz,List.not_mem_nil,or_false]at hu;rcases hu with rfl|rfl|rfl|rfl<;>rfl
theorem CH:(prog.info? 148).map (fun i=>(i.zero,i.size,i.bytes))=O (O (.agg #[Y I 0,Y I 0,A bq,Y I 0]),4,40):=by
 kernel_rfl
theorem vm:(prog.info? 82).map (·.size)=O 3:=by
 kernel_rfl
def CI(B:Nat)(x:ab.aV)(w:World)(u:Value):Prop:=∃aw,u=.agg #[A ⟨x.af.toArray⟩,aw,Y I x.off]∧w.ownsRow B 148 4 aw x.args.length (dq x.args)
def CJ(X:Nat)(v:Value)(ad:List ax)(f:ab.a7)(w:World)(res:ab.eT ab.aV)(e:Ending)(w':World):Prop:=mJ X v ad f w (CI w.heap.size) res e w'
theorem iA{w:World}{B:Nat}{a b c:Value}(h:w.heap[B]?=O (M #[a,b,c] 82)):w.cell? ⟨B,0,Z⟩=O a∧w.cell? ⟨B,1,Z⟩=O b∧w.cell? ⟨B,2,Z⟩=O c∧w.frozen? ⟨B,0,Z⟩=D∧w.frozen? ⟨B,1,Z⟩=D∧w.frozen? ⟨B,2,Z⟩=D:=by
 refine⟨?_,?_,?_,?_,?_,?_⟩<;>simp only[World.cell?,World.frozen?,h]<;>rfl
theorem kc{w:World}{R:Nat}{t:TypeId}{x0 x1 x2 u0 u1 u2:Value}(h:w.heap[R]?=O (M #[u0,u1,u2] t)):(((w.setCell ⟨R,0,Z⟩ x0).setCell ⟨R,1,Z⟩ x1).setCell ⟨R,2,Z⟩ x2).heap[R]?=O (M #[x0,x1,x2] t):=by
 simp[World.setCell,eE,h]
theorem vn{aA w:World}{X R:Nat}{x0 x1 x2:Value}(h:aR X aA w)(a:aA.heap.size≤R):aR X aA (((w.setCell ⟨R,0,Z⟩ x0).setCell ⟨R,1,Z⟩ x1).setCell ⟨R,2,Z⟩ x2):=((h.set (.inr a) _).set (.inr a) _).set (.inr a) _
theorem n3{w:World}{k R:Nat}{x0 x1 x2:Value}(h:k≠R):(((w.setCell ⟨R,0,Z⟩ x0).setCell ⟨R,1,Z⟩ x1).setCell ⟨R,2,Z⟩ x2).heap[k]?=w.heap[k]?:=by
 rw[bR _ _ _ _ h,bR _ _ _ _ h,bR _ _ _ _ h]
theorem kd{T:TypeId→Prop}{w:World}{R:Nat}{t0:TypeId}{x0 x1 x2 u0 u1 u2:Value}(h:w.heap[R]?=O (M #[u0,u1,u2] t0))(a:¬T t0):ag T w (((w.setCell ⟨R,0,Z⟩ x0).setCell ⟨R,1,Z⟩ x1).setCell ⟨R,2,Z⟩ x2):=fun k c t e av=>by
 rw[n3 (fun b=>by rw[b,h]at e;simp at e;exact a (by rw[e.2];exact av))];exact e
structure hV(aA:World)(X c:Nat)(v:Value)(ad:List ax)(f:ab.a7)(af:List UInt8)(off:Nat)(xs:List ab.bl)(q:Nat)(w:World):Prop where
 bZ:aR X aA w
 fe:b9 w X v ad q f
 res:w.heap[aA.heap.size]?=O (M #[A {data:=#[]},J Z 0 0,Y I 0] 82)
 lb:∃aw,w.heap[c]?=O (M #[A ⟨af.toArray⟩,aw,Y I off] 82)∧w.ownsRow aA.heap.size 148 4 aw xs.length (dq xs)
 dL:X<aA.heap.size
 ak:aA.heap.size<c
section
variable{aA w w':World}{X c:Nat}{v:Value}{ad:List ax}{f:ab.a7}{af:List UInt8}{off q mM:Nat}{xs:List ab.bl}
theorem hV.hn(h:hV aA X c v ad f af off xs q w)(ae:aR X w w')(a:b9 w' X v ad mM f):hV aA X c v ad f af off xs mM w':=by
 have k:ag (fun t=>t≠210) w w':=ag.bZ ae h.fe.row (by simp);obtain⟨aw,h1,h2⟩:=h.lb;exact⟨h.bZ.trans ae,a,k _ _ _ h.res (by decide),⟨aw,k _ _ _ h1 (by decide),k.own (by decide) h2⟩,h.dL,h.ak⟩
theorem hV.below(h:hV aA X c v ad f af off xs q w)(ae:Below w.heap.size w w'):hV aA X c v ad f af off xs q w':=h.hn (aR.of ae) (h.fe.below ae)
theorem hV.next(h:hV aA X c v ad f af off xs q w)(a:q<ad.length):hV aA X c v ad f af off xs (q+1) (w.setCell ⟨X,1,Z⟩ (Y I ((q:Int)+1))):=h.hn ((aR.refl X w).set (p:=⟨X,1,Z⟩) (.inl rfl) _) (h.fe.set (q:=q+1) a)
theorem hV.more(h:hV aA X c v ad f af off xs q w){o:Obj}{aw bo:Value}{al:World}{x:ab.bl}(h1:w.heap[c]?=O (M #[A ⟨af.toArray⟩,aw,Y I off] 82))(h2:w.ownsRow aA.heap.size 148 4 aw xs.length (dq xs))(b:(w.alloc o).grownBy al aw.ownBlock)(e:al.ownsRow aA.heap.size 148 4 bo (xs.length+1) (dq xs++ho x)):hV aA X c v ad f af off (xs++[x]) q (al.setCell ⟨c,1,Z⟩ bo)∧al.heap[c]?=O (M #[A ⟨af.toArray⟩,aw,Y I off] 82):=by
 have a:=h2.alloc o;have k:ag (fun t=>t≠148) w al:=(ag.alloc w o).trans (ag.grown b a (by simp));have c5:=k _ _ _ h1 (by decide);have d:ag (fun t=>t≠82) al (al.setCell ⟨c,1,Z⟩ bo):=ag.set (p:=⟨c,1,Z⟩) c5 (by simp);refine⟨⟨(vj (h.bZ.alloc o) b a (aG _)).set (p:=⟨c,1,Z⟩) (.inr (hK h.ak)) _,((h.fe.ah k (by decide) (by decide)).ah d (by decide) (by decide)),?_,⟨bo,?_,?_⟩,h.dL,h.ak⟩,c5⟩;·rw[bR _ _ _ _ (by have:=h.ak;simp;omega)];exact k _ _ _ h.res (by decide)
 ·simp[World.setCell,eE,c5]
 ·rw[ba,er,q6];exact d.own (by decide) e
end
theorem pD(X:Nat)(v:Value)(ad:List ax)(a:Nat)(f:ab.a7)(w:World)(vars:Bool)(aP:b9 w X v ad a f):Calls prog 97 #[V (O ⟨X,0,Z⟩),.bool vars] w (CJ X v ad f w (ab.dk f vars (ad.drop a))):=by
 obtain⟨i59,bi,cu,cw,cx⟩:=info_parts CH;have cZ:=lY;have dL:=aP.lt;have da:=aP.c';obtain⟨F,ap⟩:=aa (ab.dk f vars (ad.drop a));rw[←ap];have bV:=N ap;clear ap;obtain⟨w1,aE⟩:=aa (w.alloc (M #[A {data:=#[]},J Z 0 0,Y I 0] 82));have b2:b9 w1 X v ad a f:=by rw[aE];exact aP.alloc _
 have b1:Below w.heap.size w w1:=by rw[aE];exact bc _ _
 have ck:w1.heap[w.heap.size]?=O (M #[A {data:=#[]},J Z 0 0,Y I 0] 82):=by rw[aE];exact bm _ _
 have bu:W (w1.heap.size=w.heap.size+1):=N (by rw[aE];simp);have bW:=N aE;have ba:=N b1;have bT:=N ck;clear aE b1 ck;go_enter func97,ntmps97;go_upto_region 1 with fail;rw[←bW.o];go_wp2_with fail;refine(py X v ad a f _ 1 b2).mono ?_;rintro e an⟨ae,aq⟩;have ap:=bV.o;have aQ:=bV.o;rw[ab.yI]at aQ;cases ah:ab.cQ f 1 (ad.drop a)with|error aj=>rw[ah]at aq aQ;have aD:W (F=.error aj):=N aQ;have aq:e=fD aj:=aq;clear ap aQ;subst aq;refine⟨rfl,(aR.of ba.o).trans ae,?_⟩;rw[aD.o];rfl|ok cU=>obtain⟨t,r⟩:=cU;rw[ah]at aq;obtain⟨u,a2,hu,aq,cG,aS⟩:=aq;have hu:u=eR t:=hu;subst hu;subst aq;(have bB:t.kind=1∧ad.drop a=t::r:=by cases ar:ad.drop a with|nil=>rw[ar]at ah;simp[ab.cQ]at ah|cons cT b5=>rw[ar]at ah;by_cases h1:cT.kind=1;(·simp[ab.cQ,h1]at ah;rw[←ah.1,←ah.2];exact⟨h1,rfl⟩);·simp[ab.cQ,h1]at ah);rw[bB.2]at ap;have aD:=N ap;have bh:=N bB.1;have cp:=N ((aR.of ba.o).trans ae);(have cl:an.heap[w.heap.size]?=O (M #[A {data:=#[]},J Z 0 0,Y I 0] 82):=by rw[ae.block _ (by have:=bu.o;omega) (by omega)];exact bT.o);have bU:=N cl;have ct:=N cG;have bM:=N aS;have bY:=N ae.size;clear ap aQ ah ae cl bB aS b2;simp only[eR];go_upto_region 2 with fail;obtain⟨aU,a6⟩:=aa (an.alloc (M #[Y I t.kind,A {data:=t.ai.toArray},Y I t.int,Y I t.op,Y I t.off,Y I t.fin] 182));rw[←a6];(have t3:aU.heap[an.heap.size]?=O (M #[Y I t.kind,A {data:=t.ai.toArray},Y I t.int,Y I t.op,Y I t.off,Y I t.fin] 182):=by rw[a6];exact bm _ _);have bt:=N a6;obtain⟨b,bA⟩:=aa an.heap.size;rw[←bA]at t3⊢;have cn:=N bA;obtain⟨cP,aJ,a8,aF,cR,cS,f0,f1,f2,f3,f4,f5⟩:=dp t3;clear t3 a6 bA;go_upto_region 3 with fail;obtain⟨bG,a'⟩:=aa (aU.alloc (M #[A {data:=t.ai.toArray},J Z 0 0,Y I t.off] 82));rw[←a'];(have h32:Below an.heap.size an bG:=by rw[a',bt.o];exact(bc _ _).alloc (by simp) _);(have cK:aU.heap.size=an.heap.size+1:=by rw[bt.o];simp);(have c4:bG.heap[aU.heap.size]?=O (M #[A {data:=t.ai.toArray},J Z 0 0,Y I t.off] 82):=by rw[a'];exact bm _ _);obtain⟨c,b'⟩:=aa aU.heap.size;rw[←b']at c4⊢;(have cd:hV w X c v ad f t.ai t.off [] a2 bG:=by have dd:=bu.o;have de:=bY.o;refine⟨cp.o.trans (aR.of h32),ct.o.below h32,?_,⟨_,c4,⟨rfl,.inl ⟨rfl,rfl⟩⟩⟩,dL,by omega⟩;rw[h32.block _ (by omega)];exact bU.o);have aN:=N cd;have aK:=bM;clear a' h32 cK c4 b' cd cP aJ a8 aF cR cS f0 f1 f2 f3 f4 f5 cn bt bY bu bU bT ba bW;cases r with|nil=>have E:W (F=.error f):=N (by rw[aD.o];exact ab.yQ bh.o);go_wp2_with fail;refine(jI X v ad a2 f _ aK.o aN.o.fe).mono ?_;rintro e al⟨rfl,G⟩;refine⟨rfl,(aN.o.below G).bZ,?_⟩;rw[E.o];rfl|cons s r=>go_wp2_with fail;refine(gl X v ad a2 f _ s r aK.o aN.o.fe).mono ?_;rintro e al⟨rfl,G⟩;simp only[eR];have af:=N (aN.o.below G);clear G;by_cases h5:s.kind=5;(·(have b0:((s.kind:Int)!=5)=D:=by simp;omega);have bP:W (F=ab.gw f vars t.ai t.off [] r):=N (by rw[aD.o];exact ab.yO h5 bh.o);obtain⟨cJ,_,ca⟩:=gf aK.o;(have ch:IntKind.i64.wrap ((a2:Int)+1)=((a2+1:Nat):Int):=by rw[dc];omega);obtain⟨c0,c1,c2,c4,bv⟩:=af.o.fe.cells;have au:=N (af.o.next cJ);have bN:=N ca;clear h5 ca;go_wp2;clear c0 c1 c2 c4 bv b0 ch;go_loopw[](fun wr=>∃(xs:List ab.bl)(q:Nat),W (hV w X c v ad f t.ai t.off xs q wr)∧W (F=ab.gw f vars t.ai t.off xs (ad.drop q))∧xs.length≤8)(fun wr=>ad.length-eu wr X);(case atStart=>exact⟨[],a2+1,au,N (by rw[bP.o,bN.o]),by simp⟩);case round=>obtain⟨xs,q,ac,ao,aZ⟩:=hrel;clear au bN bP af aN aK bM aD;have bI:=N ac.o.fe.eu;obtain⟨aw,R,H⟩:=ac.o.lb;(obtain⟨i,j,rfl⟩:∃i j,aw=J i xs.length j:=by rcases db H with⟨h5,h6⟩|⟨g,cap,h5⟩;(·exact⟨Z,0,by rw[h5,h6]⟩);·exact⟨_,cap,h5⟩);obtain⟨cv,aB,C,g0,g1,g2⟩:=iA R;have bd:=N R;have bR:=N H;clear R H;by_cases h8:xs.length≥8;(·have cD:decide ((xs.length:Int)≥8)=K:=aY (by omega);have cE:decide (8≤xs.length)=K:=aY (by omega);cases ar:ad.drop q with|nil=>have E:W (F=.error f):=N (by rw[ao.o,ar];exact ab.te);have aI:=N ar;clear ar h8 aZ;go_wp2_with fail;refine(jI X v ad q f _ aI.o ac.o.fe).mono ?_;rintro e al⟨rfl,G⟩;refine⟨rfl,(ac.o.below G).bZ,?_⟩;rw[E.o];rfl|cons t2 a8=>have aI:=N ar;cases y:ab.bS vars t2.kind with|true=>have E:W (F=.error (22,t2.off)):=N (by rw[ao.o,ar];exact ab.yJ h8 y);have bp:=N y;clear ar h8 aZ y;go_wp2_with fail;refine(gl X v ad q f _ t2 a8 aI.o ac.o.fe).mono ?_;rintro e al⟨rfl,G⟩;simp only[eR];have bQ:=N (ac.o.below G);clear G;go_wp2_with fail;refine(pt t2.kind vars _).mono ?_;rintro e am⟨rfl,aT⟩;rw[aT,bp.o];clear aT am;go_wp2_with fail;refine(mK X v ad q f _ t2 a8 22 aI.o bQ.o.fe).mono ?_;rintro e am⟨rfl,cI⟩;refine⟨rfl,(bQ.o.below cI).bZ,?_⟩;rw[E.o];rfl|false=>have bp:=N y;obtain⟨aj,hF⟩:=aa (ab.ref t2);have br:W (F=.error aj):=N (by rw[ao.o,ar,hF];exact ab.tf y);have aO:W (ab.dt f vars (ad.drop q)=.error aj):=N (by rw[ar,hF];simp[ab.dt,y]);clear ar h8 aZ y hF;go_wp2_with fail;refine(gl X v ad q f _ t2 a8 aI.o ac.o.fe).mono ?_;rintro e am⟨rfl,G⟩;simp only[eR];have au:=N (ac.o.below G);have b8:am.heap[c]?=O (M #[A ⟨t.ai.toArray⟩,J i xs.length j,Y I t.off] 82):=ag.below (T:=fun _=>True) G _ _ _ bd.o trivial;clear G cv aB C g0 g1 g2;obtain⟨cv,aB,C,g0,g1,g2⟩:=iA b8;clear b8;go_wp2_with fail;refine(pt t2.kind vars _).mono ?_;rintro e U⟨rfl,aT⟩;rw[aT,bp.o];clear aT U;go_upto_region 8 with fail;have ak:=N (au.o.below (iS _ _));refine fj (fun x=>x.cell? ⟨c,1,Z⟩=O (J i xs.length j)) 8 (by kernel_rfl) ?_;have bx:am.drew.cell? ⟨c,1,Z⟩=O (J i xs.length j):=aB;refine dR 0 _ ?_ rfl rfl (by kernel_rfl) (fun _ _ _ h=>h) (by assumption) (Or.inl ⟨by rfl,fun x d=>?_⟩) ?_;rotate_left;(·have B:x.cell? ⟨c,1,Z⟩=O (J i xs.length j):=d;clear d;go_simp;try with_reducible rfl);(try simp only[Act.put,bK,bJ,bH]);refine dR 1 _ ?_ rfl rfl (by kernel_rfl) (fun _ _ _ h=>h) (by assumption) (Or.inl ⟨by rfl,fun x d=>?_⟩) ?_;rotate_left;(·have B:x.cell? ⟨c,1,Z⟩=O (J i xs.length j):=d;clear d;go_simp;try with_reducible rfl);(try simp only[Act.put,bK,bJ,bH]);refine dR 2 _ ?_ rfl rfl (by kernel_rfl) (fun _ _ _ h=>h) (by assumption) (Or.inl ⟨by rfl,fun x d=>?_⟩) ?_;rotate_left;(·have B:x.cell? ⟨c,1,Z⟩=O (J i xs.length j):=d;clear d;go_simp;try with_reducible rfl);(try simp only[Act.put,bK,bJ,bH]);refine dR 3 _ ?_ rfl rfl (by kernel_rfl) (fun _ _ _ h=>h) (by assumption) (Or.inl ⟨by rfl,fun x d=>?_⟩) ?_;rotate_left;(·have B:x.cell? ⟨c,1,Z⟩=O (J i xs.length j):=d;clear d;go_simp;try with_reducible rfl);(try simp only[Act.put,bK,bJ,bH]);refine d' 4 rfl (by kernel_rfl) (fun Q m=>?_);go_simp;go_at_call 120;refine(mL X v ad q f _ vars ak.o.fe).mono ?_;rintro e U⟨av,z⟩;rw[aO.o]at z;have z:e=fD aj:=z;subst z;refine⟨rfl,ak.o.bZ.trans av,?_⟩;rw[br.o];rfl);·have cD:decide ((xs.length:Int)≥8)=D:=a1 (by omega);have cE:decide (8≤xs.length)=D:=a1 (by omega);obtain⟨am,cj⟩:=aa wr;rw[←cj]at ac bd bR bI cv aB C g0 g1 g2⊢;clear cj;have au:=ac;cases k:ab.dt f vars (ad.drop q)with|error aj=>have aO:=N k;have br:W (F=.error aj):=N (by rw[ao.o];cases ar:ad.drop q with|nil=>rw[ar]at k;simp[ab.dt]at k;rw[←k];exact ab.te|cons t2 a8=>rw[ar]at k;cases y:ab.bS vars t2.kind with|true=>simp[ab.dt,y]at k|false=>simp[ab.dt,y]at k;rw[←k];exact ab.tf y);clear k h8 aZ;go_upto_region 8 with fail;have ak:=N (au.o.below (iS _ _));refine fj (fun x=>x.cell? ⟨c,1,Z⟩=O (J i xs.length j)) 8 (by kernel_rfl) ?_;have bx:am.drew.cell? ⟨c,1,Z⟩=O (J i xs.length j):=aB;refine dR 0 _ ?_ rfl rfl (by kernel_rfl) (fun _ _ _ h=>h) (by assumption) (Or.inl ⟨by rfl,fun x d=>?_⟩) ?_;rotate_left;(·have B:x.cell? ⟨c,1,Z⟩=O (J i xs.length j):=d;clear d;go_simp;try with_reducible rfl);(try simp only[Act.put,bK,bJ,bH]);refine dR 1 _ ?_ rfl rfl (by kernel_rfl) (fun _ _ _ h=>h) (by assumption) (Or.inl ⟨by rfl,fun x d=>?_⟩) ?_;rotate_left;(·have B:x.cell? ⟨c,1,Z⟩=O (J i xs.length j):=d;clear d;go_simp;try with_reducible rfl);(try simp only[Act.put,bK,bJ,bH]);refine dR 2 _ ?_ rfl rfl (by kernel_rfl) (fun _ _ _ h=>h) (by assumption) (Or.inl ⟨by rfl,fun x d=>?_⟩) ?_;rotate_left;(·have B:x.cell? ⟨c,1,Z⟩=O (J i xs.length j):=d;clear d;go_simp;try with_reducible rfl);(try simp only[Act.put,bK,bJ,bH]);refine dR 3 _ ?_ rfl rfl (by kernel_rfl) (fun _ _ _ h=>h) (by assumption) (Or.inl ⟨by rfl,fun x d=>?_⟩) ?_;rotate_left;(·have B:x.cell? ⟨c,1,Z⟩=O (J i xs.length j):=d;clear d;go_simp;try with_reducible rfl);(try simp only[Act.put,bK,bJ,bH]);refine d' 4 rfl (by kernel_rfl) (fun Q m=>?_);go_simp;go_at_call 120;refine(mL X v ad q f _ vars ak.o.fe).mono ?_;rintro e U⟨av,z⟩;rw[aO.o]at z;have z:e=fD aj:=z;subst z;refine⟨rfl,ak.o.bZ.trans av,?_⟩;rw[br.o];rfl|ok cX=>obtain⟨x,a8⟩:=cX;have aO:=N k;(obtain⟨t2,aS,B,cg⟩:∃t2,ad.drop q=t2::a8∧x=ab.e' t2∧ab.bS vars t2.kind=K:=by cases ar:ad.drop q with|nil=>rw[ar]at k;simp[ab.dt]at k|cons t2 aF=>rw[ar]at k;cases y:ab.bS vars t2.kind with|true=>simp[ab.dt,y]at k;exact⟨t2,by rw[k.2],k.1.symm,y⟩|false=>simp[ab.dt,y]at k);have l:W (ad.drop q=t2::a8∧x=ab.e' t2∧ab.bS vars t2.kind=K∧¬xs.length≥8):=N ⟨aS,B,cg,h8⟩;clear k aS B cg h8;go_upto_region 8 with fail;have ak:=N (au.o.below (iS _ _));refine fj (fun x=>x.cell? ⟨c,1,Z⟩=O (J i xs.length j)) 8 (by kernel_rfl) ?_;have bx:am.drew.cell? ⟨c,1,Z⟩=O (J i xs.length j):=aB;refine dR 0 _ ?_ rfl rfl (by kernel_rfl) (fun _ _ _ h=>h) (by assumption) (Or.inl ⟨by rfl,fun x d=>?_⟩) ?_;rotate_left;(·have B:x.cell? ⟨c,1,Z⟩=O (J i xs.length j):=d;clear d;go_simp;try with_reducible rfl);(try simp only[Act.put,bK,bJ,bH]);refine dR 1 _ ?_ rfl rfl (by kernel_rfl) (fun _ _ _ h=>h) (by assumption) (Or.inl ⟨by rfl,fun x d=>?_⟩) ?_;rotate_left;(·have B:x.cell? ⟨c,1,Z⟩=O (J i xs.length j):=d;clear d;go_simp;try with_reducible rfl);(try simp only[Act.put,bK,bJ,bH]);refine dR 2 _ ?_ rfl rfl (by kernel_rfl) (fun _ _ _ h=>h) (by assumption) (Or.inl ⟨by rfl,fun x d=>?_⟩) ?_;rotate_left;(·have B:x.cell? ⟨c,1,Z⟩=O (J i xs.length j):=d;clear d;go_simp;try with_reducible rfl);(try simp only[Act.put,bK,bJ,bH]);refine dR 3 _ ?_ rfl rfl (by kernel_rfl) (fun _ _ _ h=>h) (by assumption) (Or.inl ⟨by rfl,fun x d=>?_⟩) ?_;rotate_left;(·have B:x.cell? ⟨c,1,Z⟩=O (J i xs.length j):=d;clear d;go_simp;try with_reducible rfl);(try simp only[Act.put,bK,bJ,bH]);refine d' 4 rfl (by kernel_rfl) (fun Q m=>?_);go_simp;go_at_call 120;refine(mL X v ad q f _ vars ak.o.fe).mono ?_;rintro e U⟨av,z⟩;rw[aO.o]at z;obtain⟨u7,L,bD,z,b4,cb⟩:=z;have bD:u7=kH x:=bD;subst bD;subst z;have bg:=N (ak.o.hn av b4);have bF:ag (fun t=>t≠210) am.drew U:=ag.bZ av ak.o.fe.row (by simp);have aX:U.heap[c]?=O (M #[A ⟨t.ai.toArray⟩,J i xs.length j,Y I t.off] 82):=bF _ _ _ bd.o (by decide);have cf:U.ownsRow w.heap.size 148 4 (J i xs.length j) xs.length (dq xs):=bF.own (by decide) bR.o;have b6:=(iA aX).2.1;have b7:(U.alloc (M #[Y I x.kind,Y I x.int,A ⟨x.ai.toArray⟩,Y I x.off] 148)).cell? ⟨c,1,Z⟩=O (J i xs.length j):=(iA (ag.alloc (T:=fun _=>True) U _ _ _ _ aX trivial)).2.1;have bL:=N aX;have bk:=N cf;have aC:=N cb;clear av b4 bF aX cf cb cv aB C g0 g1 g2 bx;simp only[kH];refine m _ _ (fun _=>b6) ?_;clear m Q;(try simp only[Act.put,bK,bJ,bH]);refine d' 5 rfl (by kernel_rfl) (fun Q m=>?_);go_simp;refine m _ _ (fun _=>b7) ?_;clear m Q;(try simp only[Act.put,bK,bJ,bH]);refine d' 6 rfl (by kernel_rfl) (fun Q m=>?_);refine lQ _ (by rfl) _ _ 80 (by rfl) w.heap.size 148 i59 (.agg #[Y I 0,Y I 0,A bq,Y I 0]) 4 40 underlying80 bi cu cw cx rfl (by decide) (J i xs.length j) xs.length (dq xs) (by rfl) (by exact bk.o.alloc _) ⟨U.heap.size,0,Z⟩ 1 1 (ho x) (by rfl) (by rfl) (e3 (cs:=#[Y I x.kind,Y I x.int,A ⟨x.ai.toArray⟩,Y I x.off]) (t:=148) (fr:=(0,0)) (bm U _)) (CG x) (by unfold maxLen;omega) (by omega) (by have:=bg.o.bZ.size;simp;omega) ?_;intro df cV bC cc _;obtain⟨g8,c8,rfl⟩:=cM bC (by omega);have aV:=N (bg.o.more bL.o bk.o cc bC);have bz:=(iA aV.o.2).2.1;have cF:=(iA aV.o.2).2.2.2.2.1;clear bC cc b6 b7;refine m _ _ (fun _=>bz) ?_;clear m Q;(try simp only[Act.put,bK,bJ,bH]);refine d' 7 rfl (by kernel_rfl) (fun Q m=>?_);go_simp;refine m _ _ (fun _=>bz) ?_;clear m Q;(try simp only[Act.put,bK,bJ,bH]);refine d' 8 rfl (by kernel_rfl) (fun Q m=>?_);go_simp;refine m _ _ (fun h=>absurd rfl h) ?_;clear m Q;(try simp only[Act.put,bK,bJ,bH]);refine fB (by kernel_rfl) ?_ _;clear bz cF;obtain⟨cW,bE⟩:=aa (cV.setCell ⟨c,1,Z⟩ (J (O ⟨g8,0,Z⟩) (xs.length+1) c8));rw[←bE];have aM:W (hV w X c v ad f t.ai t.off (xs++[x]) L cW):=N (by rw[bE];exact aV.o.1);clear bE aV bL bk bg;have cq:W (L=q+1):=N (CF l.o.1 aC.o aM.o.fe.le);cases a8 with|nil=>have E:W (F=.error f):=N (by rw[ao.o,l.o.1];exact ab.yK l.o.2.2.2 l.o.2.2.1);go_wp2_with fail;refine(jI X v ad L f _ aC.o aM.o.fe).mono ?_;rintro e cm⟨rfl,aW⟩;refine⟨rfl,(aM.o.below aW).bZ,?_⟩;rw[E.o];rfl|cons C aF=>go_wp2_with fail;refine(gl X v ad L f _ C aF aC.o aM.o.fe).mono ?_;rintro e cm⟨rfl,aW⟩;simp only[eR];have aL:=N (aM.o.below aW);clear aW;have ce:=(gf aC.o).1;have bO:=N (gf aC.o).2.2;(have ch:IntKind.i64.wrap ((L:Int)+1)=((L+1:Nat):Int):=by rw[dc];omega);obtain⟨c0,c1,c2,c4,bv⟩:=aL.o.fe.cells;by_cases h7:C.kind=7;(·(have cC:=b3 C.kind 7 (by omega));have cr:W (F=ab.gw f vars t.ai t.off (xs++[x]) (ad.drop (L+1))):=N (by rw[ao.o,l.o.1,l.o.2.1,bO.o];exact ab.yL l.o.2.2.2 l.o.2.2.1 h7);have P:=N (aL.o.next ce);clear h7;go_wp2;go_roundw;(case rel=>exact⟨xs++[x],L+1,P,cr,by have:=l.o.2.2.2;simp;omega⟩);case measure=>exact pC bI.o P.o.fe (by have:=cq.o;omega) rfl);·(have cC:=ay C.kind 7 (by omega));by_cases h6:C.kind=6;(·(have cB:=b3 C.kind 6 (by omega));have E:W (F=.ok (⟨t.ai,xs++[x],t.off⟩,aF)):=N (by rw[ao.o,l.o.1,l.o.2.1];exact ab.yM l.o.2.2.2 l.o.2.2.1 h6);have P:=N (aL.o.next ce);clear h7 h6;go_upto_region 15 with fail;obtain⟨dh,ci⟩:=aa (cm.setCell ⟨X,1,Z⟩ (Y I ((L:Int)+1)));rw[←ci]at P⊢;clear ci c0 c1 c2 c4 bv;obtain⟨aw,R,H⟩:=P.o.lb;(obtain⟨n,p,rfl⟩:∃n p,aw=J n (xs++[x]).length p:=by rcases db H with⟨h5,h6⟩|⟨g,cap,h5⟩;(·exact⟨Z,0,by rw[h5];rw[h6]⟩);·exact⟨_,cap,h5⟩);obtain⟨S,aA⟩:=aa ((xs++[x]).length);rw[←aA]at R H;have bj:=N aA;clear aA;obtain⟨cy,cz,cA,z0,cY,z2⟩:=iA R;obtain⟨y0,y1,y2,cL,cN,cO⟩:=iA P.o.res;have be:=N (kc (x0:=A {data:=t.ai.toArray}) (x1:=J n S p) (x2:=Y I t.off) P.o.res);have aH:=N (vn (x0:=A {data:=t.ai.toArray}) (x1:=J n S p) (x2:=Y I t.off) P.o.bZ (aG _));have bo:=N (aP.hn aH.o (q:=(L+1)) (by rw[n3 (by omega)];exact P.o.fe.row) P.o.fe.le);have bn:=N ((kd (T:=fun t=>t=148) (x0:=A {data:=t.ai.toArray}) (x1:=J n S p) (x2:=Y I t.off) P.o.res (by decide)).own rfl H);clear R H;go_wp2;refine bb (bX rfl _ _ w.heap.size 82 #[A {data:=t.ai.toArray},J n S p,Y I t.off] (0,0) _ rfl be.o underlying82 rfl vm) rfl ?_;refine⟨aH.o,?_⟩;rw[E.o];exact⟨_,(L+1),⟨J n S p,rfl,by have:=bn.o;rw[bj.o]at this⊢;exact this⟩,rfl,bo.o,bO.o⟩);·(have cB:=ay C.kind 6 (by omega));have E:W (F=.error (ab.ref C)):=N (by rw[ao.o,l.o.1];exact ab.yN l.o.2.2.2 l.o.2.2.1 h7 h6);clear h7 h6;go_wp2_with fail;refine(n1 X v ad L f _ C aF aC.o aL.o.fe).mono ?_;rintro e dl⟨rfl,cH⟩;refine⟨rfl,(aL.o.below cH).bZ,?_⟩;rw[E.o];rfl);·(have b0:((s.kind:Int)!=5)=K:=by simp;omega);have E:W (F=.ok (⟨t.ai,[],t.off⟩,s::r)):=N (by rw[aD.o];exact ab.yP h5 bh.o);clear h5;obtain⟨aw,R,H⟩:=af.o.lb;(obtain⟨n,p,rfl⟩:∃n p,aw=J n ([]:List ab.bl).length p:=by rcases db H with⟨h5,h6⟩|⟨g,cap,h5⟩;(·exact⟨Z,0,by rw[h5];rw[h6]⟩);·exact⟨_,cap,h5⟩);obtain⟨S,aA⟩:=aa (([]:List ab.bl).length);rw[←aA]at R H;have bj:=N aA;clear aA;obtain⟨cy,cz,cA,z0,cY,z2⟩:=iA R;obtain⟨y0,y1,y2,cL,cN,cO⟩:=iA af.o.res;have be:=N (kc (x0:=A {data:=t.ai.toArray}) (x1:=J n S p) (x2:=Y I t.off) af.o.res);have aH:=N (vn (x0:=A {data:=t.ai.toArray}) (x1:=J n S p) (x2:=Y I t.off) af.o.bZ (aG _));have bo:=N (aP.hn aH.o (q:=a2) (by rw[n3 (by omega)];exact af.o.fe.row) af.o.fe.le);have bn:=N ((kd (T:=fun t=>t=148) (x0:=A {data:=t.ai.toArray}) (x1:=J n S p) (x2:=Y I t.off) af.o.res (by decide)).own rfl H);clear R H;go_wp2;refine bb (bX rfl _ _ w.heap.size 82 #[A {data:=t.ai.toArray},J n S p,Y I t.off] (0,0) _ rfl be.o underlying82 rfl vm) rfl ?_;refine⟨aH.o,?_⟩;rw[E.o];exact⟨_,a2,⟨J n S p,rfl,by have:=bn.o;rw[bj.o]at this⊢;exact this⟩,rfl,bo.o,aK.o⟩
theorem q7:(prog.info? 150).map (·.size)=O 14:=by
 kernel_rfl
theorem vo{w:World}{R:Nat}{x0 x1 x2 x3 x4 x5 x6 x7 e f a b c d u0 u1 u2 u3 u4 u5 u6 u7 u8 u9 u10 u11 u12 u13:Value}(h:w.heap[R]?=O (M #[u0,u1,u2,u3,u4,u5,u6,u7,u8,u9,u10,u11,u12,u13] 150)):((((((((((((((w.setCell ⟨R,0,Z⟩ x0).setCell ⟨R,1,Z⟩ x1).setCell ⟨R,2,Z⟩ x2).setCell ⟨R,3,Z⟩ x3).setCell ⟨R,4,Z⟩ x4).setCell ⟨R,5,Z⟩ x5).setCell ⟨R,6,Z⟩ x6).setCell ⟨R,7,Z⟩ x7).setCell ⟨R,8,Z⟩ e).setCell ⟨R,9,Z⟩ f).setCell ⟨R,10,Z⟩ a).setCell ⟨R,11,Z⟩ b).setCell ⟨R,12,Z⟩ c).setCell ⟨R,13,Z⟩ d).heap[R]?=O (M #[x0,x1,x2,x3,x4,x5,x6,x7,e,f,a,b,c,d] 150):=by
 simp[World.setCell,eE,h]
theorem vp{aA w:World}{X R:Nat}{x0 x1 x2 x3 x4 x5 x6 x7 f g b c d e:Value}(h:aR X aA w)(a:aA.heap.size≤R):aR X aA ((((((((((((((w.setCell ⟨R,0,Z⟩ x0).setCell ⟨R,1,Z⟩ x1).setCell ⟨R,2,Z⟩ x2).setCell ⟨R,3,Z⟩ x3).setCell ⟨R,4,Z⟩ x4).setCell ⟨R,5,Z⟩ x5).setCell ⟨R,6,Z⟩ x6).setCell ⟨R,7,Z⟩ x7).setCell ⟨R,8,Z⟩ f).setCell ⟨R,9,Z⟩ g).setCell ⟨R,10,Z⟩ b).setCell ⟨R,11,Z⟩ c).setCell ⟨R,12,Z⟩ d).setCell ⟨R,13,Z⟩ e):=((((((((((((((h.set (.inr a) _).set (.inr a) _).set (.inr a) _).set (.inr a) _).set (.inr a) _).set (.inr a) _).set (.inr a) _).set (.inr a) _).set (.inr a) _).set (.inr a) _).set (.inr a) _).set (.inr a) _).set (.inr a) _).set (.inr a) _)
theorem n4{w:World}{k R:Nat}{x0 x1 x2 x3 x4 x5 x6 x7 e f a b c d:Value}(h:k≠R):((((((((((((((w.setCell ⟨R,0,Z⟩ x0).setCell ⟨R,1,Z⟩ x1).setCell ⟨R,2,Z⟩ x2).setCell ⟨R,3,Z⟩ x3).setCell ⟨R,4,Z⟩ x4).setCell ⟨R,5,Z⟩ x5).setCell ⟨R,6,Z⟩ x6).setCell ⟨R,7,Z⟩ x7).setCell ⟨R,8,Z⟩ e).setCell ⟨R,9,Z⟩ f).setCell ⟨R,10,Z⟩ a).setCell ⟨R,11,Z⟩ b).setCell ⟨R,12,Z⟩ c).setCell ⟨R,13,Z⟩ d).heap[k]?=w.heap[k]?:=by
 rw[bR _ _ _ _ h,bR _ _ _ _ h,bR _ _ _ _ h,bR _ _ _ _ h,bR _ _ _ _ h,bR _ _ _ _ h,bR _ _ _ _ h,bR _ _ _ _ h,bR _ _ _ _ h,bR _ _ _ _ h,bR _ _ _ _ h,bR _ _ _ _ h,bR _ _ _ _ h,bR _ _ _ _ h]
theorem vq{T:TypeId→Prop}{w:World}{R:Nat}{x0 x1 x2 x3 x4 x5 x6 x7 j l d f g i u0 u1 u2 u3 u4 u5 u6 u7 u8 u9 u10 u11 u12 u13:Value}(h:w.heap[R]?=O (M #[u0,u1,u2,u3,u4,u5,u6,u7,u8,u9,u10,u11,u12,u13] 150))(a:¬T 150):ag T w ((((((((((((((w.setCell ⟨R,0,Z⟩ x0).setCell ⟨R,1,Z⟩ x1).setCell ⟨R,2,Z⟩ x2).setCell ⟨R,3,Z⟩ x3).setCell ⟨R,4,Z⟩ x4).setCell ⟨R,5,Z⟩ x5).setCell ⟨R,6,Z⟩ x6).setCell ⟨R,7,Z⟩ x7).setCell ⟨R,8,Z⟩ j).setCell ⟨R,9,Z⟩ l).setCell ⟨R,10,Z⟩ d).setCell ⟨R,11,Z⟩ f).setCell ⟨R,12,Z⟩ g).setCell ⟨R,13,Z⟩ i):=fun k c t e av=>by
 rw[n4 (fun b=>by rw[b,h]at e;simp at e;exact a (by rw[e.2];exact av))];exact e
theorem CK{w:World}{R:Nat}{x4 u0 u1 u2 u3 u4 u5 u6 u7 u8 u9 u10 u11 u12 u13:Value}(h:w.heap[R]?=O (M #[u0,u1,u2,u3,u4,u5,u6,u7,u8,u9,u10,u11,u12,u13] 150)):(w.setCell ⟨R,4,Z⟩ x4).heap[R]?=O (M #[u0,u1,u2,u3,x4,u5,u6,u7,u8,u9,u10,u11,u12,u13] 150):=by
 simp[World.setCell,eE,h]
theorem CL{w:World}{R:Nat}{d a b c u0 u1 u2 u3 u4 u5 u6 u7 u8 u9 u10 u11 u12 u13:Value}(h:w.heap[R]?=O (M #[u0,u1,u2,u3,u4,u5,u6,u7,u8,u9,u10,u11,u12,u13] 150)):((((w.setCell ⟨R,9,Z⟩ d).setCell ⟨R,10,Z⟩ a).setCell ⟨R,11,Z⟩ b).setCell ⟨R,12,Z⟩ c).heap[R]?=O (M #[u0,u1,u2,u3,u4,u5,u6,u7,u8,d,a,b,c,u13] 150):=by
 simp[World.setCell,eE,h]
theorem gA{w:World}{B:Nat}{x0 x1 x2 x3 x4 x5 x6 x7 e f a b c d:Value}(h:w.heap[B]?=O (M #[x0,x1,x2,x3,x4,x5,x6,x7,e,f,a,b,c,d] 150)):w.cell? ⟨B,0,Z⟩=O x0∧w.cell? ⟨B,1,Z⟩=O x1∧w.cell? ⟨B,2,Z⟩=O x2∧w.cell? ⟨B,3,Z⟩=O x3∧w.cell? ⟨B,4,Z⟩=O x4∧w.cell? ⟨B,5,Z⟩=O x5∧w.cell? ⟨B,6,Z⟩=O x6∧w.cell? ⟨B,7,Z⟩=O x7∧w.cell? ⟨B,8,Z⟩=O e∧w.cell? ⟨B,9,Z⟩=O f∧w.cell? ⟨B,10,Z⟩=O a∧w.cell? ⟨B,11,Z⟩=O b∧w.cell? ⟨B,12,Z⟩=O c∧w.cell? ⟨B,13,Z⟩=O d∧w.frozen? ⟨B,0,Z⟩=D∧w.frozen? ⟨B,1,Z⟩=D∧w.frozen? ⟨B,2,Z⟩=D∧w.frozen? ⟨B,3,Z⟩=D∧w.frozen? ⟨B,4,Z⟩=D∧w.frozen? ⟨B,5,Z⟩=D∧w.frozen? ⟨B,6,Z⟩=D∧w.frozen? ⟨B,7,Z⟩=D∧w.frozen? ⟨B,8,Z⟩=D∧w.frozen? ⟨B,9,Z⟩=D∧w.frozen? ⟨B,10,Z⟩=D∧w.frozen? ⟨B,11,Z⟩=D∧w.frozen? ⟨B,12,Z⟩=D∧w.frozen? ⟨B,13,Z⟩=D:=by
 refine⟨?_,?_,?_,?_,?_,?_,?_,?_,?_,?_,?_,?_,?_,?_,?_,?_,?_,?_,?_,?_,?_,?_,?_,?_,?_,?_,?_,?_⟩<;>simp only[World.cell?,World.frozen?,h]<;>rfl
def fq(x:ab.Lit)(aw:Value):List Value:=[Y I x.kind,A ⟨x.aB.af.toArray⟩,aw,Y I x.aB.off,Y I x.op,Y I x.left.kind,Y I x.left.int,A ⟨x.left.ai.toArray⟩,Y I x.left.off,Y I x.right.kind,Y I x.right.int,A ⟨x.right.ai.toArray⟩,Y I x.right.off,Y I x.off]
def CM(B:Nat)(x:ab.Lit)(w:World)(u:Value):Prop:=∃aw,u=.agg (fq x aw).toArray∧w.ownsRow B 148 4 aw x.aB.args.length (dq x.aB.args)
def CN(X:Nat)(v:Value)(ad:List ax)(f:ab.a7)(w:World)(res:ab.eT ab.Lit)(e:Ending)(w':World):Prop:=mJ X v ad f w (CM w.heap.size) res e w'
inductive cW{α:Type}(R:α→List Value→Prop):List α→List (List Value)→Prop|nil:cW R [] []|cons{x:α}{r:List Value}{xs:List α}{rs:List (List Value)}:R x r→cW R xs rs→cW R (x::xs) (r::rs)
section
variable{α:Type}{R R':α→List Value→Prop}{xs:List α}{rs:List (List Value)}{x:α}{r:List Value}
theorem cW.imp(h:cW R xs rs)(aj:∀x r,R x r→R' x r):cW R' xs rs:=by
 induction h with|nil=>exact .nil|cons h1 _ a=>exact .cons (aj _ _ h1) a
theorem cW.snoc(h:cW R xs rs)(a:R x r):cW R (xs++[x]) (rs++[r]):=by
 induction h with|nil=>exact .cons a .nil|cons h1 _ b=>exact .cons h1 b
theorem cW.len(h:cW R xs rs):rs.length=xs.length:=by
 induction h with|nil=>rfl|cons _ _ a=>simp[a]
theorem cW.at(h:cW R xs rs)(i:Nat)(aj:i<xs.length):∃d:i<rs.length,R xs[i] rs[i]:=by
 induction h generalizing i with|nil=>simp at aj|cons h1 _ a=>cases i with|zero=>exact⟨by simp,h1⟩|succ i=>obtain⟨b,c⟩:=a i (by simpa using aj);exact⟨by simpa using b,c⟩
theorem q8{m:Nat}(h:cW R xs rs)(a:∀x r,R x r→r.length=m)(i:Nat)(aj:i<rs.length)(j:Nat)(b:j<m):rs.flatten[i*m+j]?=rs[i][j]?:=by
 induction h generalizing i with|nil=>simp at aj|cons h1 _ c=>simp only[List.flatten_cons];cases i with|zero=>rw[Nat.zero_mul,Nat.zero_add,ie (by rw[a _ _ h1];exact b)];rfl|succ i=>rw[jU (by rw[a _ _ h1,Nat.add_mul];omega),a _ _ h1];rw[show(i+1)*m+j-m=i*m+j by rw[Nat.add_mul];omega];exact c i (by simpa using aj)
end
def bh{α:Type}(R:World→α→List Value→Prop)(B:Nat)(T:TypeId)(m:Nat)(xs:List α)(w:World)(u:Value):Prop:=∃rows,cW (R w) xs rows∧w.ownsRow B T m u xs.length rows.flatten
section
variable{α:Type}{R:World→α→List Value→Prop}{B cV m:Nat}{T:TypeId}{xs:List α}{w w' al:World}{u bo:Value}{x:α}{row:List Value}{rows:List (List Value)}
theorem bh.ah(h:bh R B T m xs w u){Q:TypeId→Prop}(k:ag Q w w')(b:Q T)(a:∀x r,R w x r→R w' x r):bh R B T m xs w' u:=by
 obtain⟨rows,h1,h2⟩:=h;exact⟨rows,h1.imp a,k.own b h2⟩
theorem bh.mono(h:bh R B T m xs w u)(ae:cV≤B){R':World→α→List Value→Prop}(a:∀x r,R w x r→R' w x r):bh R' cV T m xs w u:=by
 obtain⟨rows,h1,h2⟩:=h;exact⟨rows,h1.imp a,cL h2 ae⟩
theorem bh.nil:bh R B T m ([]:List α) w (J Z 0 0):=⟨[],.nil,by simp,.inl ⟨rfl,rfl⟩⟩
theorem bh.form(h:bh R B T m xs w u):∃a c,u=J a xs.length c:=by
 obtain⟨rows,h1,h2⟩:=h;rcases db h2 with⟨h5,h6⟩|⟨g,cap,h5⟩;·exact⟨Z,0,by rw[h5,h6]⟩
 ·exact⟨_,cap,h5⟩
theorem q9{o:Obj}(h1:cW (R w) xs rows)(h2:w.ownsRow B T m u xs.length rows.flatten)(d:R w x row)(b:(w.alloc o).grownBy al u.ownBlock)(c:al.ownsRow B T m bo (xs.length+1) (rows.flatten++row))(a:∀x r,R w x r→ag (fun t=>t≠T) w al→R al x r):bh R B T m (xs++[x]) al bo:=by
 have k:ag (fun t=>t≠T) w al:=(ag.alloc w o).trans (ag.grown b (h2.alloc o) (by simp));refine⟨rows++[row],(h1.imp (fun x r h=>a x r h k)).snoc (a _ _ d k),?_⟩;rw[ba,er,List.flatten_append];simpa using c
end
def jf(B:Nat)(w:World)(x:ab.Lit)(row:List Value):Prop:=∃aw,row=fq x aw∧w.ownsRow B 148 4 aw x.aB.args.length (dq x.aB.args)
theorem jf.ah{B:Nat}{w w':World}{x:ab.Lit}{row:List Value}{Q:TypeId→Prop}(h:jf B w x row)(k:ag Q w w')(a:Q 148):jf B w' x row:=by
 obtain⟨aw,h1,h2⟩:=h;exact⟨aw,h1,k.own a h2⟩
theorem jf.mono{B cV:Nat}{w:World}{x:ab.Lit}{row:List Value}(h:jf B w x row)(ae:cV≤B):jf cV w x row:=by
 obtain⟨aw,h1,h2⟩:=h;exact⟨aw,h1,cL h2 ae⟩
theorem CO(x:ab.Lit){a:Option Addr}{n c:Nat}:∀u∈fq x (J a n c),u.oneCell'=K:=by
 intro u hu;simp only[fq,dz,List.not_mem_nil,or_false]at hu;rcases hu with rfl|rfl|rfl|rfl|rfl|rfl|rfl|rfl|rfl|rfl|rfl|rfl|rfl|rfl<;>rfl
abbrev ct(B:Nat):List ab.Lit→World→Value→Prop:=bh (jf B) B 150 14
theorem ct.ah{B:Nat}{xs:List ab.Lit}{w w':World}{u:Value}{Q:TypeId→Prop}(h:ct B xs w u)(k:ag Q w w')(h1:Q 148)(h2:Q 150):ct B xs w' u:=bh.ah h k h2 (fun _ _ h=>h.ah k h1)
theorem ct.mono{B cV:Nat}{xs:List ab.Lit}{w:World}{u:Value}(h:ct B xs w u)(ae:cV≤B):ct cV xs w u:=bh.mono h ae (fun _ _ h=>h.mono ae)
theorem CP:(prog.info? 150).map (fun i=>(i.zero,i.size,i.bytes))=O (O (.agg #[Y I 0,A bq,J Z 0 0,Y I 0,Y I 0,Y I 0,Y I 0,A bq,Y I 0,Y I 0,Y I 0,A bq,Y I 0,Y I 0]),14,152):=by
 kernel_rfl
def CQ(X:Nat)(v:Value)(ad:List ax)(f:ab.a7)(w:World)(l:List ax)(e:Ending)(w':World):Prop:=∃res,ab.et f 0 l res∧mJ X v ad f w (ct w.heap.size) res e w'
end Go.Proofs.YtcmcicacdelmkaaGreatDoor
