/- Part 4 of the proof of RaftOut; no condition. -/
import Derived.Test.YtjhmkaninmgilaaS03
import Derived.Shelf.Sort.Plain
import Derived.Shelf.Slices.In.SortNone
import Derived.Shelf.Slices.CompactI
import Derived.Shelf.Slices.Clone
import Derived.Sort.OwnSortedInts
import Derived.Lib.OwnBridge
import Derived.ProofKit
import Derived.OpenShut
import Derived.Test.YtjhmkaninmgilaaProg
set_option linter.defProp false
set_option linter.unusedVariables false
set_option linter.unusedSimpArgs false
set_option maxHeartbeats 4000000
namespace Go.dI
open Go Go.RowKit
def mw:Nat->List bB->List SC
 |_,[] => []
 |k,c::r=>nH true 0 (.var k) c::mw (k+1) r
def r7:Nat->List bB->List (Tag×Tao (E×Tba×Ty))
 |_,[] => []
 |k,c::r=>kx 0 (.var k) c++r7 (k+1) r
def im(l:List Bool):Nat:=(l.filter fun b=> !b).length
def oZ(c:Nat)(b:List (List bB))(o:Nat):Nat:=c+(b.take o).flatten.length
def zi(ob:Ob):Tak:=if hY ob.shape<ob.cB.length then some (ob.cB.length-1) else none
def St.nF(b:dH)(ob:Ob):St:=
 ⟨fun i=>match ob.shape[i]? with
   |some false=>(b.params[im (ob.shape.take i)]?).map fun d=>([],.one (.gz (.var (im (ob.shape.take i))) d))
   |some true=>some ([],.one (.pJ (hY (ob.shape.take i)) 0))
   |none=>none,
  fun o=>(ob.cB[o]?).map fun c=>(false,tX (zi ob) c (mw (oZ (im ob.shape) ob.cB o) c)),
  eT (fun _=>none) (r7 (im ob.shape) ob.cB.flatten)⟩
def YZ(P:Tap)(σ:St)(b:dH)(ob:Ob)(fn:Func):Tao (E×kS×Tah):=
 match ob.new with
 |true=>match fn.results.toList with
  | [.tmp t] =>match σ.tm t with
   |some ([],.one (.pJ id 0))=>if ob.cB.length<=id then some (.un .eS .nil,[],[id]) else none
   |_=>none
  |_=>none
 |false=>match jl P σ b.res fn.results.toList with
  |some (es,l)=>some ((match b.res,es with| [_],[e] =>e|_,es=>.un .eS (.V es)),l,[])
  |none=>none
def uW(σ:St)(ob:Ob)(fr:Tah):Tah:=if ob.mv then List.range (ob.cB.length-1)++(match σ.hp 0,ob.outs with
  |some (_,cs),rc::_=>(HJ rc cs).toList
  |_,_=> []) else List.range ob.cB.length++fr
def UL(ob:Ob)(ids:Tah):Tak:=if ob.mv then ids[ob.cB.length-1]? else zi ob
def yW(P:Tap)(b:dH)(ob:Ob)(fn:Func)(σ:St):VC:=
 match YZ P σ b ob fn with
 |some (e,l,fr)=>match tF σ ob.outs (uW σ ob fr) with
  |some (Xz,ls)=>if oY (l++ls)&&xY σ ob.outs (uW σ ob fr) (UL ob (uW σ ob fr))&&(!ob.mv||decide ((uW σ ob fr).Nodup)) then .ret (.un .eS (.cons e (.V (Xz.map fun c=>.un .agg (.V c))))) else .stuck 10
  |none=>.stuck 12
 |none=>.stuck 11
def TX(fn:Func)(b:dH)(ob:Ob):Bool:=
 fn.body.isSome&& !(fn.name== "runtime.NumGoroutine")&&decide (ob.shape.length<=fn.ntmps)&&decide (0<b.params.length)&&decide (ob.cB.length<=b.params.length)&&(ob.cB.all fun c=>c.all Y0)&&
 decide (b.params.length=im ob.shape+ob.cB.flatten.length)&&decide (hY ob.shape<=ob.cB.length)&&decide (ob.jz.Nodup)&&decide (ob.outs.length=ob.cB.length+ob.new.toNat)&&(!ob.new||b.res.isEmpty)&&(!ob.mv||decide (hY ob.shape<ob.cB.length))
def qu: ∀(l:List bB) (k i:Nat),(mw k l)[i]? =(l[i]?).map fun c=>nH true 0 (.var (k+i)) c
 | [],k,i=>by simp[mw]
 |c::l,k,0=>by simp[mw]
 |c::l,k,i+1=>by simp only[mw,dm,qu l (k+1) i];congr 2;funext c;congr 2;omega
def vP: ∀(l:List bB) (k:Nat),(mw k l).length=l.length
 | [],_=>rfl
 |_::l,k=>by simp[mw,vP l]
def xw: ∀{l:List bB} {k:Nat} {x},x∈r7 k l-> ∃(i:Nat) (c:bB),l[i]? =some c∧x∈kx 0 (.var (k+i)) c
 | [],k,x,h=>by simp[r7]at h
 |c::l,k,x,h=>by
  simp only[r7,aI]at h;rcases h with h|h
  ·exact⟨0,c,rfl,h⟩
  ·obtain⟨i,e,d,b⟩:=xw h;exact⟨i+1,e,by simpa using d,by rw[show k+(i+1)=k+1+i by omega];exact b⟩
def xG{b:Type}: ∀{ls:List (List b)} {i:Nat} {x:b},ls.flatten[i]? =some x-> ∃(o c:Nat) (l:List b),ls[o]? =some l∧l[c]? =some x∧i=(ls.take o).flatten.length+c
 | [],i,x,h=>by simp at h
 |l::ls,i,x,h=>by
  rw[eD]at h;by_cases e:i<l.length
  ·rw[aq e]at h;exact⟨0,i,l,rfl,h,by simp⟩
  ·rw[aN (by omega)]at h;obtain⟨o,c,d,g,f,j⟩:=xG h;exact⟨o+1,c,d,by simpa using g,f,by simp only[fQ,eD,ah];omega⟩
def uw{b:Type}: ∀{ls:List (List b)} {o c:Nat} {l:List b} {x:b},ls[o]? =some l->l[c]? =some x->ls.flatten[(ls.take o).flatten.length+c]? =some x
 | [],o,c,l,x,h,_=>by simp at h
 |l'::ls,0,c,l,x,h,h'=>by simp at h;subst h;have d:c<l'.length:=(aG.1 h').1;simp only[List.take_zero,List.flatten_nil,fO,ao,eD];rw[aq d];exact h'
 |l'::ls,o+1,c,l,x,h,h'=>by have:=uw (ls:=ls) (o:=o) (c:=c) (by simpa using h) h';simp only[fQ,eD,ah];rw[aN (by omega),show l'.length+(ls.take o).flatten.length+c-l'.length=(ls.take o).flatten.length+c by omega];exact this
def vW{b β:Type}: ∀{xs:List (List b)} {ys:List (List β)},xs.length=ys.length->(∀(i:Nat) x y,xs[i]? =some x->ys[i]? =some y->x.length=y.length)-> ∀o,(xs.take o).flatten.length=(ys.take o).flatten.length
 | [],[],_,_,o=>by simp
 | [],_::_,h,_,_=>by simp at h
 |_::_,[],h,_,_=>by simp at h
 |x::xs,y::ys,h,h',0=>by simp
 |x::xs,y::ys,h,h',o+1=>by have:=vW (xs:=xs) (ys:=ys) (by simpa using h) (fun i x y d c=>h' (i+1) x y (by simpa using d) (by simpa using c)) o;simp only[fQ,eD,ah,this,h' 0 x y rfl rfl]
def xd{w:Tam}{S:bz}{β:Nat->Nat}: ∀{c:List Bool} {k:Nat} {vs:Tac} {dd:Taf},rn w S β c k vs dd->vs.length=c.length∧dd.length=im c∧
  ∀(i:Nat) b,c[i]? =some b-> ∃v,vs[i]? =some v∧(if b then v= .pointer (some ⟨β (k+hY (c.take i)),0,none⟩) else∃d,dd[im (c.take i)]? =some d∧ca w S v d)
 | [],k,[],[],_=>⟨rfl,rfl,by intro i b h;simp at h⟩
 |true::c,k,v::vs,dd,⟨h1,h2⟩=>by
  obtain⟨l,j,g⟩:=xd h2;refine⟨by simp[l],by simp[im,j],fun i b e=> ?_⟩;cases i with
  |zero=>simp at e;subst e;exact⟨v,rfl,by simpa [hY]using h1⟩
  |succ i=>
   obtain⟨u,m,f⟩:=g i b (by simpa using e);refine⟨u,by simpa using m,?_⟩;cases b with
   |true=>simp only[if_true]at f⊢;rw[f];simp only[fQ,hY,List.filter_cons,if_true,bu];rw[show k+1+(List.filter (fun b=>b) (List.take i c)).length=k+((List.filter (fun b=>b) (List.take i c)).length+1) by omega]
   |false=>simpa [im]using f
 |false::c,k,v::vs,d::dd,⟨h1,h2⟩=>by
  obtain⟨l,j,g⟩:=xd h2;refine⟨by simp[l],by simp only[im,List.filter_cons,Bool.not_false,if_true,bu]at j⊢;omega,fun i b e=> ?_⟩;cases i with
  |zero=>simp at e;subst e;exact⟨v,rfl,by simpa [im]using h1⟩
  |succ i=>
   obtain⟨u,m,f⟩:=g i b (by simpa using e);refine⟨u,by simpa using m,?_⟩;cases b with
   |true=>simpa [hY]using f
   |false=>simpa [im]using f
 | [],_,_::_,_,h=>by simp[rn]at h
 | [],_,[],_::_,h=>by simp[rn]at h
 |true::_,_,[],_,h=>by simp[rn]at h
 |false::_,_,[],_,h=>by simp[rn]at h
 |false::_,_,_::_,[],h=>by simp[rn]at h
def Ci: ∀{l:List Bool} {i:Nat},l[i]? =some true->hY (l.take i)<hY l
 | [],i,h=>by simp at h
 |b::l,0,h=>by simp at h;subst h;simp[hY]
 |b::l,i+1,h=>by have:=Ci (l:=l) (i:=i) (by simpa using h);unfold hY at this⊢;cases b<;>simp at this⊢ <;>omega
section
variable{P:Tap}{C:Cx}{w w0:Tam}{S0:gJ}{G:Gh}{σ:St}{a:Act}{n:Nat}
def LS(cs:List (Nat×dH)):Bool:=cs.all fun x=>match x.2.ob with|some ob=> !ob.wy|none=>true
def Qp{cs:List (Nat×dH)}(h:LS cs=true){k:Nat}{b:dH}{ob:Ob}(e:lk cs k=some b)(c:b.ob=some ob)(d:ob.wy=true):False:=by have:=bY.1 h _ (iK e);simp only[c,d]at this;cases this
def xA{f:Nat}{fn:Func}{c:Code}{q:dH}{ob:Ob}{f8:Taf->Prop}{yi:Taf->D}(cs:mG)(Φ:Taa)(Pre:eN)(f7:List (Nat×D4))(v:VC)(hf:P.funcs[f]? =some fn)(hb:fn.body=some c)(j2:P.follows .mixedOrders=true)(d0:q.ob=some ob)(m3:cs.mp=[])(j1: ∀k sg,lk cs.et k=some sg-> ∃sF t,sg.nn=some (sF,t)∧PF P k sF (Pre k) (Φ k))(hB:TX fn q ob=true)(l9:LS cs.l=true)(o7:cs.fr=0)(k5: ∀k q,lk cs.l k=some q->bj P k q (Pre k) (Φ k))(hv:vc ⟨P,cs,fn.ntmps,f7,[],[],[]⟩ c (fun ex σ _ _=>match ex with| .exit _=>.stuck 20|_=>yW P q ob fn σ) (St.nF q ob) q.params.length 0=v)(hc: ∀ds,dn (.V q.params) ds->f8 ds->v.holds Φ Pre (fun d=>d=yi ds) (fun i=>ds.getD i .top) []):bj P f q f8 yi:=by
 unfold TX at hB;simp only[aS,bk]at hB;obtain⟨⟨⟨⟨⟨⟨⟨⟨⟨⟨⟨_,g6⟩,o4⟩,f1⟩,n7⟩,g0⟩,g2⟩,o8⟩,n8⟩,a4⟩,d5⟩,f2⟩:=hB;have d2:ob.mv=true->hY ob.shape<ob.cB.length:=fun hm=>by rw[hm]at f2;simpa using f2
 refine⟨fun o0 w=> ?_,fun J=>(by rw[d0]at J;cases J),fun l0 J _ w S β τ vs dd oo a1 i2 i7=> ?_,fun l0 J b2=>absurd b2 (by rw[d0]at J;injection J with J;subst J;intro b2;unfold Ob.wy at b2;simp only[aS,List.isEmpty_iff,beq_iff_eq]at b2;obtain⟨⟨_,H⟩,A⟩:=b2;have h3:=a4;rw[A,H]at h3;cases M:ob.new<;>rw[M]at h3<;>simp at h3)⟩
 ·unfold callFunc
  have e8:fn.name≠ "runtime.NumGoroutine" :=by simpa using g6
  simp[hf,hb,e8]
 rw[d0]at J;injection J with J;subst J;obtain⟨o3,n9,k7⟩:=xd a1.args
 have i8: ∀(o:Nat) F cells,ob.cB[o]? =some F->oo[o]? =some cells->F.length=cells.length:=by intro o F cells H A;obtain⟨_,_,_,_,h3,_⟩:=a1.cB o F cells H A;exact h3.symm
 have i9: ∀o,(ob.cB.take o).flatten.length=(oo.take o).flatten.length:=vW (by rw[a1.len]) i8;let ds:=dd++oo.flatten
 have i1: ∀(o c:Nat) cells d,oo[o]? =some cells->cells[c]? =some d->ds.getD (oZ (im ob.shape) ob.cB o+c) .top=d:=by intro o c cells d H A;refine gu ?_;show(dd++oo.flatten)[_]? =_;rw[aN (by unfold oZ;omega)];have:=uw H A;rw[<-i9]at this;rw[<-this];congr 1;unfold oZ;omega
 have f6: ∀(o c:Nat) F r,ob.cB[o]? =some F->F[c]? =some r->oZ (im ob.shape) ob.cB o+c<q.params.length:=by intro o c F r H A;have:=(aG.1 (uw H A)).1;rw[g2];unfold oZ;omega
 let S1:gJ:=⟨S,tR ob β τ,fun o=>if o<ob.cB.length then some (β o) else none,False,False,P,[]⟩;let G1:Gh:=⟨S,β,fun g=>τ g.2⟩;let C1:Cx:=⟨fun i=>ds.getD i .top,q.params.length,fun i=>i<q.params.length⟩
 have d8: ∀(o:Nat) F,ob.cB[o]? =some F-> ∃cells O T,oo[o]? =some cells∧w.heap[β o]? =some (.cells (List.toArray O) T (0,0))∧O.length=F.length∧(∀o',¬S (β o) o')∧
   ∀(i:Nat) r u,F[i]? =some r->O[i]? =some u-> ∃d,C1.ρ (oZ (im ob.shape) ob.cB o+i)=d∧jF w 0 S τ r u d:=by
  intro o F ho;have c2:o<oo.length:=by rw[a1.len];exact(aG.1 ho).1
  obtain⟨O,T,H,A,h3,h4,h5⟩:=a1.cB o F _ ho (aQ c2);refine⟨_,O,T,aQ c2,H,A,h5,fun i r u hr hu=> ?_⟩;have a2:i<oo[o].length:=by rw[h3];exact(aG.1 hr).1
  exact⟨_,i1 o i _ _ (aQ c2) (aQ a2),h4 i r u _ hr hu (aQ a2)⟩
 have Q: ∀g x,(St.nF q ob).live g=some x-> ∃(o c:Nat) (F:List bB) (t:Ty) (j:Nat) (T:Tba),ob.cB[o]? =some F∧F[c]? =some (t,some (j,T))∧g=(0,j)∧x=(.var (oZ (im ob.shape) ob.cB o+c),T,t):=by
  intro g x Y;have e5:eT (fun _=>none) (r7 (im ob.shape) ob.cB.flatten) g=some x:=Y;unfold eT at e5;split at e5
  ·rename_i y hy;subst e5;obtain⟨i,r,hr,hm⟩:=xw (iK hy);obtain⟨o,c,F,H,A,h3⟩:=xG hr;obtain⟨t,_|⟨j,T⟩⟩:=r
   ·simp[kx]at hm
   ·simp only[kx,aB,ae,aa]at hm;obtain⟨rfl,rfl⟩:=hm;exact⟨o,c,F,t,j,T,H,A,rfl,by rw[h3];unfold oZ;rw[en]⟩
  ·cases e5
 have a5: ∀(o c:Nat) F t j T,ob.cB[o]? =some F->F[c]? =some (t,some (j,T))->j∈ob.jz:=by intro o c F t j T H A;unfold Ob.jz;refine cZ.2 ⟨F,bU H,?_⟩;unfold Ek;exact bE.2 ⟨_,bU A,rfl⟩
 have g3: ∀g e T t,(St.nF q ob).live g=some (e,T,t)->jc C1 w 0 G1 g e T t:=by
  intro g e T t Y;obtain⟨o,c,F,t',j,T',H,A,rfl,he⟩:=Q g _ Y;simp only[ae]at he;obtain⟨rfl,rfl,rfl⟩:=he;obtain⟨cells,O,T0,_,_,h3,_,h4⟩:=d8 o F H;have g9:c<O.length:=by rw[h3];exact(aG.1 A).1
  obtain⟨d,hd,h8⟩:=h4 c _ _ A (aQ g9);obtain⟨_,n0⟩:=h8;exact n0.ok (C:=C1) (G:=G1) (g:=(0,j)) f1 (by simpa [E.lt]using f6 o c F _ H A) hd rfl rfl
 have e6:gG fn.ntmps w S1 C1 G1 (St.nF q ob) ⟨vs.toArray++Array.replicate (fn.ntmps-vs.length) undef,[]⟩ w:=by
  refine⟨⟨gp.refl _ _,fun _ _ h=>h,fun _ _ _=>rfl,?_,?_,a1.lt,fun _ _ h=>.inl h,?_,?_,?_,g3,?_,?_,?_,fun h=>h.elim,fun h=>h.elim⟩,?_,?_,rfl⟩
  ·intro i b B;simp only[S1]at B;split at B
   ·rename_i o6;injection B with B;exact⟨by show i<q.params.length;omega,B⟩
   ·cases B
  ·exact fun _ _ _=>trivial
  ·intro o x Y;simp only[St.nF,cU]at Y;obtain⟨F,b1,_⟩:=Y;have:=(aG.1 b1).1;show o<q.params.length;omega
  ·intro o ro p0 Y;simp only[St.nF,cU,ae]at Y;obtain⟨F,b1,rfl,rfl⟩:=Y;have c2:=(aG.1 b1).1;obtain⟨cells,O,T,_,H,A,h3,h4⟩:=d8 o F b1;refine⟨.inr ⟨.inl ⟨o,c2,rfl⟩,o,by simp only[S1];rw[if_pos c2]⟩,?_,jD.mk (vs:=O) (T:=T) H ⟨by rw[zW,vP,A],?_⟩,by simpa using h3⟩
   ·rw[bY];intro y hy;obtain⟨j,hj⟩:=aw hy;obtain⟨c0,hj,b8⟩:=rL hj;rcases b8 with rfl|⟨_,_,_,rfl⟩
    rotate_left
    ·rfl
    rw[qu]at hj;simp only[cU]at hj;obtain⟨r,hr,rfl⟩:=hj;have:=bY.1 (bY.1 g0 F (bU b1)) r (bU hr);obtain⟨t,_|⟨j0,T0⟩⟩:=r
    ·exact this
    ·cases J2:Bc j0<;>simp[nH,J2,SC.scalar]
   ·intro i y u hy hu;obtain⟨c0,hy,b8⟩:=rL hy;rcases b8 with rfl|⟨l1,R,l7,rfl⟩
    rotate_left
    ·have b9:hY ob.shape<ob.cB.length:=by
      unfold zi at R;split at R
      ·assumption
      ·cases R
     have j8:l1=ob.cB.length-1:=by unfold zi at R;rw[if_pos b9]at R;injection R with R;exact R.symm
     have hl:=a1.link b9 o i F b1 l7;rw[cell_of_row w _ i _ T (0,0) H,dj,hu]at hl;injection hl with hl;subst j8;exact⟨by show ob.cB.length-1<q.params.length;omega,hl⟩
    rw[qu]at hy;simp only[cU]at hy;obtain⟨r,hr,rfl⟩:=hy;obtain⟨d,hd,h8⟩:=h4 i r u hr hu;exact tp (C:=C1) (G:=G1) (e:=.var (oZ (im ob.shape) ob.cB o+i)) h8 f1 (by simpa [E.lt]using f6 o i F r b1 hr) hd (fun _=>rfl) true
  ·intro i j x y B hj he;simp only[St.nF,cU]at B hj;obtain⟨_,B,_⟩:=B;obtain⟨_,hj,_⟩:=hj;exact a1.inj i j (aG.1 B).1 (aG.1 hj).1 he
  ·intro g x b Y a6;obtain⟨o,c,F,t,j,T,H,A,rfl,_⟩:=Q g x Y;exact .inr (.inr ⟨j,a5 o c F t j T H A,a6⟩)
  ·intro g g' x y b Y hy a6 j9;obtain⟨o,c,F,t,j,T,H,A,rfl,_⟩:=Q g x Y;obtain⟨o',c',o2,t',j',T',n4,n3,rfl,_⟩:=Q g' y hy;rw[a1.own j j' b (a5 _ _ _ _ _ _ H A) (a5 _ _ _ _ _ _ n4 n3) a6 j9]
  ·intro g o x y b Y hy a6;obtain⟨o',c,F,t,j,T,H,A,rfl,_⟩:=Q g x Y;simp only[St.nF,cU]at hy;obtain⟨_,hy,_⟩:=hy;exact a1.eK j o b (a5 _ _ _ _ _ _ H A) (aG.1 hy).1 a6
  ·intro t p1 s a3;simp only[St.nF]at a3;split at a3
   ·rename_i e7;simp only[cU,ae]at a3;obtain⟨ty,f0,rfl,rfl⟩:=a3;obtain⟨u,hu,e2⟩:=k7 t false e7;simp only[ai,if_false]at e2;obtain⟨d,hd,i6⟩:=e2;have m8:im (ob.shape.take t)<dd.length:=(aG.1 hd).1;have k4:ds[im (ob.shape.take t)]? =some d:=by show(dd++oo.flatten)[_]? =_;rw[aq m8];exact hd
    obtain⟨x,Y,l2⟩:=cI i2 _ ty (by rw[Ty.dq];exact f0)
    have l3:x=d:=by have:ds[im (ob.shape.take t)]? =some x:=Y;rw[k4]at this;injection this with this;exact this.symm
    subst l3;have f5:den C1.ρ (.var (im (ob.shape.take t)))=x:=gu k4;have f3:im (ob.shape.take t)<q.params.length:=(aG.1 f0).1;refine⟨u,?_,by simp,by simpa [SV.lt,SC.lt,E.lt]using f3,?_⟩
    ·have f9:t<vs.length:=(aG.1 hu).1;rw[Array.getElem?_append_left (by simpa using f9)];simpa using hu
    ·simp only[aU,bQ,if_true];exact⟨by simpa [E.lt]using f3,by rw[f5];exact i6,by rw[f5];exact l2⟩
   ·rename_i e7;injection a3 with a3;simp only[ae]at a3;obtain⟨rfl,rfl⟩:=a3;obtain⟨u,hu,e2⟩:=k7 t true e7;simp only[if_true,ao]at e2;refine⟨u,?_,by simp,rfl,?_⟩
    ·have f9:t<vs.length:=(aG.1 hu).1;rw[Array.getElem?_append_left (by simpa using f9)];simpa using hu
    ·simp only[aU,bQ,if_true];refine⟨?_,e2⟩;show hY (ob.shape.take t)<q.params.length;have:=Ci e7;omega
   ·cases a3
  ·simp;omega
 refine calls_of_wp hf hb ?_;have d7:=hc ds i2 i7;rw[<-hv]at d7;refine EB (w0:=w) (S0:=S1) (N:=⟨P,cs,fn.ntmps,f7,[],[],[]⟩) j2 k5 (fun k q ob hk d0 b2=>(Qp l9 hk d0 b2).elim) ⟨fun h=>h.elim,fun h=>h.elim,rfl,fun T kt h=>(by rw[show cs.mp=[] from m3]at h;cases h),fun k sg h hn=>(by obtain⟨_,_,A,_⟩:=j1 k sg h;rw[hn]at A;cases A),fun k sg sF t h hn=>(by obtain⟨o1,t2,A,h3⟩:=j1 k sg h;rw[hn]at A;obtain⟨rfl,rfl⟩:=iD A;exact h3)⟩ (fun _ _ h=>by cases h) (fun _ _ h=>by cases h) (fun h=>by have:cs.fr=2:=h;omega) rfl c _ _ _ 0 _ [] _ d7 rfl (fun i b h=> ?_) ?_ _ w G1 ?_
 ·simp only[S1]at h;split at h
  ·omega
  ·cases h
 ·intro ex e4 p' d' a7 i0 a' w' G' _ _ _ _ hk hs
  have k8:(yW P q ob fn e4).holds Φ Pre (fun d=>d=yi ds) a7 i0->a'.defers=[] ∧ ∃v,(results fn a'.tmps).run P w'= .ok v w'∧ ∃v0 S' k9 βn,Ending.returned v= .returned v0∧Oc w S q ob β τ v0 (yi ds) w' S' k9 βn:=by
   intro hk;refine⟨hs.defers,?_⟩;unfold yW at hk;split at hk
   ·rename_i e l fr I;split at hk
    ·rename_i h9 ls c9;split at hk
     ·rename_i b6;simp only[aS]at b6;obtain⟨⟨b6,d3⟩,d1⟩:=b6;obtain⟨ids,a9⟩: ∃ids,ids=uW e4 ob fr:=⟨_,rfl⟩;rw[<-a9]at c9 d3 d1;have m1:ob.mv=true->ids.Nodup:=fun hm=>by rw[hm]at d1;simpa using d1
      have c7:=b6;unfold oY at b6;simp only[aS,bk]at b6;obtain⟨o5,g4⟩:=b6;obtain⟨q1,q2,q3,q4,q5,q6⟩:=zJ c9;have hd:den a7 (.un .eS (.cons e (.V (h9.map fun es=>.un .agg (.V es)))))=yi ds:=hk
      have m9:yi ds= .eS (den a7 e::(h9.map fun es=>es.map (den a7)).map .agg):=by rw[<-hd];simp only[den,fX,U.den,D.A,List.map_map];congr 2;apply List.map_congr_left;intro es _;simp only[Function.comp,den,fX,U.den,D.A]
      have X: ∀o,o<ob.cB.length->G'.β o=β o:=fun o ho=>(hs.m.pK o (β o) (by simp only[S1];rw[if_pos ho])).2
      have c4: ∃v0,(results fn a'.tmps).run P w'= .ok v0 w'∧(∀j g,(j,some g)∈l-> ∃z,e4.live g=some z)∧(if ob.new then l=[] ∧ ∃id,fr=[id] ∧ob.cB.length<=id∧v0= .pointer (some ⟨G'.β id,0,none⟩) else fr=[] ∧cK q.res=l.map (·.1)∧gU w' 0 G'.S (pq G' (l++ls)) q.res v0 (den a7 e)):=by
       unfold YZ at I;split at I
       ·rename_i M;split at I
        ·rename_i t l6;split at I
         ·rename_i id ht;split at I
          ·rename_i W;obtain⟨rfl,rfl,rfl⟩:=LA I;obtain⟨u,H,_,_,A⟩:=hs.t t _ _ ht;simp only[aU,bQ,if_true]at A;obtain⟨_,rfl⟩:=A;refine⟨_,?_,by simp,by rw[if_pos M];exact⟨rfl,id,rfl,W,rfl⟩⟩;have:=rP (P:=P) (w:=w') (a:=a') (fn:=fn) (vs:=[.pointer (some ⟨G'.β id,0,none⟩)]) (by rw[l6,List.mapM_cons,bg,show(me a' (.tmp t)).run P w'= .ok (.pointer (some ⟨G'.β id,0,none⟩)) w' from(by simp[me,H]),bV,List.mapM_nil];rfl);exact this
          ·cases I
         ·cases I
        ·cases I
       ·rename_i M;split at I
        ·rename_i es l' c5;obtain⟨rfl,rfl,rfl⟩:=LA I;obtain⟨us,H,A,h3,h4,h5⟩:=qv (L:=l'++ls) hs g4 c5 (fun x Y=>aA _ Y);refine⟨_,rP H,pf c5,?_⟩;rw[M];simp only[ai,if_false];refine⟨trivial,mV c5,?_⟩;split
         ·rename_i r e0 g1;rw[g1]at A h5⊢;obtain⟨u,rfl⟩: ∃u,us=[u] :=bJ.1 A;exact .inl ⟨r,rfl,h5 0 r u e0 rfl rfl rfl⟩
         ·rename_i n5 _ o9 m0
          have j5:q.res.length≠1:=by intro h;obtain⟨r,hr⟩:=bJ.1 h;obtain⟨e,he⟩:=bJ.1 (h3.trans h);exact m0 r e hr he
          have m2:Gy us= .tuple us.toArray:=by
           match us,A with
           | [],_=>rfl
           | [u],A=>exact absurd A.symm j5
           |_::_::_,_=>rfl
          rw[m2];refine .inr ⟨j5,us,n5.map (den a7),rfl,by simp only[den,fX,U.den,D.A],A,by simp[h3],fun i r u y hr hu hy=> ?_⟩;simp only[ab,cU]at hy;obtain⟨e,he,rfl⟩:=hy;exact h5 i r u e hr hu he
        ·cases I
      obtain⟨v0,i4,m5,p⟩:=c4;have b7: ∀j g,(j,some g)∈l++ls-> ∃z,e4.live g=some z:=fun j g hm=>(aI.1 hm).elim (m5 j g) (q5 j g)
      have k0:fr.length=ob.new.toNat:=by
       cases M:ob.new with
       |true=>rw[M]at p;simp only[if_true]at p;obtain⟨_,id,rfl,_⟩:=p;rfl
       |false=>rw[M]at p;simp only[ai,if_false]at p;rw[p.1];rfl
      let βn:Nat:=if ob.mv then G'.β (ids.getD (ob.cB.length-1) 0) else G'.β (fr.headD 0)
      have d4:ob.mv=true-> ∀i,i<ob.cB.length-1->ids[i]? =some i:=by intro hm i B;rw[a9];unfold uW;rw[if_pos hm,aq (by simpa using B),dp B]
      have e9: ∀(i:Nat) id,ids[i]? =some id->ka ob β βn i=G'.β id:=by
       intro i id B;cases K:ob.mv with
       |true=>
        have j3:=d2 K;have g5:=Ob.CQ K
        have f4:i<ob.cB.length:=by have H:=(aG.1 B).1;rw[q2,a4,g5]at H;exact H
        by_cases j4:i<ob.cB.length-1
        ·have A:=d4 K i j4;rw[B]at A;injection A with A;subst A;unfold ka;rw[if_pos ⟨f4,fun h=>by omega⟩,X id f4]
        ·have j7:i=ob.cB.length-1:=by omega
         unfold ka;rw[if_neg (fun h=>h.2 ⟨K,j7⟩)];show(if ob.mv then G'.β (ids.getD (ob.cB.length-1) 0) else G'.β (fr.headD 0))=_;rw[if_pos K,aj,<-j7,B];rfl
       |false=>
       have Z:ids=List.range ob.cB.length++fr:=by rw[a9];unfold uW;rw[K];rfl
       rw[Z]at B;have a8:βn=G'.β (fr.headD 0):=by show(if ob.mv then _ else _)=_;rw[K];rfl
       rw[a8];unfold ka;by_cases a2:i<ob.cB.length
       ·rw[aq (by simpa using a2)]at B;simp[a2]at B;subst B;rw[if_pos ⟨a2,fun h=>by rw[K]at h;cases h.1⟩,X i a2]
       ·rw[aN (by simp;omega)]at B;rw[if_neg (fun h=>a2 h.1)]
        have h0:i-(List.range ob.cB.length).length=0:=by have:=(aG.1 B).1;rw[k0]at this;cases M:ob.new<;>rw[M]at this<;>simp at this⊢ <;>omega
        rw[h0]at B;show G'.β (fr.headD 0)=_;cases fr with
        |nil=>simp at B
        |cons x r=>simp at B;subst B;rfl
      have c6:kF q ob=(l++ls).map (·.1):=by
       cases M:ob.new with
       |true=>
        rw[M]at p d5;simp only[if_true]at p;have l8:q.res=[] :=by simpa using d5
        rw[p.1];unfold kF;rw[l8];exact q3
       |false=>
        rw[M]at p;simp only[ai,if_false]at p;unfold kF;rw[ck,p.2.1,q3]
      have b0: ∀i,i<ob.outs.length-> ∃id,ids[i]? =some id:=by intro i B;exact⟨_,aQ (by rw[q2];exact B)⟩
      refine⟨v0,i4,v0,G'.S,pq G' (l++ls),βn,rfl,⟨hs.m.below,hs.m.jA,hs.m.dF,hs.m.gX,hs.m.keep,⟨den a7 e,h9.map fun es=>es.map (den a7),m9,by simp[q1],?_,?_⟩,?_,?_,?_,?_,?_⟩⟩
      ·cases M:ob.new with
       |true=>
        rw[M]at p;simp only[if_true]at p⊢;obtain⟨_,id,rfl,W,l5⟩:=p
        have K:ob.mv=false:=by
         cases hm:ob.mv with
         |false=>rfl
         |true=>rw[Ob.CQ hm]at M;cases M
        have Z:ids=List.range ob.cB.length++[id] :=by rw[a9];unfold uW;rw[K];rfl
        rw[Z]at q4;have a8:βn=G'.β id:=by show(if ob.mv then _ else _)=_;rw[K];rfl
        rw[a8];refine⟨l5,?_⟩;obtain⟨e3,a0⟩:=q4 id (by simp);rcases (hs.m.box _ _ _ a0).1 with h|⟨_,i,B⟩
        ·exact h
        ·simp only[S1]at B;split at B
         ·rename_i c1;injection B with B;obtain⟨n6,d6⟩:=q4 i (by simp[c1]);have:=hs.m.inj i id _ _ d6 a0 ((X i c1).trans B);omega
         ·cases B
       |false=>
        rw[M]at p;simp only[ai,if_false]at p⊢;exact p.2.2
      ·intro i F cells H A;simp only[ab,cU]at A;obtain⟨es,m6,rfl⟩:=A;obtain⟨id,W⟩:=b0 i (aG.1 H).1;obtain⟨e3,lo,r1,r2,r3⟩:=q6 i F id es H W m6;obtain⟨_,_,d9,b5⟩:=hs.m.box _ _ _ r1;obtain⟨us,T,b3,b4⟩:=d9.cells (kE r2);obtain⟨k1,k2,k3⟩:=jL (L:=l++ls) hs.m g4 r2 b4 (fun x Y=>bq _ (r3 x Y));rw[e9 i id W];refine⟨us,T,b3,k2,by simp[k1],fun j r u d hr hu hd=> ?_,by simpa using b5⟩;simp only[ab,cU]at hd;obtain⟨e1,m7,rfl⟩:=hd;exact k3 j r u e1 hr hu m7
      ·intro j b hj hb;rw[c6]at hj;obtain⟨g,g7,a6⟩:=vi c7 hj hb;obtain⟨z,hz⟩:=b7 _ _ g7;exact hs.m.gh g z b hz a6
      ·intro j k b hj j6 n2 n1;rw[c6]at hj j6;exact wU hs.m c7 b7 hj j6 n2 n1
      ·intro j i b hj B hb;rw[c6]at hj;obtain⟨g,g7,a6⟩:=vi c7 hj hb;obtain⟨z,hz⟩:=b7 _ _ g7;obtain⟨id,W⟩:=b0 i B;obtain⟨e3,a0⟩:=q4 id (bU W);rw[e9 i id W];exact hs.m.eK g id z _ b hz a0 a6
      ·intro b9 i c F H hc;obtain⟨Xb,V⟩:=b0 (ob.cB.length-1) (by rw[a4];omega)
       have m4:UL ob ids=some Xb:=by
        unfold UL;cases K:ob.mv with
        |true=>exact V
        |false=>
         have Z:ids=List.range ob.cB.length++fr:=by rw[a9];unfold uW;rw[K];rfl
         rw[Z,aq (by simp;omega),dp (by omega)]at V;unfold zi;rw[if_pos b9];exact V
       rw[m4]at d3;obtain⟨id,W⟩:=b0 i (aG.1 H).1;obtain⟨e3,lo,r1,r2,r3⟩:=q6 i F id _ H W (aQ (by rw[q1];exact(aG.1 H).1));obtain⟨_,_,d9,b5⟩:=hs.m.box _ _ _ r1;obtain⟨us,T,b3,b4⟩:=d9.cells (kE r2);obtain⟨k1,k2,k3⟩:=jL (L:=l++ls) hs.m g4 r2 b4 (fun x Y=>bq _ (r3 x Y));have g9:c<F.length:=(aG.1 hc).1;have g8:c<us.length:=by rw[k2];exact g9
       have k6:c<e3.length:=by rw[<-b4.1];exact g8
       have i3:=wY (zP d3 H W r1) hc (aQ k6);have i5:=b4.2 c _ _ (aQ k6) (aQ g8);rw[i3]at i5;obtain⟨_,l4⟩:=i5;rw[e9 i id W,cell_of_row w' _ c _ T (0,0) b3,dj,aQ g8,l4,e9 _ Xb V]
      ·intro K;have j3:=d2 K;obtain⟨Xb,V⟩:=b0 (ob.cB.length-1) (by rw[a4];omega)
       have a8:βn=G'.β Xb:=by show(if ob.mv then _ else _)=_;rw[if_pos K,aj,V];rfl
       rw[a8];obtain⟨e3,a0⟩:=q4 Xb (bU V);rcases (hs.m.box _ _ _ a0).1 with h|⟨_,i,B⟩
       ·exact .inr h
       ·simp only[S1]at B;split at B
        ·rename_i c1;injection B with B;by_cases a2:i<ob.cB.length-1
         ·exfalso;have A:=d4 K i a2;obtain⟨n6,d6⟩:=q4 i (bU A);have h3:=hs.m.inj i Xb _ _ d6 a0 ((X i c1).trans B);subst h3;obtain⟨h4,h5⟩:=aG.1 A;obtain⟨h6,h7⟩:=aG.1 V;have:=(List.getElem_inj (m1 K) (h₀:=h4) (h₁:=h6)).1 (h5.trans h7.symm);omega
         ·have:i=ob.cB.length-1:=by omega
          subst this;exact .inl B.symm
        ·cases B
     ·exact hk.elim
    ·exact hk.elim
   ·exact hk.elim
  cases ex with
  |normal=>exact k8 hk
  |ret=>exact k8 hk
  |exit i=>exact hk.elim
 ·exact e6
end
def fvc(P:Tap)(cs:mG)(b:List (Nat×D4))(a:dH)(fn:Func):VC:=
 match fn.body with
 |some c=>vc ⟨P,cs,fn.ntmps,b,[],[],[]⟩ c (fun ex d _ _=>match ex with| .exit _=>.stuck 20|_=>IV P a fn d) (St.start a.params) a.params.length 0
 |none=>.stuck 30
def fnB(fn:Func)(a:dH):Bool:=a.ob.isNone&&fn.body.isSome&& !(fn.name== "runtime.NumGoroutine")&&decide (a.params.length<=fn.ntmps)
def frB(cs:mG)(a:dH):Bool:=cs.fr==0&&LU a.res||cs.fr==1
def WI{cs:mG}{a:dH}(h:frB cs a=true):cs.fr=0∧LU a.res=true∨cs.fr=1:=by unfold frB at h;simpa using h
def jg(P:Tap)(Pre:eN)(Φ:Taa)(cs:List (Nat×dH)):Prop:= ∀k a,lk cs k=some a->bj P k a (Pre k) (Φ k)
def vm{P:Tap}{Pre:eN}{Φ:Taa}:jg P Pre Φ [] :=fun k a h=>by cases h
def aO{P:Tap}{Pre:eN}{Φ:Taa}{k:Nat}{s:dH}{cs:List (Nat×dH)}(h:bj P k s (Pre k) (Φ k))(t:jg P Pre Φ cs):jg P Pre Φ ((k,s)::cs):=fun j b a=>by
 simp only[lk]at a;split at a
 ·rename_i e;subst e;injection a with a;subst a;exact h
 ·exact t j b a
def KB{P:Tap}{f:Nat}{fn:Func}{a:dH}{e:Taf->Prop}{yi:Taf->D}{cs:mG}{Φ:Taa}{Pre:eN}{b:List (Nat×D4)}{v:VC}(g:P.follows .mixedOrders=true)(j:jg P Pre Φ cs.l)(o:frB cs a=true)(r:P.funcs[f]? =some fn)(p:fnB fn a=true)(m:fvc P cs b a fn=v)(n:cs.mp=[] ∧cs.et=[])(s: ∀k,dn (.V a.params) k->e k->v.holds Φ Pre (fun d=>d=yi k) (fun i=>k.getD i .top) []):bj P f a e yi:=by unfold fnB at p;simp only[aS,bk]at p;obtain⟨⟨⟨x,w⟩,u⟩,t⟩:=p;obtain⟨c,q⟩:=da.1 w;refine DD cs [] [] Φ Pre b v r q (by simpa using u) g t (by simpa using x) n j (WI o) (fun _ _ h=>by cases h) (fun _ _ h=>by cases h) ?_ s;unfold fvc at m;rw[q]at m;exact m
def cV(l:Taf):(D.list l).A=l:=rfl
def eu(l:Taf):(D.agg l).A=l:=rfl
def ep(l:Taf):(D.eS l).A=l:=rfl
def er(l:Taf):(D.ptr l).A=l:=rfl
def fE(f:Nat)(l:Taf):(D.fn f l).A=l:=rfl
def bT(k:IntKind)(n:Int):(D.int k n).q=n:=rfl
def cQ(b:Bool):(D.bool b).Y=b:=rfl
def wrap64{n:Int}(b: -9223372036854775808<=n)(a:n<=9223372036854775807):IntKind.wrap .i64 n=n:=by rw[IntKind.wrap_i64];omega
def tH{n:Int}:jo .i64 n↔ -9223372036854775808<=n∧n<=9223372036854775807:=by
 unfold jo;have b:IntKind.min .i64= -9223372036854775808:=by rfl
 have a:IntKind.max .i64=9223372036854775807:=by rfl
 rw[b,a]
end Go.dI
namespace Go.dI
open Go
def opsOf:Code->List Tbc
 |.region _ ops _=>ops.toList
 |.seq a b=>opsOf a++opsOf b
 |.cond _ a b=>opsOf a++opsOf b
 |.block _ c| .loop c| .scope c=>opsOf c
 |.rangeFunc _ _ a b=>opsOf a++opsOf b
 |_=> []
def Qu(ops:List Tbc)(t:Nat):Nat:=match ops.find? (fun o=>o.dst==some t) with
 |some o=>match o.op with
  |.load _ (.tmp x)| .move (.tmp x)=>x
  |_=>t
 |none=>t
def zo(ops:List Tbc):Nat->Nat->Nat
 |0,t=>t
 |f+1,t=>match ops.find? (fun o=>o.dst==some t) with
  |some o=>match o.op with
   |.fieldAddr _ (.tmp x) _=>zo ops f x
   |.nilCheck (.tmp x)| .move (.tmp x)=>zo ops f x
   |_=>t
  |none=>t
def Of(ops:List Tbc)(c:Code):Tah:=
 dedup ((opsOf c).flatMap fun o=>match o.op with
  |.store _ (.tmp x) _=> [zo ops 10 x]
  |.mapUpdate _ (.tmp x) _ _=> [Qu ops x]
  |.call {callee:=.value _,args,.. }=>args.toList.filterMap fun x=>match x with| .tmp t=>some (zo ops 10 t)|_=>none
  |_=> [])
def oq:Code->List (Nat×Code)
 |.seq a b=>oq a++oq b
 |.cond _ a b=>oq a++oq b
 |.block _ c| .scope c=>oq c
 |.loop c=>(match iX c with|some i=> [(i,c)] |none=> [])++oq c
 |.rangeFunc _ _ a b=>(match iX a with|some i=> [(i,.seq a b)] |none=> [])++oq b
 |_=> []
def Am(P:Tap):Nat->Nat->Tba->List (Nat×Tba)
 |0,_,_=> []
 |n+1,off,t=>match P.underlying t with
  |some (.slice e)=> [(off,e)]
  |some (.struct fs)=>fs.toList.flatMap fun f=>Am P n (off+f.offset) f.type
  |_=> []
def QW(ops:List Tbc)(t:Nat):Tao Tba:=match ops.find? (fun o=>o.dst==some t) with
 |some o=>match o.op with
  |.alloc T=>some T
  |.box T _=>some T
  |_=>none
 |none=>none
def Ov(P:Tap)(ops:List Tbc):List (Nat×Tba):=ops.filterMap fun o=>match o.dst with
 |some t=>match P.underlying o.type with
  |some (.slice e)=>some (t,e)
  |_=>none
 |none=>none
def WU(P:Tap)(all ops:List Tbc)(t:Nat):Tao Tba:=ops.findSome? fun o=>match o.op with
 |.call {callee:=.value _,args,argTypes}=>(args.toList.zip argTypes.toList).findSome? fun x=>match x.1 with
  |.tmp t'=>if zo all 10 t'=t then(match P.underlying x.2 with|some (.pointer e)=>some e|_=>none) else none
  |_=>none
 |_=>none
def vq(P:Tap)(given:List (Nat×D4))(c:Tao Code):List (Nat×D4):=
 match c with
 |some c=>((oq c).map fun x=>let g:=(lk given x.1).getD {}
   (x.1,{own:=((Ov P (opsOf x.2)).filter fun y=> !g.own.contains (y.1,0))++g.own.filter (fun y=>y.2 !=0),boxes:=(((Of (opsOf c) x.2).filter fun t=> !g.boxes.any fun y=>y.1==t).map fun t=>(t,match (QW (opsOf c) t).orElse (fun _=>WU P (opsOf c) (opsOf x.2) t) with|some T=>Am P 4 0 T|none=> []))++g.boxes,drop:=g.drop}))++given
 |none=>given
def kZ(a:Taf)(d:Tal)(b:Taf->(Taf->Prop)->Prop):Prop:=
 ∃(I:Taf->Prop) (m:Taf->Nat),I a∧ ∀c,dn (.V d) c->I c->b c (fun e=>I e∧m e<m c)
def kZ.intro{a:Taf}{b:Tal}{body:Taf->(Taf->Prop)->Prop}(I:Taf->Prop)(m:Taf->Nat)(e:I a)(h: ∀c,dn (.V b) c->I c->body c (fun d=>I d∧m d<m c)):kZ a b body:=⟨I,m,e,h⟩
section
variable{Φ:Taa}{Pre:eN}{R:D->Prop}{ρ:Nat->D}{kJ:List (Taf->Prop)}
def fi{pc:dB}{e:E}{k:VC}:(VC.kq pc e k).holds Φ Pre R ρ kJ=((aU ρ pc=true->(den ρ e).Y=true)∧k.holds Φ Pre R ρ kJ):=rfl
def eh{p f:Nat}{a:E}{pc:dB}{k:VC}:(VC.call p f a pc k).holds Φ Pre R ρ kJ=((aU ρ pc=true->Pre f (den ρ a).A)∧k.holds Φ Pre R (fD ρ p (Φ f (den ρ a).A)) kJ):=by simp only[VC.holds,forall_eq]
def dY{pc:dB}{e:E}{b:Nat}{k:VC}:(VC.room pc e b k).holds Φ Pre R ρ kJ=((aU ρ pc=true->(den ρ e).A.length<=maxLen∧(den ρ e).A.length*b<=140737488355328)∧k.holds Φ Pre R ρ kJ):=rfl
def cH{e:E}{t f:VC}:(VC.branch e t f).holds Φ Pre R ρ kJ=(((den ρ e).Y=true->t.holds Φ Pre R ρ kJ)∧((den ρ e).Y=false->f.holds Φ Pre R ρ kJ)):=rfl
def dZ{v0:Nat}{es:List E}{b:Tal}{a:VC}:(VC.loop v0 es b a).holds Φ Pre R ρ kJ=kZ (es.map (den ρ)) b (fun c J=>a.holds Φ Pre R (fZ ρ v0 c) (J::kJ)):=rfl
def dy{i:Nat}{es:List E}:(VC.again i es).holds Φ Pre R ρ kJ=(match kJ[i]? with|some J=>J (es.map (den ρ))|none=>False):=rfl
def fh{e:E}:(VC.ret e).holds Φ Pre R ρ kJ=R (den ρ e):=rfl
end
def L2(given:List (Nat×D4))(c:Tao Code):Tah:=
 let l:=((lk given 1000000).getD {}).drop;let a:=match c with|some c=>opsOf c|none=> []
 l++(if l.contains 1000000 then a.filterMap fun o=>match o.op with| .call {callee:=.builtin .append,.. }=>o.dst|_=>none else [])++
  (if l.contains 1000001 then
   let b:=a.filterMap fun o=>match o.op with| .call {callee:=.builtin .append,args,.. }=>(match args.toList with| [_,.tmp t] =>some t|_=>none)|_=>none
   a.filterMap fun o=>match o.op with| .buildSlice .. =>(match o.dst with|some d=>if b.contains d then none else some d|none=>none)|_=>none
  else [])
def nt(P:Tap)(cs:List (Nat×dH))(given:List (Nat×D4))(a:dH)(fn:Func):VC:=
 match fn.body,a.ob with
 |some c,some ob=>vc ⟨P,⟨cs,L2 given fn.body,0,[],[]⟩,fn.ntmps,vq P given fn.body,[],[],[]⟩ c (fun ex b _ _=>match ex with| .exit _=>.stuck 20|_=>yW P a ob fn b) (St.nF a ob) a.params.length 0
 |_,_=>.stuck 30
def hP{P:Tap}{f:Nat}{fn:Func}{a:dH}{ob:Ob}{b:Taf->Prop}{yi:Taf->D}{cs:List (Nat×dH)}{Φ:Taa}{Pre:eN}{given:List (Nat×D4)}{v:VC}(j:P.follows .mixedOrders=true)(k:jg P Pre Φ cs)(q:P.funcs[f]? =some fn)(g:a.ob=some ob)(p:TX fn a ob=true)(m:nt P cs given a fn=v)(r: ∀l,dn (.V a.params) l->b l->v.holds Φ Pre (fun d=>d=yi l) (fun i=>l.getD i .top) [])(n:LS cs=true:=by rfl):bj P f a b yi:=by have e:=p;unfold TX at e;simp only[aS]at e;obtain⟨c,o⟩:=da.1 e.1.1.1.1.1.1.1.1.1.1.1;refine xA ⟨cs,L2 given fn.body,0,[],[]⟩ Φ Pre (vq P given fn.body) v q o j g rfl (fun _ _ h=>by cases h) p n rfl k ?_ r;unfold nt at m;rw[g,o]at m;rw[o];exact m
def Vc(P:Tap)(cs:List (Nat×dH))(et:List (Nat×zq))(given:List (Nat×D4))(a:dH)(fn:Func):VC:=
 match fn.body,a.ob with
 |some c,some ob=>vc ⟨P,⟨cs,L2 given fn.body,0,[],et⟩,fn.ntmps,vq P given fn.body,[],[],[]⟩ c (fun ex b _ _=>match ex with| .exit _=>.stuck 20|_=>yW P a ob fn b) (St.nF a ob) a.params.length 0
 |_,_=>.stuck 30
def FA{P:Tap}{f:Nat}{fn:Func}{a:dH}{ob:Ob}{b:Taf->Prop}{yi:Taf->D}{cs:List (Nat×dH)}{et:List (Nat×zq)}{Φ:Taa}{Pre:eN}{given:List (Nat×D4)}{v:VC}(h:P.follows .mixedOrders=true)(j:jg P Pre Φ cs)(o: ∀k q,lk et k=some q-> ∃r t,q.nn=some (r,t)∧PF P k r (Pre k) (Φ k))(u:P.funcs[f]? =some fn)(g:a.ob=some ob)(s:TX fn a ob=true)(m:Vc P cs et given a fn=v)(w: ∀l,dn (.V a.params) l->b l->v.holds Φ Pre (fun d=>d=yi l) (fun i=>l.getD i .top) [])(n:LS cs=true:=by rfl):bj P f a b yi:=by have e:=s;unfold TX at e;simp only[aS]at e;obtain⟨c,p⟩:=da.1 e.1.1.1.1.1.1.1.1.1.1.1;refine xA ⟨cs,L2 given fn.body,0,[],et⟩ Φ Pre (vq P given fn.body) v u p h g rfl o s n rfl j ?_ w;unfold Vc at m;rw[g,p]at m;rw[p];exact m
def J8(P:Tap)(cs:List (Nat×dH))(given:List (Nat×D4))(a:dH)(fn:Func):VC:=fvc P ⟨cs,L2 given fn.body,0,[],[]⟩ (vq P given fn.body) a fn
def Fw{P:Tap}{f:Nat}{fn:Func}{a:dH}{b:Taf->Prop}{yi:Taf->D}{cs:List (Nat×dH)}{Φ:Taa}{Pre:eN}{given:List (Nat×D4)}{v:VC}(c:P.follows .mixedOrders=true)(e:jg P Pre Φ cs)(k:P.funcs[f]? =some fn)(m:fnB fn a=true)(j:J8 P cs given a fn=v)(l: ∀g,dn (.V a.params) g->b g->v.holds Φ Pre (fun d=>d=yi g) (fun i=>g.getD i .top) [])(h:LU a.res=true:=by rfl):bj P f a b yi:=
 KB c e (by simp[frB,h]) k m j ⟨rfl,rfl⟩ l
def vr(a n:Nat):List E:=(List.range n).map fun i=>.var (a+i)
def cr(j n:Nat)(e:E):List E:=(List.range n).map fun i=>.un (.cell (j+i)) e
def rp(n:Nat)(e:E):List E:=List.replicate n e
def fl:List (List E)->List E
 | [] => []
 |l::r=>l++fl r
end Go.dI
namespace Go.dI
open Go Go.RowKit
def I(d:D)(j:Nat):Int:=(d.A.getD j .top).q
def QX{b:Type}{t:Ty}{enc:b->D}{ok:b->Prop}(h: ∀d,Has t d-> ∃a,d=enc a∧ok a): ∀l:Taf,(∀x∈l,Has t x)-> ∃k:List b,l=k.map enc∧ ∀a∈k,ok a
 | [],_=>⟨[],rfl,by simp⟩
 |d::l,hl=>by obtain⟨a,rfl,f⟩:=h d (hl d (by simp));obtain⟨k,rfl,e⟩:=QX h l (fun x c=>hl x (by simp[c]));exact⟨a::k,rfl,by simp only[aD,forall_eq_or_imp];exact⟨f,e⟩⟩
def ae8:Ty:=.agg (.cons (.int .i64) (.cons (.int .i64) (.cons (.int .i64) (.nil))))
def Oa:Ty:=.agg (.cons (.int .i64) (.cons (.int .i64) (.cons (.int .i64) (.cons (.int .i64) (.cons (.int .i64) (.cons (.int .i64) (.cons (.int .i64) (.cons (.int .i64) (.cons (.int .i64) (.cons (.bool) (.cons (.int .i64) (.nil))))))))))))
def Ch{a:Type}{l:List a}{i:Nat}{x:a}(h:l[i]? =some x):l.drop i=x::l.drop (i+1):=by obtain⟨b,rfl⟩:=aG.1 h;exact cT b
def so{a:Type}{l:List a}{i:Nat}{x:a}(h:l[i]? =some x):i<l.length:=(aG.1 h).1
def su{a:Type}{l:List a}{i:Nat}(h:l[i]? =none):l.length<=i:=eC.1 h
def findF{a:Type}(p:a->Bool):List a->Int->Int
 | [],_=> -1
 |x::r,i=>if p x then i else findF p r (i+1)
def xI{a:Type}(p:a->Bool): ∀(l:List a) (i:Int),(findF p l i= -1∧ ∀x∈l,p x=false)∨ ∃(n:Nat) (x:a),findF p l i=i+n∧l[n]? =some x∧p x=true∧ ∀y∈l.take n,p y=false
 | [],i=>.inl ⟨rfl,by simp⟩
 |x::r,i=>by
  unfold findF;cases hp:p x with
  |true=>exact .inr ⟨0,x,by simp,rfl,hp,by simp⟩
  |false=>
   rcases xI p r (i+1) with⟨h1,h2⟩|⟨n,y,h1,h2,h3,h4⟩
   ·exact .inl ⟨by simpa using h1,by simp only[aD,forall_eq_or_imp];exact⟨hp,h2⟩⟩
   ·exact .inr ⟨n+1,y,by simp[h1];omega,by simpa using h2,h3,by simp only[fQ,aD,forall_eq_or_imp];exact⟨hp,h4⟩⟩
end Go.dI
namespace Go.dI
open Go Go.RowKit Go.Shelf Go.Sort Go.Proofs
def iT(d:D):List Int:=d.A.map D.q
def fa(l:List Int):iT (.list (l.map (D.int .i64)))=l:=by simp[iT,D.A,List.map_map,Function.comp_def,D.q]
def jV(l:List Int):List Int:=l.mergeSort fun x y=>decide (x<=y)
def Jj:dH:=⟨[.list (.int .i64)],[],some ⟨[],[],[[],[]],false⟩⟩
def JQ:dH:=⟨[.list (.int .i64)],[(false,[(.list (.int .i64),none)])],some ⟨[],[],[[],[]],false⟩⟩
def mD(T:Tba):dH:=⟨[.list (.int .i64)],[(false,[(.int .i64,some (1,T))])],none⟩
def yo(ds:Taf):D:=.list ((jV (iT (ds.getD 0 .top))).map (D.int .i64))
def yD(ds:Taf):D:=.list ((Lib.compact (iT (ds.getD 0 .top))).map (D.int .i64))
def vN(ds:Taf):D:=.list (ds.getD 0 .top).A
def pB{l:List Int}:Has (.list (.int .i64)) (.list (l.map (D.int .i64)))↔l.length*8<=140737488355328∧ ∀x∈l,jo .i64 x:=by
 constructor
 ·intro h;obtain⟨_,b,⟨_,c⟩,f⟩:=bL.1 h;injection b with b;subst b;refine⟨by rw[ak]at c;exact c,fun x d=> ?_⟩;obtain⟨n,a,e⟩:=dr.1 (f (.int .i64 x) (bn.2 ⟨x,d,rfl⟩));injection a with _ a;subst a;exact e
 ·rintro⟨b,c⟩;refine bL.2 ⟨_,rfl,⟨by rw[ak];exact aW (show _<=140737488355328 by omega) (by decide),by rw[ak];exact b⟩,fun x d=> ?_⟩;obtain⟨n,a,rfl⟩:=bn.1 d;exact dr.2 ⟨n,rfl,c n a⟩
def pE(l:List Int):(jV l).length=l.length:=List.length_mergeSort l
def wW{l:List Int}{x:Int}:x∈jV l↔x∈l:=List.mem_mergeSort
def xD{l:List Int}{x:Int}(h:x∈Lib.compact l):x∈l:=by unfold Lib.compact Lib.compactUpTo at h;obtain⟨i,b,rfl⟩:=bn.1 h;have a:=(List.mem_filter.1 b).1;rw[db]at a;rw[getElem!_pos _ i (by simpa using a)];simp
section
variable{P:Tap}{ρ:Ren}{fn:Func}
def zZ{f:Nat}(e:P.funcs[f]? =some fn)(d:(fn.body.isSome&& !(fn.name== "runtime.NumGoroutine"))=true)(b:Tbd Tan)(w:Tam):(callFunc f b).run P w= .ok (.enter f b) w:=by
 simp only[aS,ff]at d;obtain⟨i,h⟩:=d;unfold callFunc;obtain⟨c,g⟩:=da.1 i
 have a:fn.name≠ "runtime.NumGoroutine" :=by simpa using h
 simp[e,g,a]
def r4{w w':Tam}{g:Nat}(h:w.grownBy w' (some g)):gp (fun b=>(Value.slice (some ⟨g,0,none⟩) 0 0).ownBlock=some b) w w':=
 ⟨h.os,h.tape,h.output,h.size,fun k c a=>h.block k c (fun e=>a (by simp only[aa]at e;subst e;rfl))⟩
def Kl(L:Lays.n189 P ρ)(t:P.funcs[ρ.f 189]? =some fn)(u:(fn.body.isSome&& !(fn.name== "runtime.NumGoroutine"))=true):bj P (ρ.f 189) Jj (fun _=>True) yo:=by
 refine⟨zZ t u,fun h=>(by cases h),fun p k m=>(by simp only[Jj,aa]at k;subst k;cases m),fun p _ _ w T v a d j _=> ?_⟩;obtain⟨y,s⟩:=pB.1 j
 have b:yo [.list (a.map (D.int .i64))] = .list ((jV a).map (D.int .i64)):=by show D.list _=_;rw[show iT ([D.list (a.map (D.int .i64))].getD 0 .top)=a from fa a]
 have c:Has (.list (.int .i64)) (.list ((jV a).map (D.int .i64))):=pB.2 ⟨by rw[pE];exact y,fun x r=>s x (wW.1 r)⟩;rcases d.2 with⟨rfl,h0⟩|⟨g,cap,cur,rfl,Sp,Xy,k,m,h3,h4⟩
 ·have q:a=[] :=an h0;subst q;have z:jV [] =[] :=by simp[jV]
  rw[z]at b c;refine(Any.slices_Sort_int_none L none 0 w).mono ?_;rintro e o ⟨rfl,rfl⟩;exact⟨_,.slice none 0 0,[],rfl,b,c,⟨rfl,⟨rfl,.inl ⟨rfl,rfl⟩⟩,rfl,gp.refl _ _⟩⟩
 ·have l:cur.toList.take a.length=a.map (Value.int .i64):=by simpa using h4
  refine(Any.slices_Sort_int L g 0 cap a w (holds_of_blockI Xy l) (aL.1 Xy).1 (by omega)).mono ?_;rintro e o ⟨rfl,n,os,rfl⟩;have i:=ownsRow_sortedI (n:=n) (os:=os) (ts:=jV a) (pE a) Sp Xy k m h3;refine⟨_,.slice (some ⟨g,0,none⟩) a.length cap,jV a,rfl,b,c,⟨rfl,?_,rfl,r4 (grownBy_sortedI _)⟩⟩;rw[pE];exact i
def DU(L:Lays2.n20 P ρ)(A:P.funcs[ρ.f 20]? =some fn)(B:(fn.body.isSome&& !(fn.name== "runtime.NumGoroutine"))=true):bj P (ρ.f 20) JQ (fun _=>True) yD:=by
 refine⟨zZ A B,fun h=>(by cases h),fun s l p=>(by simp only[JQ,aa]at l;subst l;cases p),fun s _ _ w T v a b j _=> ?_⟩;obtain⟨C,z⟩:=pB.1 j;have y:=Lib.compact_length_le a
 have d:yD [.list (a.map (D.int .i64))] = .list ((Lib.compact a).map (D.int .i64)):=by show D.list _=_;rw[show iT ([D.list (a.map (D.int .i64))].getD 0 .top)=a from fa a]
 have i:Has (.list (.int .i64)) (.list ((Lib.compact a).map (D.int .i64))):=pB.2 ⟨by omega,fun x u=>z x (xD u)⟩;rcases b.2 with⟨rfl,h0⟩|⟨g,cap,cur,rfl,Sp,Xy,l,p,h3,h4⟩
 ·have t:a=[] :=an h0;subst t;refine(Any.slices_Compact_int_empty L none 0 w).mono ?_;rintro e r ⟨rfl,rfl⟩;exact⟨_,.slice none 0 0,Lib.compact [],rfl,d,i,⟨rfl,⟨rfl,.inl ⟨rfl,rfl⟩⟩,rfl,gp.refl _ _⟩⟩
 ·have m:cur.toList.take a.length=a.map (Value.int .i64):=by simpa using h4
  refine(Any.slices_Compact_int L g 0 cap a w (holds_of_blockI Xy m) (by omega) l).mono ?_;rintro e r ⟨rfl,q,rfl⟩;have c:=Lib.ownsRow_putRow (q:=q) (k:=(Lib.compact a).length) (ys:=Lib.compact a++List.replicate (a.length-(Lib.compact a).length) 0) b (by simp;omega) (by omega);rw[List.take_left]at c;have o:=grownBy_sortedI (w:=w) (g:=g) (n:=q) (os:= #[]) (Lib.compact a++List.replicate (a.length-(Lib.compact a).length) 0).toArray;rw[grow_empty]at o;exact⟨_,.slice (some ⟨g,0,none⟩) (Lib.compact a).length cap,Lib.compact a,rfl,d,i,⟨rfl,c,rfl,r4 o⟩⟩
def IH(L:Lays2.n15 P ρ)(hf:P.funcs[ρ.f 15]? =some fn)(hb:(fn.body.isSome&& !(fn.name== "runtime.NumGoroutine"))=true):bj P (ρ.f 15) (mD (ρ.t 3)) (fun _=>True) vN:=by
 refine⟨zZ hf hb,fun _ w S vs ds hS J I V _=> ?_,fun ob Q=>(by cases Q),fun ob Q=>(by cases Q)⟩;obtain⟨d,r,rfl,Y,hr⟩:=ag.1 V;obtain rfl:=dg.1 hr;obtain⟨v,rfl⟩: ∃v,vs=[v] :=bJ.1 J;have Z:=I 0 v d rfl rfl;obtain⟨l,rfl,hl,W⟩:=bL.1 Y;obtain⟨p,rfl⟩:=rS W;obtain⟨h8,hk⟩:=pB.1 Y
 have E: ∀(y:Tan) (s:Tam),s.ownsRow w.heap.size (ρ.t 3) 1 y p.length (p.map (Value.int .i64))->Below w.heap.size w s->
   ∃u T G,Ending.returned y= .returned u∧Below w.heap.size w s∧(∀b o,S b o->T b o)∧(∀b o,T b o->b<s.heap.size)∧(∀b o,T b o->S b o∨w.heap.size<=b)∧
    gU s 0 T G (mD (ρ.t 3)).res u (vN [.list (p.map (D.int .i64))])∧(∀j b,j∈cK (mD (ρ.t 3)).res->(G j).ownBlock=some b->w.heap.size<=b)∧(∀j k b,j∈cK (mD (ρ.t 3)).res->k∈cK (mD (ρ.t 3)).res->(G j).ownBlock=some b->(G k).ownBlock=some b->j=k)∧
    ∀j,j∈cK (mD (ρ.t 3)).res->Rb j=true->yl (fun b=>w.heap.size<=b) s T (G j):=by
  intro y s m n
  have C: ∀b,y.ownBlock=some b->w.heap.size<=b:=by
   intro b x;rcases m.2 with⟨rfl,_⟩|⟨g,q,R,rfl,hg,_⟩
   ·cases x
   ·simp only[Value.ownBlock,aa]at x;subst x;exact hg
  have B:s.ownsRow 0 (ρ.t 3) 1 y p.length (p.map (Value.int .i64)):=by
   refine⟨m.1,?_⟩;rcases m.2 with h|⟨g,q,R,Q,_,h3⟩
   ·exact .inl h
   ·exact .inr ⟨g,q,R,Q,aC _,h3⟩
  refine⟨y,fun b o=>S b o∨(y.ownBlock=some b∧o<p.length),fun _=>y,rfl,n,fun b o h=>.inl h,?_,?_,?_,fun j b _ h=>C b h,?_,fun j A X=>(by have e:cK (mD (ρ.t 3)).res=[1] :=rfl;rw[e,aB]at A;subst A;cases X)⟩
  ·rintro b o (h|⟨h,_⟩)
   ·exact av (hS b o h) n.size
   ·exact NT m h
  ·rintro b o (h|⟨h,_⟩)
   ·exact .inl h
   ·exact .inr (C b h)
  ·refine .inl ⟨_,rfl,?_⟩;refine⟨_,rfl,rfl,?_⟩;refine⟨Y,by decide,p.map (Value.int .i64),p.map (D.int .i64),rfl,by rw[ak];exact B,?_,?_⟩
   ·intro b x o;rw[ak];exact⟨fun h=>h.elim (fun h=>absurd (hS b o h) (Nat.not_lt.2 (C b x))) (fun h=>⟨rfl,h.2⟩),fun h=>.inr ⟨x,h.2⟩⟩
   ·intro i d j u c N O F;simp only[ab,cU]at N;obtain⟨z,U,rfl⟩:=N;cases j with
    |succ j=>simp[D.cells]at O
    |zero=>
     simp only[D.cells,dk,aa]at O;subst O;have e1:(Ty.int .i64).cells.length=1:=rfl;rw[e1,bG,dM,ab,U]at F;simp only[aP,aa]at F;subst F;exact .int _ _
  ·intro j k b A K _ _;have e:cK (mD (ρ.t 3)).res=[1] :=rfl;rw[e,aB]at A K;rw[A,K]
 show Calls P (ρ.f 15) #[v] w _;generalize M:(p.map (D.int .i64))=l at Z;cases Z with
 |nil a q=>
  have U:p=[] :=by cases p with|nil=>rfl|cons z r=>simp at M
  subst U;cases a with
  |none=>
   refine(Any.slices_Clone_int_nil L 0 q w).mono ?_;rintro e s ⟨rfl,rfl⟩;exact E _ _ ⟨rfl,.inl ⟨rfl,rfl⟩⟩ ⟨rfl,rfl,rfl,bf _,fun _ _=>rfl⟩
  |some a=>
   refine(Any.slices_Clone_int_zero L a q w).mono ?_;rintro e s ⟨y,rfl,m,_,n⟩;exact E y s m n
 |list b off q sz xs _ T7 tv ra abt hSx O hw h=>
  subst M
  have H:sz=1:=by
   cases p with
   |nil=>simp at tv
   |cons z r=>rw[<-hw 0 (.int .i64 z) rfl];rfl
  subst H;rw[ak,bG]at abt;rw[ak];refine(Any.slices_Clone_int L b off p.length q p w (bf _) h8 (fun j A=> ?_)).mono ?_
  ·have F:xs[j]? =some xs[j] :=aQ (by omega);rw[O j _ F];have:=h j (.int .i64 p[j]) 0 xs[j] (.int .i64 p[j]) (by simp[A]) rfl (by rw[bG,dM];exact F);rw[this.cn];simp[List.getD,A]
  ·rintro e s ⟨y,rfl,m,_,n⟩;rw[dG]at m;exact E y s m n
end
end Go.dI
namespace Go.dI
open Go Go.RowKit Go.ChangeShapes Go.WideShapes
def pC(g:Tba->Tao (Tal))(cells:Tba->Nat):Nat->List Field->Tao (Tal)
 |_,[] =>some []
 |o,f::fs=>if f.offset=o then
   match g f.type with
   |some ts=>if cells f.type=ts.length then(pC g cells (o+ts.length) fs).map (ts++ ·) else none
   |none=>none
  else none
def NX:Ty->Bool
 |.agg _=>false
 |_=>true
def CZ(P:Tap)(e:Tba)(ts:Tal):Tao Ty:=
 if iR P e then some (.agg (.V ts)) else match ts with
  | [t] =>if NX t then some t else none
  |_=>none
def pI(cells:Nat)(e:Tba)(k:Nat):List Field:=(List.range k).map fun i=>{(default:Field) with type:=e,offset:=i*cells}
def ot(P:Tap):Nat->Tba->Tao (Tal)
 |0,_=>none
 |n+1,T=>match P.underlying T with
  |some .bool=>some [.bool]
  |some (.int k)=>some [.int k]
  |some .string=>some [.str]
  |some (.slice e)=>match ot P n e with
   |some ts=>if 0<ts.length∧P.cellsOf e=ts.length then(CZ P e ts).bind fun t=>if P.bytesOf e=t.bytes then some [.list t] else none else none
   |none=>none
  |some (.struct fs)=>match pC (ot P n) P.cellsOf 0 fs.toList with
   |some ts=>if P.cellsOf T=ts.length then some ts else none
   |none=>none
  |some (.array k e)=>match pC (ot P n) P.cellsOf 0 (pI (P.cellsOf e) e k) with
   |some ts=>if P.cellsOf T=ts.length then some ts else none
   |none=>none
  |_=>none
def Nl(P:Tap)(n:Nat)(T:Tba):Tao Ty:=(ot P n T).bind (CZ P T)
mutual
def D.wt:D->Nat
 |.list l=>tB l+1
 |.agg l=>tB l
 |_=>1
def tB:Taf->Nat
 | [] =>0
 |d::r=>d.wt+tB r
end
mutual
def yk{H:Type}:DataW H->Nat
 |.slice e _=>uQ e+1
 |.agg p=>uQ p
 |_=>1
def uQ{H:Type}:List (DataW H)->Nat
 | [] =>0
 |d::r=>yk d+uQ r
end
def Ae: ∀{a b:Taf},tB (a++b)=tB a+tB b
 | [],b=>by simp[tB]
 |x::a,b=>by simp only[dU,tB,Ae (a:=a)];omega
def Nr{H:Type}: ∀{ds:Taf} {xs:List (DataW H)},ds.length=xs.length->(∀(i:Nat) d x,ds[i]? =some d->xs[i]? =some x->d.wt<=yk x)->tB ds<=uQ xs
 | [],[],_,_=>bf _
 | [],_::_,h,_=>by simp at h
 |_::_,[],h,_=>by simp at h
 |d::ds,x::xs,h,h'=>by simp only[tB,uQ];have e:=h' 0 d x rfl rfl;have c:=Nr (ds:=ds) (xs:=xs) (by simpa using h) (fun i d x a b=>h' (i+1) d x (by simpa using a) (by simpa using b));omega
inductive R3 (K:Nat) (w:Tam) (S:bz):Tac->Taf->Tal->Prop
 |nil:R3 K w S [] [] []
 |cons {v d t vs ds ts} (h:ca w S v d) (ht:pU K t d) (hr:R3 K w S vs ds ts):R3 K w S (v::vs) (d::ds) (t::ts)
section
variable{K:Nat}{d:D}{l:Taf}{k:IntKind}{t h:Ty}{f:Nat}
def E6:pU K (.int k) d↔ ∃n,d= .int k n∧jo k n:=dx
def Cd:pU K .bool d↔ ∃b,d= .bool b:=dx
def E5:pU K .str d↔ ∃s,d= .str s:=dx
def ti:pU K (.list t) d↔ ∃l,d= .list l∧CR K t l.length∧ ∀x∈l,pU K t x:=dx
def OM:pU K (.agg t) d↔ ∃l,d= .agg l∧qN K t l:=dx
def OH:pU K (.eS t) d↔ ∃l,d= .eS l∧qN K t l:=dx
def OL:pU K (.box t) d↔ ∃l,d= .ptr l∧qN K t l:=dx
def OI:pU K (.ptr t) d↔d= .gI∨ ∃l,d= .ptr l∧qN K t l:=dx
def Qw:pU K (.fn f t) d↔ ∃l,d= .fn f l∧qN K t l:=dx
def OJ:qN K .nil l↔l=[] :=dx
def K6:qN K (.cons h t) l↔ ∃a r,l=a::r∧pU K h a∧qN K t r:=dx
end
section
variable{w:Tam}{S:bz}{K:Nat}
def R3.append{vs ds ts Pf ds' ts'}(h:R3 K w S vs ds ts)(c:R3 K w S Pf ds' ts'):R3 K w S (vs++Pf) (ds++ds') (ts++ts'):=by
 induction h with
 |nil=>exact c
 |cons a b _ ih=>exact .cons a b ih
def R3.len{vs ds ts}(h:R3 K w S vs ds ts):vs.length=ts.length∧ds.length=ts.length:=by
 induction h with
 |nil=>exact⟨rfl,rfl⟩
 |cons a b _ ih=>exact⟨by simp[ih.1],by simp[ih.2]⟩
def R3.get{vs ds ts}(h:R3 K w S vs ds ts): ∀(i:Nat) v d,vs[i]? =some v->ds[i]? =some d->ca w S v d:=by
 induction h with
 |nil=>intro i v d h;simp at h
 |cons a b _ ih=>
  intro i v d e c;cases i with
  |zero=>simp at e c;subst e;subst c;exact a
  |succ i=>exact ih i v d (by simpa using e) (by simpa using c)
def R3.has{vs ds ts}(h:R3 K w S vs ds ts):qN K (.V ts) ds:=by
 induction h with
 |nil=>exact OJ.2 rfl
 |cons a b _ ih=>exact K6.2 ⟨_,_,rfl,b,ih⟩
def DX{t:Ty}{d:D}(h:pU K t d)(c:NX t=true):d.cells=[d] :=by
 cases t with
 |agg fs=>cases c
 |int k=>obtain⟨n,rfl,_⟩:=E6.1 h;rfl
 |bool=>obtain⟨n,rfl⟩:=Cd.1 h;rfl
 |str=>obtain⟨n,rfl⟩:=E5.1 h;rfl
 |list t=>obtain⟨n,rfl,_⟩:=ti.1 h;rfl
 |eS t=>obtain⟨n,rfl,_⟩:=OH.1 h;rfl
 |box t=>obtain⟨n,rfl,_⟩:=OL.1 h;rfl
 |ptr t=>rcases OI.1 h with rfl|⟨n,rfl,_⟩<;>rfl
 |fn f t=>obtain⟨n,rfl,_⟩:=Qw.1 h;rfl
 |nil=>exact h.elim
 |cons a b=>exact h.elim
def JJ{P:Tap}{e:Tba}{ts:Tal}{t:Ty}{vs:Tac}{ds:Taf}(c:CZ P e ts=some t)(h:R3 K w S vs ds ts): ∃d:D,pU K t d∧d.cells=ds∧(iR P e=true->d= .agg ds)∧(iR P e=false->ds=[d])∧d.wt=tB ds:=by
 unfold CZ at c;split at c
 ·rename_i g;injection c with c;subst c;exact⟨.agg ds,OM.2 ⟨ds,rfl,h.has⟩,rfl,fun _=>rfl,(fun h=>by rw[g]at h;cases h),by simp[D.wt]⟩
 ·rename_i g;split at c
  ·rename_i j;split at c
   ·rename_i i;injection c with c;subst c;cases h with
    |cons a b hr=>
     cases hr;rename_i d;exact⟨d,b,DX b i,(fun h=>absurd h g),(fun _=>rfl),by simp[tB]⟩
   ·cases c
  ·cases c
variable{H:Type}{enc:Tba×Tan->H}{P:Tap}{base:Nat}{spare:Nat->Bool}{held:Bool}
def qO{z:Nat}: ∀{ts:List Tba} {ds:List (DataW H)} (i:Nat) {t:Tba} {d:DataW H},ts[i]? =some t->ds[i]? =some d->z∈d.weights P t->z∈DataW.weightsEach P ts ds
 | [],_,i,t,d,h,_,_=>by simp at h
 |_::_,[],i,t,d,_,h,_=>by simp at h
 |t::ts,d::ds,0,u,e,h1,h2,hz=>by simp at h1 h2;subst h1;subst h2;unfold DataW.weightsEach;exact aA _ hz
 |t::ts,d::ds,i+1,u,e,h1,h2,hz=>by unfold DataW.weightsEach;exact bq _ (qO i (by simpa using h1) (by simpa using h2) hz)
def nT{z:Nat}{e:Tba}: ∀{ds:List (DataW H)} {d:DataW H},d∈ds->z∈d.weights P e->z∈DataW.weightsAll P e ds
 | [],d,h,_=>by simp at h
 |x::ds,d,h,hz=>by
  unfold DataW.weightsAll;rcases aD.1 h with rfl|h
  ·exact aA _ hz
  ·exact bq _ (nT h hz)
def uA{n m:Nat}{cs:Tac}(u: ∀(T:Tba) (cs:Tac) (x:DataW H×List MemPlace) (ts:Tal),ot P n T=some ts->DataW.trod enc P w base spare held m T cs=some x->(∀b o,MemPlace.cell b o∈x.2->S b o)->(∀z∈x.1.weights P T,z<=K)-> ∃e,R3 K w S cs e ts∧tB e<=yk x.1):
  ∀(a:List Field) (xs:List (DataW H×List MemPlace)) (o:Nat) (ts:Tal),pC (ot P n) P.cellsOf o a=some ts->cs.length=o+ts.length->xs.length=a.length->
   (∀(i:Nat) f,a[i]? =some f-> ∃x:DataW H×List MemPlace,xs[i]? =some x∧DataW.trod enc P w base spare held m f.type ((cs.drop f.offset).take (P.cellsOf f.type))=some x∧(∀b o,MemPlace.cell b o∈x.2->S b o)∧ ∀z∈x.1.weights P f.type,z<=K)->
   ∃e,R3 K w S (cs.drop o) e ts∧tB e<=uQ (xs.map (·.1))
 | [],xs,o,ts,h,hl,_,_=>by simp only[pC,aa]at h;subst h;rw[bO (by simp at hl;omega)];exact⟨[],.nil,aC _⟩
 |f::a,[],o,ts,h,hl,LI,_=>by simp at LI
 |f::a,x0::xs,o,ts,h,hl,LI,hx=>by
  simp only[pC]at h;split at h
  ·rename_i F;split at h
   ·rename_i A s;split at h
    ·rename_i I;simp only[cU]at h;obtain⟨v,r,rfl⟩:=h;obtain⟨x,c,q,p,j⟩:=hx 0 f rfl;simp only[dk,aa]at c;subst c;obtain⟨L,C,N⟩:=u _ _ _ _ s q p j;rw[ah]at hl
     obtain⟨J,B,M⟩:=uA (cs:=cs) u a xs (o+A.length) v r (by omega) (by simpa using LI) (fun i g G=>by obtain⟨y,D,E⟩:=hx (i+1) g (by simpa using G);exact⟨y,by simpa using D,E⟩)
     refine⟨L++J,?_,by rw[Ae];simp only[cE,uQ];omega⟩;have:=C.append B;rw[I,F]at this;rw[<-List.drop_drop,dE]at this;exact this
    ·cases h
   ·cases h
  ·cases h
def vu: ∀(n m:Nat) (T:Tba) (cs:Tac) (x:DataW H×List MemPlace) (ts:Tal),ot P n T=some ts->DataW.trod enc P w base spare held m T cs=some x->(∀b o,MemPlace.cell b o∈x.2->S b o)->(∀z∈x.1.weights P T,z<=K)-> ∃ds,R3 K w S cs ds ts∧tB ds<=yk x.1
 |0,_,_,_,_,_,h,_,_,_=>by cases h
 |n+1,m,T,cs,x,ts,h,F,hS,TZ=>by
  unfold ot at h;split at h
  ·rename_i G;injection h with h;subst h;obtain⟨b,rfl,rfl⟩:=DataW.trod_bool G F;exact⟨[.bool b],.cons (.bool b) (Cd.2 ⟨b,rfl⟩) .nil,by simp[tB,D.wt,yk]⟩
  ·rename_i k G;injection h with h;subst h;obtain⟨i,rfl,rfl,hw⟩:=DataW.trod_int G F;exact⟨[.int k i],.cons (.int k i) (E6.2 ⟨i,rfl,by simpa [Lit.wf,jo]using hw⟩) .nil,by simp[tB,D.wt,yk]⟩
  ·rename_i G;injection h with h;subst h;obtain⟨s,rfl,rfl,_⟩:=DataW.trod_string G F;exact⟨[.str s],.cons (.str s) (E5.2 ⟨s,rfl⟩) .nil,by simp[tB,D.wt,yk]⟩
  ·rename_i e G;split at h
   ·rename_i q N;split at h
    ·rename_i r;obtain⟨r,b2⟩:=r;rw[dJ]at h;obtain⟨t,b9,h⟩:=h;split at h
     case isFalse=>cases h
     rename_i b3;injection h with h;subst h;rcases DataW.trod_slice G F with⟨rfl,hxn⟩|⟨a,len,cap,elems,rest,Z,rfl,rfl,Xr,_,hlc,Xg,hle,hel,_⟩
     ·exact⟨[.list []],.cons (.nil none 0) (ti.2 ⟨[],rfl,xE _ _,by simp⟩) .nil,by rw[hxn];simp[tB,D.wt,yk]⟩
     ·rcases Nat.eq_zero_or_pos len with h0|h0
      ·subst h0;exact⟨[.list []],.cons (.nil (some a) cap) (ti.2 ⟨[],rfl,xE _ _,by simp⟩) .nil,by rw[Xr];simp[tB,D.wt,yk]⟩
      ·rw[b2]at hel
       have W: ∀z∈((elems.map (·.1)).length+(rest.map (·.1)).length)*P.bytesOf e::(DataW.weightsAll P e (elems.map (·.1))++DataW.weightsAll P e (rest.map (·.1))),z<=K:=by intro z hz;refine TZ z ?_;rw[Xr];simp only[DataW.weights,G];exact hz
       have X: ∀i,i<len-> ∃(Q:Tac) (d:D),w.cells? base (a.add (i*q.length)) q.length=some Q∧pU K t d∧d.cells.length=q.length∧(∀(j:Nat) v c,Q[j]? =some v->d.cells[j]? =some c->ca w S v c)∧ ∀x,elems[i]? =some x->d.wt<=yk x.1:=by
        intro i p;have h1:=hel i p;have h2:elems[i]? =some (elems[i]'(by omega)):=aQ _;rw[h2,dJ]at h1;obtain⟨Q,O,b5⟩:=h1
        obtain⟨di,ri,ki⟩:=vu n Z e Q _ q N b5 (fun b o hb=>hS b o (by rw[Xr];refine bq _ (cZ.2 ⟨elems[i]'(by omega),aA _ (aF _),hb⟩))) (fun z hz=>W z (aH _ (aA _ (nT (bn.2 ⟨_,aF _,rfl⟩) hz))))
        obtain⟨d,V,b1,_,_,c1⟩:=JJ b9 ri;refine⟨Q,d,O,V,by rw[b1];exact ri.len.2,fun j v c J hc=> ?_,fun x F=>by rw[h2]at F;injection F with F;subst F;rw[c1];exact ki⟩;rw[b1]at hc;exact ri.get j v c J hc
       obtain⟨b,R,a4⟩:=a
       have a0:a4=none:=by obtain⟨Q,d,O,_,_⟩:=X 0 h0;obtain⟨_,a6,E⟩:=World.cells?_some O;have g0:=E 0 r;obtain⟨c0,c4⟩: ∃c0,Q[0]? =some c0:=⟨Q[0]'(by omega),aQ _⟩;rw[c4]at g0;simpa [Addr.add]using World.cell?_spot g0
       subst a0
       have a2: ∀i:Nat,∃d:D,i<len->pU K t d∧d.cells.length=q.length∧(∀(j:Nat) c,d.cells[j]? =some c-> ∃v,w.cell? ⟨b,R+(i*q.length+j),none⟩=some v∧ca w S v c)∧ ∀x,elems[i]? =some x->d.wt<=yk x.1:=by
        intro i;by_cases p:i<len
        ·obtain⟨Q,d,O,V,I,a5,b4⟩:=X i p;obtain⟨_,a6,E⟩:=World.cells?_some O;refine⟨d,fun _=>⟨V,I,fun j c hc=> ?_,b4⟩⟩;have hj:j<q.length:=by rw[<-I];exact(aG.1 hc).1
         have g:=E j hj;rw[add_plain,add_plain]at g;have J:Q[j]? =some (Q[j]'(by omega)):=aQ _;refine⟨_,?_,a5 j _ c J hc⟩;rw[<-en,g,J]
        ·exact⟨.top,fun h=>absurd h p⟩
       have A:=fun i=>Classical.choose_spec (a2 i);generalize hD:(fun i=>Classical.choose (a2 i))=Y at*;have c5: ∀i,Classical.choose (a2 i)=Y i:=fun i=>by rw[<-hD]
       simp only[c5]at A;refine⟨[.list ((List.range len).map Y)],.cons ?_ (ti.2 ⟨_,rfl,⟨by simp;omega,?_⟩,?_⟩) .nil,?_⟩
       ·have a1:((List.range len).map Y).length=len:=by simp
        have b0: ∀(i:Nat) d,((List.range len).map Y)[i]? =some d->i<len∧d=Y i:=by
         intro i d p;have C:i<len:=by rw[<-a1];exact(aG.1 p).1
         simp[C]at p;exact⟨C,p.symm⟩
        have:=ca.list (w:=w) (S:=S) b R cap q.length ((List.range (len*q.length)).map fun j=>(w.cell? ⟨b,R+j,none⟩).getD undef) ((List.range len).map Y) r
         (by intro h;have:=congrArg List.length h;simp at this;omega) (by rw[a1];exact hlc) (by simp)
         (fun i p=>hS b (R+i) (by rw[Xr];refine aA _ (MemPlace.mem_row.2 ⟨i,?_,rfl⟩);simp at p;rw[b2,hle];exact av p (au _ (by omega))))
         (fun i v J=>by
          have p:i<len*q.length:=by have:=(aG.1 J).1;simpa using this
          simp[p]at J;have hq:i/q.length<len:=(fq r).2 p;obtain⟨_,I,a3,_⟩:=A (i/q.length) hq;have hr:i % q.length<(Y (i/q.length)).cells.length:=by rw[I];exact Nat.mod_lt _ r
          obtain⟨u,U,_⟩:=a3 (i % q.length) _ (aQ hr);have b7:i/q.length*q.length+i % q.length=i:=by rw[Nat.mul_comm];exact Nat.div_add_mod i q.length
          rw[b7]at U;rw[U]at J⊢;exact congrArg some J)
         (fun i d p=>by obtain⟨h1,rfl⟩:=b0 i d p;exact(A i h1).2.1)
         (fun i d j v c p hj J=>by
          obtain⟨h1,rfl⟩:=b0 i d p;obtain⟨_,I,a3,_⟩:=A i h1;obtain⟨u,U,b6⟩:=a3 j c hj;have c6:j<q.length:=by rw[<-I];exact(aG.1 hj).1
          have C:i*q.length+j<len*q.length:=by have:(i+1)*q.length<=len*q.length:=au _ h1;rw[cb]at this;omega
          simp[C,U]at J;subst J;exact b6)
        rw[a1]at this;exact this
       ·have h9:=W _ (bw ..);rw[<-b3];simp only[ak,fM,hle]at h9⊢;rw[cb]at h9;omega
       ·intro d V;obtain⟨i,p,rfl⟩:=bn.1 V;exact(A i (db.1 p)).1
       ·rw[Xr];simp only[tB,D.wt,yk,ak,fM]
        have:=Nr (H:=H) (ds:=(List.range len).map Y) (xs:=elems.map (·.1)) (by simp[hle]) (fun i d x V F=>by
         have C:i<len:=by have:=(aG.1 V).1;simpa using this
         simp[C]at V;subst V;rw[ab,cU]at F;obtain⟨y,hy,rfl⟩:=F;exact(A i C).2.2.2 y hy)
        omega
    ·cases h
   ·cases h
  ·rename_i fs G;split at h
   ·rename_i q N;split at h
    ·rename_i c2;injection h with h;subst h;obtain⟨xs,Z,rfl,rfl,hl,L,hf⟩:=DataW.trod_struct G F
     have:=uA (S:=S) (cs:=cs) (n:=n) (m:=Z) (enc:=enc) (base:=base) (spare:=spare) (held:=held) (fun T cs x ts=>vu n Z T cs x ts) fs.toList xs 0 q N (by omega) (by simpa using L) (fun i f p=>by
      rw[Array.getElem?_toList]at p;have M:=hf i f p;have B:i<xs.length:=by rw[L];exact(aL.1 p).1
      rw[aQ B]at M;refine⟨_,aQ B,M,fun b o hb=>hS b o (cZ.2 ⟨_,aF B,hb⟩),fun z hz=>TZ z ?_⟩;simp only[DataW.weights,G];exact qO i (by simp[p]) (by simp[aQ B]) hz)
     simpa [yk]using this
    ·cases h
   ·cases h
  ·rename_i k e G;split at h
   ·rename_i q N;split at h
    ·rename_i c2;injection h with h;subst h;obtain⟨xs,Z,rfl,rfl,hl,L,hf⟩:=DataW.trod_array G F
     have b8: ∀(i:Nat) f,(pI (P.cellsOf e) e k)[i]? =some f->i<k∧f.type=e∧f.offset=i*P.cellsOf e:=by intro i f p;unfold pI at p;rw[ab,cU]at p;obtain⟨j,hj,rfl⟩:=p;obtain⟨a7,a8⟩:=aG.1 hj;rw[fM]at a7;rw[List.getElem_range]at a8;exact⟨a7,rfl,by rw[<-a8]⟩
     have:=uA (S:=S) (cs:=cs) (n:=n) (m:=Z) (enc:=enc) (base:=base) (spare:=spare) (held:=held) (fun T cs x ts=>vu n Z T cs x ts) (pI (P.cellsOf e) e k) xs 0 q N (by omega) (by simp[pI,L]) (fun i f p=>by
      obtain⟨a9,e1,e2⟩:=b8 i f p;have M:=hf i a9;have B:i<xs.length:=by rw[L];exact a9
      rw[aQ B]at M;rw[e1,e2];refine⟨_,aQ B,M,fun b o hb=>hS b o (cZ.2 ⟨_,aF B,hb⟩),fun z hz=>TZ z ?_⟩;simp only[DataW.weights,G];exact nT (bn.2 ⟨_,aF B,rfl⟩) hz)
     simpa [yk]using this
    ·cases h
   ·cases h
  ·cases h
end
def zp(P:Tap)(n:Nat):List Tba->Tao (Tal)
 | [] =>some []
 |t::ts=>match Nl P n t,zp P n ts with
  |some x,some xs=>some (x::xs)
  |_,_=>none
section
variable{K:Nat}{w:Tam}{S:bz}{H:Type}{enc:Tba×Tan->H}{P:Tap}{base b0:Nat}{spare:Nat->Bool}{held:Bool}{r:Reach}
def DH{T:Tba}{v:Tan}(a:Value.okWide P w r b0 T v)(b:iR P T=false):v.cells.toList=[v] :=by
 have: ∀cs,v≠ .agg cs:=by
  rintro cs rfl;unfold Value.okWide at a;unfold iR at b;split at a
  ·simp_all
  ·simp_all
  ·unfold Cell.okWide at a;split at a<;>simp_all [Cell.ok]
 cases v<;>first|rfl|exact absurd rfl (this _)
def Ih{T:Tba}{v:Tan}(a:Value.okWide P w r b0 T v)(c:iR P T=true): ∃b:Tac,v= .agg b.toArray:=by
 unfold Value.okWide at a;unfold iR at c;split at a
 ·obtain⟨b,rfl,_⟩:=a;exact⟨b.toList,rfl⟩
 ·obtain⟨b,rfl,_⟩:=a;exact⟨b.toList,rfl⟩
 ·simp_all
def QU{n:Nat}{T:Tba}{v:Tan}{d:DataW H}{ps:List MemPlace}{ty:Ty}(e:Value.okWide P w r b0 T v)(s:DataW.Trod enc P w base spare held T v d ps)(a:Nl P n T=some ty)(t: ∀b o,MemPlace.cell b o∈ps->S b o)(g: ∀z∈d.weights P T,z<=K): ∃x:D,ca w S v x∧pU K ty x∧x.wt<=yk d:=by
 unfold Nl at a;rw[dJ]at a;obtain⟨ts,h,q⟩:=a;obtain⟨m,l⟩:=s;obtain⟨i,f,p⟩:=vu n m T _ _ ts h l t g;obtain⟨x,k,_,A,y,u⟩:=JJ q f;refine⟨x,?_,k,by rw[u];exact p⟩;cases ha:iR P T with
 |true=>
  obtain⟨j,rfl⟩:=Ih e ha;rw[A ha];have c:R3 K w S j i ts:=f;exact .agg j i (by rw[c.len.1,c.len.2]) c.get
 |false=>
  rw[DH e ha,y ha]at f;exact f.get 0 v x rfl rfl
def Fg{n:Nat}: ∀{ts:List Tba} {vs:Tac} {ds:List (DataW H)} {ps:List MemPlace} {c:Tal},(∀(j:Nat) t v,ts[j]? =some t->vs[j]? =some v->Value.okWide P w r b0 t v)->
  DataW.TrodAll enc P w base spare held ts vs ds ps->zp P n ts=some c->(∀b o,MemPlace.cell b o∈ps->S b o)->(∀z∈DataW.weightsEach P ts ds,z<=K)-> ∃g:Taf,R3 K w S vs g c∧tB g<=uQ ds
 | [],[],[],ps,c,_,_,f,_,_=>by simp only[zp,aa]at f;subst f;exact⟨[],.nil,aC _⟩
 |t::ts,v::vs,d::ds,ps,c,D3,⟨p,q,u,s,e⟩,f,hS,TZ=>by
  unfold DataW.weightsEach at TZ;simp only[zp]at f;split at f
  ·rename_i x g A k;injection f with f;subst f;obtain⟨a,E,l,C⟩:=QU (D3 0 t v rfl rfl) u A (fun b o m=>hS b o (by rw[e];exact aA _ m)) (fun z i=>TZ z (aA _ i));obtain⟨y,has,B⟩:=Fg (fun j t v u s=>D3 (j+1) t v (by simpa using u) (by simpa using s)) s k (fun b o m=>hS b o (by rw[e];exact bq _ m)) (fun z i=>TZ z (bq _ i));exact⟨a::y,.cons E l has,by simp only[tB,uQ];omega⟩
  ·cases f
 | [],_::_,_,_,_,_,h,_,_,_| [],[],_::_,_,_,_,h,_,_,_|_::_,[],_,_,_,_,h,_,_,_|_::_,_::_,[],_,_,_,h,_,_,_=>h.elim
def tN(c:laidOutB P=true){W g:Tam}(f:Below W.heap.size W g): ∀{ts:List Tba} {vs:Tac} {ds:List (DataW H)} {ps:List MemPlace},(ts.all fun t=>P.readableRec t&&decide (t<P.types.size))=true->
  DataW.TrodAll enc P W 0 (fun _=>true) true ts vs ds ps->(∀x∈ps,x.block<W.heap.size)->DataW.TrodAll enc P g 0 (fun b=>decide (b<W.heap.size)) true ts vs ds ps
 | [],[],[],_,_,h,_=>h
 |t::ts,v::vs,d::ds,ps,hr,⟨p,q,h1,h2,e⟩,Pe=>by
  rw[List.all_cons,aS,aS,bk]at hr
  exact⟨p,q,Below.trod c hr.1.1 hr.1.2 h1 f (fun x a=>Pe x (by rw[e];exact aA _ a)),
   tN c f hr.2 h2 (fun x a=>Pe x (by rw[e];exact bq _ a)),e⟩
 | [],_::_,_,_,_,h,_| [],[],_::_,_,_,h,_|_::_,[],_,_,_,h,_|_::_,_::_,[],_,_,h,_=>h.elim
def DL{f:Nat}{fn:Func}{g:dH}{s:ChangeSpec}{i:Bool}{W:Tam}{args:Tbd Tan}{ds M:List (DataW H)}{l:List MemPlace}{tb:Tba}{Pre:Taf->Prop}{Φ:Taf->D}(n:Nat)(hp:bj P f g Pre Φ)(hl:laidOutB P=true)(u:(fn.params.toList.all fun t=>P.readableRec t&&decide (t<P.types.size))=true)(R:zp P n fn.params.toList=some g.params)(F:g.res=[(false,[(.bool,none)])])(U:fn.resultTypes= #[tb])(T:P.underlying tb=some .bool)(d:s.vars=[])(a0:s.fn H ds={results:=[.lit (.bool true)],args:=ds})(C: ∀(j:Nat) t v,fn.params[j]? =some t->args[j]? =some v->Value.okWide P W r b0 t v)(hW:DataW.Whole enc P fn.params.toList s.vars i W args.toList ds M l)(B:(DataW.weightsEach P (fn.params.toList++s.plain.varTypes P) (ds++M)).all (· <=reachBytes)=true)(I: ∀m,qN reachBytes (.V g.params) m->tB m<=uQ (ds++M)->Pre m∧Φ m= .bool true)(Y:g.ob=none:=by rfl):
  Calls P f args W fun e W'=> ∃v,e= .returned v∧s.post enc P fn i true false false W args v W':=by
 have J:=hW.lt;have a1:=hW;obtain⟨p,q,hA,hV,rfl,_,_⟩:=hW;rw[d]at hV
 obtain⟨rfl,rfl⟩:M=[] ∧q=[] :=by
  cases M with
  |nil=>exact⟨rfl,hV⟩
  |cons a b=>exact hV.elim
 have Q:s.plain.varTypes P=[] :=by simp[ChangeSpec.plain,DataSpec.varTypes,d]
 rw[Q,cN,cN]at B
 have A: ∀z∈DataW.weightsEach P fn.params.toList ds,z<=reachBytes:=fun z hz=>by simpa using bY.1 B z hz
 have h8:reachBytes<=140737488355328:=by decide
 obtain⟨m,G,Z⟩:=Fg (S:=fun b o=>MemPlace.cell b o∈p) (fun j t v h1 h2=>C j t v (by simpa using h1) (by simpa using h2)) hA R (fun _ _ h=>h) A;obtain⟨X,V⟩:=I m G.has (by rw[cN];exact Z);have hc:=hp.calls Y W (fun b o=>MemPlace.cell b o∈p) args.toList m (fun b o O=>J (.cell b o) (aA _ O)) (by rw[G.len.1,G.len.2]) G.get ((ni h8 _).2 _ G.has) X;refine hc.mono fun e W' h=> ?_;obtain⟨v,S',τ,rfl,O,_,_,_,E,_⟩:=h;rw[F]at E;rcases E with⟨x,N,hco⟩|⟨tv,_⟩
 ·simp only[ev,and_true]at N;subst N;obtain⟨c,L,k⟩:=hco;simp only[ev,and_true]at L;subst L;obtain⟨k,_⟩:=k;rw[V]at k;have hv:=k.gS;subst hv;have y:(s.fn H (ds++[]))={results:=[.lit (.bool true)],args:=ds}:=by rw[cN,a0]
  refine⟨_,rfl,ds,[],_,[],p,[],a1,?_,?_,?_,O.frame _,fun h=>by cases h⟩
  ·rw[y,U];exact⟨[],[],⟨1,by simp[DataW.trod,Value.cells,T]⟩,rfl,rfl⟩
  ·rw[y];exact tN hl O u hA (fun x N=>J x (aA _ N))
  ·rw[y,d];rfl
 ·exact absurd rfl tv
end
end Go.dI
namespace Go.dI
open Go Go.RowKit
def tY.rep{w:Tam}{S:bz}{T:Tba}{t:Ty}{v:Tan}{d:D}(h:tY false w 0 S T t v d):ca w S v d:=by have:=tY.ok (C:=⟨fun _=>d,1,fun _=>True⟩) (G:=⟨S,fun _=>0,fun _=>v⟩) (g:=(0,0)) (e:=.var 0) h trivial rfl rfl rfl rfl;exact this.rep h.sz
section
variable{Φ:Taa}{Pre:eN}{R:D->Prop}{ρ:Nat->D}{kJ:List (Taf->Prop)}
def fm{p:Nat}{t:Ty}{k:VC}:(VC.any p t k).holds Φ Pre R ρ kJ= ∀d,Has t d->k.holds Φ Pre R (fD ρ p d) kJ:=rfl
def fj{p:Nat}{a:List (E×E)}{k:VC}:(VC.Xh p a k).holds Φ Pre R ρ kJ= ∀d,(∀x∈a,(den (fD ρ p d) x.1).A.length=(den (fD ρ p d) x.2).A.length)->k.holds Φ Pre R (fD ρ p d) kJ:=rfl
end
def iB(fn:Func):Code:=match fn.body with
 |some c=>c
 |none=>.skip
end Go.dI
namespace Go.dI
open Go
section
variable{α:Type}(Φ:Taa)
def VC.FZ(b:D->α)(c:Nat->Taf->α)(lp:Nat->(Nat->D)->Taf->α)(bad:α):VC->(Nat->D)->α
 |.kq _ _ k,ρ=>k.FZ b c lp bad ρ
 |.call p f a _ k,ρ=>k.FZ b c lp bad (fD ρ p (Φ f (den ρ a).A))
 |.room _ _ _ k,ρ=>k.FZ b c lp bad ρ
 |.branch e t f,ρ=>if(den ρ e).Y=true then t.FZ b c lp bad ρ else f.FZ b c lp bad ρ
 |.loop v0 es _ _,ρ=>lp v0 ρ (es.map (den ρ))
 |.again i es,ρ=>c i (es.map (den ρ))
 |.ret e,ρ=>b (den ρ e)
 |_,_=>bad
def VC.pN:VC->(Nat->D)->Taf
 |.kq _ _ k,ρ=>k.pN ρ
 |.call p f a _ k,ρ=>k.pN (fD ρ p (Φ f (den ρ a).A))
 |.room _ _ _ k,ρ=>k.pN ρ
 |.branch _ t f,ρ=>t.pN ρ++f.pN ρ
 |.ret e,ρ=> [den ρ e]
 |_,_=> []
def VC.kI:VC->(Nat->D)->List (Taf)
 |.kq _ _ k,ρ=>k.kI ρ
 |.call p f a _ k,ρ=>k.kI (fD ρ p (Φ f (den ρ a).A))
 |.room _ _ _ k,ρ=>k.kI ρ
 |.branch _ t f,ρ=>t.kI ρ++f.kI ρ
 |.again _ es,ρ=> [es.map (den ρ)]
 |_,_=> []
end
def VC.flat:Bool->VC->Bool
 |b,.kq _ _ k|b,.room _ _ _ k=>k.flat b
 |b,.call _ _ _ _ k=>k.flat b
 |b,.branch _ t f=>t.flat b&&f.flat b
 |b,.again i _=>b&&i==0
 |_,_=>true
def VC.quiet(triv:Nat->Bool):VC->Bool
 |.call _ f _ _ k=>triv f&&k.quiet triv
 |.branch _ t f=>t.quiet triv&&f.quiet triv
 |.again .. =>true
 |.ret _=>true
 |_=>false
section
variable(Φ:Taa)(Pre:eN)(triv:Nat->Bool)
def VC.LH(L:VC->(Nat->D)->Prop):VC->(Nat->D)->Prop
 |.kq pc e k,ρ=>(aU ρ pc=true->(den ρ e).Y=true)∧(if k.quiet triv then True else k.LH L ρ)
 |.call p f a pc k,ρ=>(if triv f then True else(aU ρ pc=true->Pre f (den ρ a).A))∧(if k.quiet triv then True else k.LH L (fD ρ p (Φ f (den ρ a).A)))
 |.room pc e bytes k,ρ=>(aU ρ pc=true->(den ρ e).A.length<=maxLen∧(den ρ e).A.length*bytes<=140737488355328)∧(if k.quiet triv then True else k.LH L ρ)
 |.branch e t f,ρ=>(if t.quiet triv then True else((den ρ e).Y=true->t.LH L ρ))∧(if f.quiet triv then True else((den ρ e).Y=false->f.LH L ρ))
 |.loop v0 es F4 body,ρ=>L (.loop v0 es F4 body) ρ
 |.again ..,_=>True
 |.ret _,_=>True
 |_,_=>False
def VC.xX(L:VC->(Nat->D)->Prop)(v:VC)(ρ:Nat->D):Prop:=if v.quiet triv then True else v.LH Φ Pre triv L ρ
end
section
variable{Φ:Taa}{Pre:eN}{triv:Nat->Bool}
def VC.hR{R q:D->Prop}(g: ∀d,R d->q d): ∀(v:VC) (ρ:Nat->D) (e:List (Taf->Prop)),v.holds Φ Pre R ρ e->v.holds Φ Pre q ρ e
 |.kq _ _ k,ρ,e,h=>⟨h.1,hR g k ρ e h.2⟩
 |.call _ _ _ _ k,ρ,e,h=>⟨h.1,fun d l=>hR g k _ e (h.2 d l)⟩
 |.room _ _ _ k,ρ,e,h=>⟨h.1,hR g k ρ e h.2⟩
 |.branch _ t f,ρ,e,h=>⟨fun n=>hR g t ρ e (h.1 n),fun n=>hR g f ρ e (h.2 n)⟩
 |.loop _ _ _ body,ρ,e,h=>by obtain⟨I,m,p,o⟩:=h;exact⟨I,m,p,fun j r s=>hR g body _ _ (o j r s)⟩
 |.again _ _,_,_,h=>h
 |.ret _,_,_,h=>g _ h
 |.any _ _ k,ρ,e,h=>fun d l=>hR g k _ e (h d l)
 |.Xh _ _ k,ρ,e,h=>fun d l=>hR g k _ e (h d l)
 |.range _ _ _ _ _ _ body done,ρ,e,h=>by obtain⟨w,I,p,o,u⟩:=h;exact⟨w,I,p,fun i x j a b c d=>hR g body _ _ (o i x j a b c d),fun j a b=>hR g done _ _ (u j a b)⟩
 |.stuck _,_,_,h=>h.elim
def VC.wV(L:VC->(Nat->D)->Prop): ∀(v:VC) (ρ:Nat->D),v.quiet triv=true->v.LH Φ Pre triv L ρ
 |.kq ..,_,h=>by cases h
 |.call _ f _ _ k,ρ,h=>by simp only[VC.quiet,aS]at h;exact⟨by rw[if_pos h.1];trivial,by rw[if_pos h.2];trivial⟩
 |.room ..,_,h=>by cases h
 |.branch _ t f,ρ,h=>by simp only[VC.quiet,aS]at h;exact⟨by rw[if_pos h.1];trivial,by rw[if_pos h.2];trivial⟩
 |.loop ..,_,h=>by cases h
 |.again ..,_,_=>trivial
 |.ret _,_,_=>trivial
 |.any ..,_,h=>by cases h
 |.Xh ..,_,h=>by cases h
 |.range ..,_,h=>by cases h
 |.stuck _,_,h=>by cases h
def VC.zI{L:VC->(Nat->D)->Prop}{v:VC}{ρ:Nat->D}(h:v.xX Φ Pre triv L ρ):v.LH Φ Pre triv L ρ:=by
 unfold VC.xX at h;split at h
 ·rename_i a;exact VC.wV L v ρ a
 ·exact h
def VC.GF{L:VC->(Nat->D)->Prop}{v:VC}{ρ:Nat->D}(h:if v.quiet triv then True else v.LH Φ Pre triv L ρ):v.LH Φ Pre triv L ρ:=VC.zI h
def VC.holds_of{A B:Type}{decL:Taf->A}{encL:A->Taf}{dec:D->B}{enc:B->D}{lp:Nat->(Nat->D)->Taf->B}{bad:A⊕B}{R:D->Prop}{J:Taf->Prop}{b:Bool}{m:List (Taf->Prop)}(c: ∀f a,triv f=true->Pre f a)(g:b=true->m.head? =some J)(L:VC->(Nat->D)->Prop)(u: ∀o s j h ρ,L (.loop o s j h) ρ->R (enc (lp o ρ (s.map (den ρ))))->(VC.loop o s j h).holds Φ Pre R ρ m):
  ∀(v:VC) (ρ:Nat->D),v.flat b=true->v.LH Φ Pre triv L ρ->(v.pN Φ ρ).map (fun d=>enc (dec d))=v.pN Φ ρ->(v.kI Φ ρ).map (fun l=>encL (decL l))=v.kI Φ ρ->
   (match v.FZ Φ (fun d=>.inr (dec d)) (fun _ l=>.inl (decL l)) (fun o ρ l=>.inr (lp o ρ l)) bad ρ with| .inl a=>J (encL a)| .inr y=>R (enc y))->v.holds Φ Pre R ρ m
 |.kq pc e k,ρ,hf,ho,hr,ha,hv=>⟨ho.1,holds_of c g L u k ρ hf (VC.GF ho.2) hr ha hv⟩
 |.call p f a pc k,ρ,hf,ho,hr,ha,hv=>by
  refine⟨fun E=> ?_,fun d C=> ?_⟩
  ·have w:=ho.1;split at w
   ·exact c f _ (by assumption)
   ·exact w E
  ·subst C;exact holds_of c g L u k _ hf (VC.GF ho.2) hr ha hv
 |.room pc e n k,ρ,hf,ho,hr,ha,hv=>⟨ho.1,holds_of c g L u k ρ hf (VC.GF ho.2) hr ha hv⟩
 |.branch e t f,ρ,hf,ho,hr,ha,hv=>by
  simp only[VC.flat,aS]at hf;simp only[VC.pN,ck]at hr;simp only[VC.kI,ck]at ha;have x:=List.append_inj hr (by simp);have z:=List.append_inj ha (by simp);refine⟨fun q=> ?_,fun q=> ?_⟩
  ·refine holds_of (bad:=bad) c g L u t ρ hf.1 ?_ x.1 z.1 ?_
   ·have:=ho.1;split at this
    ·exact VC.wV L t ρ (by assumption)
    ·exact this q
   ·simp only[VC.FZ]at hv;rw[if_pos q]at hv;exact hv
  ·refine holds_of (bad:=bad) c g L u f ρ hf.2 ?_ x.2 z.2 ?_
   ·have:=ho.2;split at this
    ·exact VC.wV L f ρ (by assumption)
    ·exact this q
   ·simp only[VC.FZ]at hv;rw[if_neg (by rw[q];simp)]at hv;exact hv
 |.loop o s j h,ρ,_,ho,_,_,hv=>u o s j h ρ ho hv
 |.again i s,ρ,hf,_,_,ha,hv=>by
  simp only[VC.flat,aS,beq_iff_eq]at hf;obtain⟨q,rfl⟩:=hf;have w:=g q;simp only[VC.kI,cE,List.map_nil,ev,and_true]at ha;cases m with
  |nil=>cases w
  |cons J' r=>
   simp only[List.head?_cons,aa]at w;subst w;show J' (s.map (den ρ));rw[<-ha];exact hv
 |.ret e,ρ,_,_,hr,_,hv=>by simp only[VC.pN,cE,List.map_nil,ev,and_true]at hr;show R (den ρ e);rw[<-hr];exact hv
 |.any ..,_,_,ho,_,_,_=>ho.elim
 |.Xh ..,_,_,ho,_,_,_=>ho.elim
 |.range ..,_,_,ho,_,_,_=>ho.elim
 |.stuck _,_,_,ho,_,_,_=>ho.elim
def VC.Ij{L:VC->(Nat->D)->Prop}{v:VC}{ρ:Nat->D}(h:v.quiet triv=true):v.xX Φ Pre triv L ρ:=by unfold VC.xX;rw[if_pos h];trivial
def VC.Ea(Φ:Taa)(Pre:eN){B:Type}(enc:B->D)(lp:Nat->(Nat->D)->Taf->B)(a:List (Taf->Prop))(v:VC)(ρ:Nat->D):Prop:=
 match v with
 |.loop v0 es F4 body=>(VC.loop v0 es F4 body).holds Φ Pre (fun d=>d=enc (lp v0 ρ (es.map (den ρ)))) ρ a
 |_=>True
def VC.U3(Φ:Taa)(Pre:eN){B:Type}(enc:B->D)(lp:Nat->(Nat->D)->Taf->B)(a:List (Taf->Prop))(v:VC)(ρ:Nat->D):Prop:= ∀J:Taf->Prop,VC.Ea Φ Pre enc lp (J::a) v ρ
def VC.E4{B:Type}{dec:D->B}{enc:B->D}{lp:Nat->(Nat->D)->Taf->B}{bad:B}{y:B}{v:VC}{ρ:Nat->D}{kJ:List (Taf->Prop)}(c: ∀f a,triv f=true->Pre f a)(g:v.flat false=true)(w:v.xX Φ Pre triv (VC.Ea Φ Pre enc lp kJ) ρ)(u:(v.pN Φ ρ).map (fun d=>enc (dec d))=v.pN Φ ρ)(s:v.FZ Φ dec (fun _ _=>bad) lp bad ρ=y):v.holds Φ Pre (fun d=>d=enc y) ρ kJ:=by
 have m: ∀(v:VC) (ρ:Nat->D),v.flat false=true->v.kI Φ ρ=[] :=by
  intro v
  induction v with
  |kq _ _ k ih=>intro ρ h;exact ih ρ h
  |call _ _ _ _ k ih=>intro ρ h;exact ih _ h
  |room _ _ _ k ih=>intro ρ h;exact ih ρ h
  |branch _ t f Xa Pj=>
   intro ρ h;simp only[VC.flat,aS]at h;simp only[VC.kI,Xa ρ h.1,Pj ρ h.2,cN]
  |again i o=>intro ρ h;simp[VC.flat]at h
  |_=>intro ρ _;rfl
 have j: ∀(v:VC) (ρ:Nat->D),v.flat false=true->v.FZ Φ (fun d=>(.inr (dec d):Unit⊕B)) (fun _ l=>.inl ((fun _=>()) l)) (fun n ρ l=>.inr (lp n ρ l)) (.inr bad) ρ= .inr (v.FZ Φ dec (fun _ _=>bad) lp bad ρ):=by
  intro v
  induction v with
  |kq _ _ k ih=>intro ρ h;exact ih ρ h
  |call _ _ _ _ k ih=>intro ρ h;exact ih _ h
  |room _ _ _ k ih=>intro ρ h;exact ih ρ h
  |branch e t f Xa Pj=>
   intro ρ h;simp only[VC.flat,aS]at h;simp only[VC.FZ,Xa ρ h.1,Pj ρ h.2];split<;>rfl
  |again i o=>intro ρ h;simp[VC.flat]at h
  |_=>intro ρ _;rfl
 subst s;refine VC.holds_of (A:=Unit) (decL:=fun _=>()) (encL:=fun _=> []) (dec:=dec) (enc:=enc) (lp:=lp) (bad:=.inr bad) (J:=fun _=>False) (b:=false) c (fun h=>by cases h) _ ?_ v ρ g (VC.zI w) u (by rw[m v ρ g];rfl) ?_
 ·intro n o r p q C x;refine VC.hR (fun d z=> ?_) _ _ _ C;rw[z];exact x
 ·rw[j v ρ g]
def VC.Iv{A B:Type}{decL:Taf->A}{encL:A->Taf}{dec:D->B}{enc:B->D}{lp:A->Nat->(Nat->D)->Taf->B}{bad:A⊕B}{R:D->Prop}{kJ:List (Taf->Prop)}{v0:Nat}{es:List E}{j:Tal}{c:VC}{ρ:Nat->D}(step:A->A⊕B)(F:A->B)(inv:A->Prop)(m:A->Nat)(i:A)(g: ∀f a,triv f=true->Pre f a)(M:es.map (den ρ)=encL i)(hi:inv i)(k: ∀a,decL (encL a)=a)(L: ∀a,inv a->(match step a with| .inl a'=>F a=F a'∧inv a'∧m a'<m a| .inr y=>F a=y))(q:c.flat true=true)(r: ∀a,inv a->c.FZ Φ (fun d=>.inr (dec d)) (fun _ l=>.inl (decL l)) (fun v0 ρ l=>.inr (lp a v0 ρ l)) bad (fZ ρ v0 (encL a))=step a)(x: ∀a,(c.pN Φ (fZ ρ v0 (encL a))).map (fun d=>enc (dec d))=c.pN Φ (fZ ρ v0 (encL a)))(G: ∀a,(c.kI Φ (fZ ρ v0 (encL a))).map (fun l=>encL (decL l))=c.kI Φ (fZ ρ v0 (encL a)))(p: ∀a,inv a->dn (.V j) (encL a)->c.xX Φ Pre triv (VC.U3 Φ Pre enc (lp a) kJ) (fZ ρ v0 (encL a)))(H:R (enc (F i))):(VC.loop v0 es j c).holds Φ Pre R ρ kJ:=by
 refine⟨fun o=> ∃a,inv a∧o=encL a∧F a=F i,fun o=>m (decL o),⟨i,hi,M,rfl⟩,fun o w K=> ?_⟩;obtain⟨a,h,rfl,n⟩:=K;refine VC.holds_of (decL:=decL) (encL:=encL) (dec:=dec) (enc:=enc) (lp:=lp a) (bad:=bad) (J:=fun t=>(∃a,inv a∧t=encL a∧F a=F i)∧m (decL t)<m (decL (encL a))) (b:=true) g (fun _=>rfl) _ ?_ c _ q (VC.zI (p a h w)) (x a) (G a) ?_
 ·intro O N u s v I z;refine VC.hR (fun d C=> ?_) _ _ _ (I _);rw[C];exact z
 ·rw[r a h];have e:=L a h;revert e;cases step a with
  |inl a'=>
   intro e;exact⟨⟨a',e.2.1,rfl,e.1.symm.trans n⟩,by rw[k,k];exact e.2.2⟩
  |inr y=>
   intro e;simp only at e⊢;rw[<-e,n];exact H
end
def iN{A B:Type}(step:A->A⊕B)(bad:B):Nat->A->B
 |0,_=>bad
 |n+1,a=>match step a with
  |.inl a'=>iN step bad n a'
  |.inr b=>b
def Ca{A B:Type}{step:A->A⊕B}{bad:B}{inv:A->Prop}{m:A->Nat}(h: ∀a,inv a->(match step a with| .inl a'=>inv a'∧m a'<m a| .inr _=>True)):
  ∀(k:Nat) (a:A),inv a->m a<=k-> ∀n d,m a<n->m a<d->iN step bad n a=iN step bad d a
 |k,a,hi,hk,0,d,h1,h2=>by omega
 |k,a,hi,hk,n+1,0,h1,h2=>by omega
 |0,a,hi,hk,n+1,d+1,h1,h2=>by
  have c:=h a hi;simp only[iN];revert c;cases step a with
  |inl a'=>intro c;simp only at c;omega
  |inr b=>intro _;rfl
 |k+1,a,hi,hk,n+1,d+1,h1,h2=>by
  have c:=h a hi;simp only[iN];revert c;cases step a with
  |inl a'=>intro c;simp only at c;exact Ca h k a' c.1 (by omega) n d (by omega) (by omega)
  |inr b=>intro _;rfl
def Iu{A B:Type}{step:A->A⊕B}{bad:B}{inv:A->Prop}{m:A->Nat}(h: ∀a,inv a->(match step a with| .inl a'=>inv a'∧m a'<m a| .inr _=>True))(a:A)(hi:inv a):
  (match step a with| .inl a'=>iN step bad (m a+1) a=iN step bad (m a'+1) a'∧inv a'∧m a'<m a| .inr y=>iN step bad (m a+1) a=y):=by
 have c:=h a hi;have e:iN step bad (m a+1) a=(match step a with| .inl a'=>iN step bad (m a) a'| .inr b=>b):=rfl;rw[e];revert c;cases step a with
 |inl a'=>intro c;simp only at c⊢;exact⟨Ca h (m a') a' c.1 (bf _) _ _ c.2 (cY _),c.1,c.2⟩
 |inr y=>intro _;rfl
def ib{A B:Type}{step:A->A⊕B}{bad:B}(I:A->Prop)(Q:B->Prop)(m:A->Nat)(h: ∀a,I a->(match step a with| .inl a'=>I a'∧m a'<m a| .inr b=>Q b)): ∀(n:Nat) (a:A),I a->m a<n->Q (iN step bad n a)
 |0,a,_,hn=>by omega
 |n+1,a,hi,hn=>by
  have c:=h a hi;simp only[iN];revert c;cases step a with
  |inl a'=>intro c;simp only at c;exact ib I Q m h n a' c.1 (by omega)
  |inr b=>intro c;exact c
def VC.Xp(v0:Nat):VC->Tao VC
 |.kq _ _ k| .room _ _ _ k| .call _ _ _ _ k| .any _ _ k| .Xh _ _ k=>k.Xp v0
 |.branch _ t f=>match t.Xp v0 with|some v=>some v|none=>f.Xp v0
 |.loop v1 es F4 body=>if v1=v0 then some (.loop v1 es F4 body) else body.Xp v0
 |_=>none
def VC.lp(v0:Nat)(v:VC):VC:=(v.Xp v0).getD (.stuck 0)
def VC.lEs:VC->List E
 |.loop _ es _ _=>es
 |_=> []
def VC.U5:VC->Tal
 |.loop _ _ F4 _=>F4
 |_=> []
def VC.uY:VC->VC
 |.loop _ _ _ b=>b
 |_=>.stuck 0
section
variable{Φ:Taa}{Pre:eN}{triv:Nat->Bool}
def VC.ia{A B:Type}{decL:Taf->A}{encL:A->Taf}{dec:D->B}{enc:B->D}{lp:A->Nat->(Nat->D)->Taf->B}{bad:A⊕B}{bd:B}{R:D->Prop}{kJ:List (Taf->Prop)}{v:VC}{v0:Nat}{ρ:Nat->D}(k:v= .loop v0 v.lEs v.U5 v.uY)(step:A->A⊕B)(inv:A->Prop)(m:A->Nat)(c:A)(b: ∀f a,triv f=true->Pre f a)(r:v.lEs.map (den ρ)=encL c)(hi:inv c)(j: ∀a,decL (encL a)=a)(n: ∀a,inv a->(match step a with| .inl a'=>inv a'∧m a'<m a| .inr _=>True))(h:v.uY.flat true=true)(i: ∀a,inv a->v.uY.FZ Φ (fun d=>.inr (dec d)) (fun _ l=>.inl (decL l)) (fun v0 ρ l=>.inr (lp a v0 ρ l)) bad (fZ ρ v0 (encL a))=step a)(o: ∀a,(v.uY.pN Φ (fZ ρ v0 (encL a))).map (fun d=>enc (dec d))=v.uY.pN Φ (fZ ρ v0 (encL a)))(p: ∀a,(v.uY.kI Φ (fZ ρ v0 (encL a))).map (fun l=>encL (decL l))=v.uY.kI Φ (fZ ρ v0 (encL a)))(e: ∀a,inv a->dn (.V v.U5) (encL a)->v.uY.xX Φ Pre triv (VC.U3 Φ Pre enc (lp a) kJ) (fZ ρ v0 (encL a)))(q:R (enc (iN step bd (m c+1) c))):v.holds Φ Pre R ρ kJ:=by rw[k];exact VC.Iv step (fun a=>iN step bd (m a+1) a) inv m c b r hi j (fun a g=>Iu n a g) h i o p e q
end
section
variable{Φ:Taa}{Pre:eN}
def VC.jn{B:Type}{enc:B->D}{lp:Nat->(Nat->D)->Taf->B}{a:List (Taf->Prop)}{v:VC}{ρ:Nat->D}(v0:Nat)(b:v= .loop v0 v.lEs v.U5 v.uY)(h:v.holds Φ Pre (fun d=>d=enc (lp v0 ρ (v.lEs.map (den ρ)))) ρ a):VC.Ea Φ Pre enc lp a v ρ:=by rw[b]at h⊢;exact h
end
end Go.dI
namespace Go.Proofs.Ytjhmkaninmgilaa
open Go Go.RowKit Go.dI Go.Proofs
def adT:Ty:=.agg (.V [.int .i64,.int .i64])
def aa2:Tal:=[.int .i64,.int .i64,.int .i64,.list (.int .i64),.list Oa,.bool]
def aeM:Tal:=[.int .i64,.int .i64,.int .i64,.int .i64,.list ae8,.int .i64,.bool]
def abo:Tal:=[.int .i64,.int .i64,.int .i64,.bool,.bool,.int .i64,.int .i64,.int .i64]
def Bj:Tal:=[.int .i64,.int .i64,.int .i64] ++aeM++abo++[.list adT] ++aa2++[.list (.int .i64),.list (.int .i64)]
def uR:Ty:=.agg (.V Bj)
def dV:Ty:=.agg (.V ([.int .i64,.int .i64] ++Bj))
def jd:List bB:=[(.int .i64,none),(.int .i64,none),(dV,some (0,78))]
def mL:Ty:=.agg (.V [.list (.int .i64),.list (.int .i64)])
def I6:Ty:=.int .i64
def U2:Tal:=[I6,I6,I6,I6,I6,I6,I6,.bool,I6,I6,I6,I6,.list dV,.list I6,.list I6,.list (.int .u8)] ++Bj++[I6,I6,.list Oa]
def hH:Ty:=.agg (.V U2)
def yT:Tal:=[I6,I6]
def ks:Tal:=[I6,I6,.list I6,.list I6,.list (.int .u8)]
def Rp:Ty:=.agg (.V ks)
def iI:Ty:=.agg (.V (yT++ks++[.list dV]))
def ue:Ty:=.agg (.V [I6,I6])
def ZU:Ty:=.agg (.V [I6,I6,I6,.list I6])
def pl(l:Tal):List bB:=l.map fun t=>(t,none)
def lD:List bB:=pl [.bool,I6,I6] ++[(dV,some (1,78)),(.ptr (.V ks),none),(hH,some (2,49)),(dV,some (3,78)),(ue,some (4,153))] ++
 pl [I6,.list I6,.list I6,I6,I6] ++[(.box .nil,none)] ++pl ks++pl [I6,I6,I6,I6,I6] ++[(I6,some (5,3))] ++pl (List.replicate 18 I6)++pl [I6,.list ZU] ++pl [I6,I6,I6,I6,I6] ++[(.int .u8,some (6,5))]
def Gd:Ty:=.box (.V [I6,I6,.list dV])
def tC:Ty:=.box (.V (lD.map fun r=>if r=IL then Gd else Ec r))
def eR:Tal:=lD.map Ec++jd.map Ec
def ya:List (Nat×List (Nat×Tba)):=[(0,[(3,78),(5,49),(6,78),(7,153),(24,3),(50,5),(1002,78)])]
def dC(k:Nat):Ob:=⟨true::List.replicate k false,[lD,jd],[lD,jd],false⟩
def W5:dH:=⟨[.list (.int .i64),.int .i64],[(false,[(.int .i64,none)])],none⟩
def Yp:List (Nat×dH):=(79,W5):: []
def s56:dH:=⟨[.list (.int .i64),.int .i64],[(false,[(.bool,none)])],none⟩
def YC:List (Nat×dH):=(56,s56)::Yp
def s61:dH:=⟨[.list (.int .i64)],[(false,[(.int .i64,some (1,3))])],none⟩
def Yy:List (Nat×dH):=(61,s61)::YC
def s82:dH:=⟨[.list (.int .i64)],[],some ⟨[],[],[[],[]],false⟩⟩
def Yo:List (Nat×dH):=(82,s82)::Yy
def s83:dH:=⟨[.list (.int .i64)],[(false,[(.list (.int .i64),none)])],some ⟨[],[],[[],[]],false⟩⟩
def Yn:List (Nat×dH):=(83,s83)::Yo
def s55:dH:=⟨[.list (.int .i64)],[(false,[(.bool,none)])],none⟩
def YD:List (Nat×dH):=(55,s55)::Yn
def s21:dH:=⟨[mL],[(false,[(.bool,none)])],none⟩
def YU:List (Nat×dH):=(21,s21)::YD
def s36:dH:=⟨[mL,.int .i64],[(false,[(.bool,none)])],none⟩
def YL:List (Nat×dH):=(36,s36)::YU
def s63:dH:=⟨[mL],[(false,[(.list (.int .i64),none)])],none⟩
def Yx:List (Nat×dH):=(63,s63)::YL
def s66:dH:=⟨[mL,.list (.int .i64)],[(false,[(.bool,none)])],none⟩
def Yw:List (Nat×dH):=(66,s66)::Yx
def TU:dH:=⟨[mL,.list (.int .i64)],[(false,[(.int .i64,none)])],none⟩
def Ys:List (Nat×dH):=(72,TU)::Yw
def gx:dH:=⟨[mL,mL],[(false,[(.bool,none)])],none⟩
def Yu:List (Nat×dH):=(70,gx)::Ys
def s20:dH:=⟨[.int .i64,.int .i64,.int .i64],[(false,[(.bool,none)])],none⟩
def YV:List (Nat×dH):=(20,s20)::Yu
def s52:dH:=⟨[.list (.int .u8)],[(false,[(.int .u8,some (1,5))])],none⟩
def YF:List (Nat×dH):=(52,s52)::YV
def s60:dH:=⟨[dV],[(false,[(.bool,none)])],none⟩
def Yz:List (Nat×dH):=(60,s60)::YF
def Mg:dH:=⟨[.list dV,.fn 60 .nil],[(false,[(.int .i64,none)])],none⟩
def Nz:List (Nat×dH):=(80,Mg)::Yz
def Mh:dH:=⟨[.list dV,.fn 60 .nil],[(false,[(.bool,none)])],none⟩
def NA:List (Nat×dH):=(59,Mh)::Nz
def s24:dH:=⟨[.list dV],[(false,[(.bool,none)])],none⟩
def YS:List (Nat×dH):=(24,s24)::NA
def s26:dH:=⟨[mL],[(true,[(I6,some (11,3)),(I6,some (12,3))])],none⟩
def YQ:List (Nat×dH):=(26,s26)::YS
def s28:dH:=⟨[Gd],[(false,[(.int .i64,none)]),(false,[(.int .i64,none)])],none⟩
def YP:List (Nat×dH):=(28,s28)::YQ
def s25:dH:=⟨[Gd],[(false,[(.int .i64,none)]),(false,[(.int .i64,none)])],none⟩
def YR:List (Nat×dH):=(25,s25)::YP
def s50:dH:=⟨[Gd,I6],[(false,[(.int .i64,none)]),(false,[(.int .i64,none)])],none⟩
def YH:List (Nat×dH):=(50,s50)::YR
def qE:dH:=⟨[Gd,I6,I6],[(false,[(.bool,none)])],none⟩
def Yr:List (Nat×dH):=(74,qE)::YH
def s65:dH:=⟨[Gd,I6,I6],[(false,[(dV,some (9,78))])],none⟩
def Ur:List (Nat×dH):=(65,s65)::Yr
def s49:dH:=⟨[tC,I6],[(true,[(I6,some (11,3)),(I6,some (12,3))])],none⟩
def YI:List (Nat×dH):=(49,s49)::Ur
def s29:dH:=⟨[tC],[(true,[(I6,some (11,3)),(I6,some (12,3))])],none⟩
def UD:List (Nat×dH):=(29,s29)::YI
def s32:dH:=⟨[tC,mL],[(false,[(I6,some (10,3))])],none⟩
def YO:List (Nat×dH):=(32,s32)::UD
def s76:dH:=⟨[tC,I6],[(false,[(.bool,none)])],none⟩
def Un:List (Nat×dH):=(76,s76)::YO
def s69:dH:=⟨[tC],[(false,[(.bool,none)])],none⟩
def Yv:List (Nat×dH):=(69,s69)::Un
def xh:dH:=⟨[tC],[(false,[(.bool,none)])],none⟩
def Up:List (Nat×dH):=(68,xh)::Yv
def s38:dH:=⟨[tC,uR],[(false,[(.int .i64,none)])],none⟩
def adM:List (Nat×dH):=(38,s38)::Up
def s12:dH:=⟨[tC],[(true,pl [I6,I6,I6,I6,I6,I6,I6] ++[(I6,some (11,3)),(I6,some (12,3))])],none⟩
def s57:dH:=⟨[.int .i64,.int .i64,.int .i64],[(false,[(.bool,none)])],none⟩
def Rm:List (Nat×dH):=[(12,s12),(38,s38),(68,xh),(69,s69),(76,s76),(32,s32),(29,s29),(49,s49),(65,s65),(74,qE),(50,s50),(25,s25),(28,s28),(26,s26),(24,s24),(59,Mh),(80,Mg),(60,s60),(52,s52),(20,s20),(70,gx),(72,TU),(66,s66),(63,s63),(36,s36),(21,s21),(55,s55),(61,s61),(56,s56),(79,W5)]
def YB:List (Nat×dH):=(57,s57)::Rm
def cP:dH:=⟨[.int .i64,.int .i64,.list (dV)],[(false,[(.bool,none)])],none⟩
def YA:List (Nat×dH):=(58,cP)::YB
def s23:dH:=⟨[.int .i64,.int .i64,.list dV,.int .i64,.int .i64,.list dV],[(false,[(.int .i64,none)]),(false,[(.bool,none)])],some ⟨[true,false,false,false],[jd],[jd],false⟩⟩
def YT:List (Nat×dH):=(23,s23)::YA
def s71:dH:=⟨[.int .i64,uR,.int .i64,.int .i64,.list dV],[(true,dV.cells.map fun c=>(c,none)),(false,[(.int .i64,none)])],some ⟨[true,false,false],[jd],[jd],false⟩⟩
def Yt:List (Nat×dH):=(71,s71)::YT
def s51:dH:=⟨[.int .i64,.int .i64,.int .i64,.list dV],[(false,[(.int .i64,none)])],some ⟨[true,false],[jd],[jd],false⟩⟩
def YG:List (Nat×dH):=(51,s51)::Yt
def snw:dH:=⟨[.int .i64,.int .i64],[],some ⟨[false,false],[],[jd],true⟩⟩
def snl:dH:=⟨[I6,I6],[(false,[(.ptr (.V [I6,I6,.list dV]),none)])],none⟩
def YW:dH:=⟨[.int .i64,.int .i64,.int .i64,.int .i64,.list dV],[(false,[(.list dV,none)])],some ⟨[true,false,false],[jd],[jd],false⟩⟩
def Rl:List (Nat×dH):=(65,YW)::YG
def s53:dH:=⟨[] ++eR,[],some (dC 0)⟩
def YE:List (Nat×dH):=(53,s53)::Rl
def s35:dH:=⟨[] ++eR,[],some (dC 0)⟩
def YM:List (Nat×dH):=(35,s35)::YE
def s64:dH:=⟨[hH] ++eR,[],some (dC 1)⟩
def Us:List (Nat×dH):=(64,s64)::YM
def s41:dH:=⟨[I6,I6] ++eR,[],some (dC 2)⟩
def YK:List (Nat×dH):=(41,s41)::Us
def s34:dH:=⟨[] ++eR,[(true,pl [.bool,I6,I6,.list dV,.ptr (.V ks),.list hH,.list dV,.list ue])],some (dC 0)⟩
def UC:List (Nat×dH):=(34,s34)::YK
def s39:dH:=⟨[uR] ++eR,[(true,pl dV.cells),(false,[(.int .i64,none)])],some (dC 1)⟩
def UA:List (Nat×dH):=(39,s39)::UC
def s33:dH:=⟨[I6] ++eR,[],some (dC 1)⟩
def YN:List (Nat×dH):=(33,s33)::UA
def D1:dH:=⟨[dV],[(false,[(.bool,none)])],none⟩
def Ym:List (Nat×dH):=(84,D1)::YN
def Rs:dH:=⟨[.list dV,.fn 84 .nil],[(false,[(.int .i64,none)])],none⟩
def Ny:List (Nat×dH):=(80,Rs)::Ym
def Rt:dH:=⟨[.list dV,.fn 84 .nil],[(false,[(.bool,none)])],none⟩
def Gt:List (Nat×dH):=(59,Rt)::Ny
def s73:dH:=⟨[I6] ++eR,[(false,[(.bool,none)])],some (dC 1)⟩
def Uo:List (Nat×dH):=(73,s73)::Gt
def s40:dH:=⟨[] ++eR,[],some (dC 0)⟩
def Uz:List (Nat×dH):=(40,s40)::Uo
def kj:dH:=⟨[] ++eR,[],some (dC 0)⟩
def Uq:List (Nat×dH):=(67,kj)::Uz
def s37:dH:=⟨[mL] ++eR,[],some (dC 1)⟩
def UB:List (Nat×dH):=(37,s37)::Uq
def s42:dH:=⟨[hH] ++eR,[],some (dC 1)⟩
def Uy:List (Nat×dH):=(42,s42)::UB
def s43:dH:=⟨[hH] ++eR,[],some (dC 1)⟩
def Ux:List (Nat×dH):=(43,s43)::Uy
def s44:dH:=⟨[hH] ++eR,[],some (dC 1)⟩
def Uw:List (Nat×dH):=(44,s44)::Ux
def Q3:dH:=⟨[hH] ++eR,[(false,[(.bool,none)])],some (dC 1)⟩
def Yq:List (Nat×dH):=(75,Q3)::Uw
def YX:dH:=⟨[.int .i64,.int .i64,.int .i64,.int .i64,.list dV],[(false,[(dV,some (1,78))])],some ⟨[true,false,false],[jd],[jd],false⟩⟩
def Md:List (Nat×dH):=(65,YX)::Yq
def s45:dH:=⟨[hH] ++eR,[],some (dC 1)⟩
def Uv:List (Nat×dH):=(45,s45)::Md
def np:dH:=⟨[hH] ++eR,[],some (dC 1)⟩
def Um:List (Nat×dH):=(77,np)::Uv
def W6:dH:=⟨[I6,I6] ++eR,[],some (dC 2)⟩
def Ul:List (Nat×dH):=(78,W6)::Um
def s46:dH:=⟨[hH] ++eR,[],some (dC 1)⟩
def Uu:List (Nat×dH):=(46,s46)::Ul
def s48:dH:=⟨[hH] ++eR,[],some (dC 1)⟩
def YJ:List (Nat×dH):=(48,s48)::Uu
def s27:dH:=⟨[Rp],[(true,pl [I6,I6] ++[(I6,some (11,3)),(I6,some (12,3)),(.int .u8,some (13,5))])],none⟩
def UE:List (Nat×dH):=(27,s27)::YJ
def s47:dH:=⟨[hH] ++eR,[],some {dC 1 with fresh:=true}⟩
def adP:dH:=⟨[.int .i64,.int .i64],[],some ⟨[false,false],[],[jd],true⟩⟩
def Jd:List (Nat×zq):=[(22,⟨[],I6,0,I6,0,some (adP,.ptr (.V [I6,I6,.list dV]))⟩)]
def Ut:List (Nat×dH):=(47,s47)::UE
def s17:dH:=⟨[hH] ++eR,[(true,pl [.bool,I6,I6,.list dV,.ptr (.V ks),.list hH,.list dV,.list ue])],some {dC 1 with fresh:=true}⟩
def UF:List (Nat×dH):=(17,s17)::Ut
def s15:dH:=⟨[I6] ++eR,[(true,pl [.bool,I6,I6,.list dV,.ptr (.V ks),.list hH,.list dV,.list ue])],some (dC 1)⟩
def UG:List (Nat×dH):=(15,s15)::UF
def s16:dH:=⟨[uR] ++eR,[(true,pl dV.cells),(false,[(.int .i64,none)]),(true,pl [.bool,I6,I6,.list dV,.ptr (.V ks),.list hH,.list dV,.list ue])],some (dC 1)⟩
def s18:dH:=⟨[I6,.list (.int .u8)] ++eR,[(false,[(.int .i64,none)]),(true,pl [.bool,I6,I6,.list dV,.ptr (.V ks),.list hH,.list dV,.list ue])],some (dC 2)⟩
def s81:dH:=⟨[.list (.int .i64),.list (.int .i64)],[(false,[(.bool,none)])],none⟩
def s62:dH:=⟨[mL,mL],[(false,[(.bool,none)])],none⟩
def s31:dH:=⟨[uR,uR],[(false,[(.bool,none)])],none⟩
def s8:dH:=⟨[.int .i64,.int .i64],[(false,[(.int .i64,none)])],none⟩
noncomputable section
def XI:VC:=
 .loop 6 [.aR .i64 (0),.aR .i64 (0)] [.int .i64,.int .i64] (
  .branch (.bin (.lt) (.var 7) (.un (.len) (.var 0))) (
   .kq [] (.bin (.and) (.bin (.le) (.aR .i64 (0)) (.var 7)) (.bin (.lt) (.var 7) (.un (.len) (.var 0))))<|
   .branch (.bin (.eq) (.var 1) (.bin (.idx) (.var 0) (.var 7))) (
    .ret (.var 7))
    (
    .again 0 [.var 6,.bin (.add .i64) (.var 7) (.aR .i64 (1))]))
   (
   .ret (.aR .i64 (-1))))
def XW:VC:=
 .call 5 79 (.cons (.var 0) (.cons (.var 1) (.nil))) [] <|
 .ret (.bin (.ge) (.var 5) (.aR .i64 (0)))
def XX:VC:=
 .loop 5 [.eO false,.aR .i64 (0)] [.bool,.int .i64] (
  .branch (.bin (.lt) (.var 6) (.un (.len) (.var 0))) (
   .kq [] (.bin (.and) (.bin (.le) (.aR .i64 (0)) (.var 6)) (.bin (.lt) (.var 6) (.un (.len) (.var 0))))<|
   .kq [(.bin (.lt) (.bin (.idx) (.var 0) (.var 6)) (.aR .i64 (1)),false)] (.bin (.and) (.bin (.le) (.aR .i64 (0)) (.var 6)) (.bin (.lt) (.var 6) (.un (.len) (.var 0))))<|
   .kq [(.bin (.gt) (.var 6) (.aR .i64 (0)),true),(.bin (.or) (.bin (.lt) (.bin (.idx) (.var 0) (.var 6)) (.aR .i64 (1))) (.bin (.gt) (.bin (.idx) (.var 0) (.var 6)) (.aR .i64 (5))),false)] (.bin (.and) (.bin (.le) (.aR .i64 (0)) (.bin (.sub .i64) (.var 6) (.aR .i64 (1)))) (.bin (.lt) (.bin (.sub .i64) (.var 6) (.aR .i64 (1))) (.un (.len) (.var 0))))<|
   .kq [(.bin (.gt) (.var 6) (.aR .i64 (0)),true),(.bin (.or) (.bin (.lt) (.bin (.idx) (.var 0) (.var 6)) (.aR .i64 (1))) (.bin (.gt) (.bin (.idx) (.var 0) (.var 6)) (.aR .i64 (5))),false)] (.bin (.and) (.bin (.le) (.aR .i64 (0)) (.var 6)) (.bin (.lt) (.var 6) (.un (.len) (.var 0))))<|
   .branch (.bin (.or) (.bin (.or) (.bin (.lt) (.bin (.idx) (.var 0) (.var 6)) (.aR .i64 (1))) (.bin (.gt) (.bin (.idx) (.var 0) (.var 6)) (.aR .i64 (5)))) (.bin (.and) (.bin (.gt) (.var 6) (.aR .i64 (0))) (.bin (.ge) (.bin (.idx) (.var 0) (.bin (.sub .i64) (.var 6) (.aR .i64 (1)))) (.bin (.idx) (.var 0) (.var 6))))) (
    .ret (.eO false))
    (
    .again 0 [.var 5,.bin (.add .i64) (.var 6) (.aR .i64 (1))]))
   (
   .ret (.eO true)))
def Yj:VC:=
 .call 5 55 (.cons (.un (.cell 0) (.var 0)) (.nil)) [] <|
 .call 10 55 (.cons (.un (.cell 1) (.var 0)) (.nil)) [(.un (.not) (.var 5),false)] <|
 .branch (.bin (.or) (.bin (.or) (.un (.not) (.var 5)) (.un (.not) (.var 10))) (.bin (.eq) (.un (.len) (.un (.cell 0) (.var 0))) (.aR .i64 (0)))) (
  .ret (.eO false))
  (
  .loop 23 [.eO false,.aR .i64 (0)] [.bool,.int .i64] (
   .branch (.bin (.lt) (.var 24) (.un (.len) (.un (.cell 1) (.var 0)))) (
    .kq [] (.bin (.and) (.bin (.le) (.aR .i64 (0)) (.var 24)) (.bin (.lt) (.var 24) (.un (.len) (.un (.cell 1) (.var 0)))))<|
    .call 35 56 (.cons (.un (.cell 0) (.var 0)) (.cons (.bin (.idx) (.un (.cell 1) (.var 0)) (.var 24)) (.nil))) [] <|
    .branch (.var 35) (
     .ret (.eO false))
     (
     .again 0 [.var 23,.bin (.add .i64) (.var 24) (.aR .i64 (1))]))
    (
    .ret (.eO true))))
def Yc:VC:=
 .call 7 56 (.cons (.un (.cell 0) (.var 0)) (.cons (.var 1) (.nil))) [] <|
 .ret (.var 7)
def XS:VC:=
 .call 5 61 (.cons (.un (.cell 0) (.var 0)) (.nil)) [] <|
 .room [] (.bin (.cat) (.var 5) (.un (.cell 1) (.var 0))) 8<|
 .call 11 82 (.cons (.bin (.cat) (.var 5) (.un (.cell 1) (.var 0))) (.nil)) [] <|
 .call 13 83 (.cons (.var 11) (.nil)) [] <|
 .ret (.var 13)
def XQ:VC:=
 .loop 9 [.aR .i64 (0),.aR .i64 (0)] [.int .i64,.int .i64] (
  .branch (.bin (.lt) (.var 10) (.un (.len) (.un (.cell 0) (.var 0)))) (
   .kq [] (.bin (.and) (.bin (.le) (.aR .i64 (0)) (.var 10)) (.bin (.lt) (.var 10) (.un (.len) (.un (.cell 0) (.var 0)))))<|
   .call 20 56 (.cons (.var 1) (.cons (.bin (.idx) (.un (.cell 0) (.var 0)) (.var 10)) (.nil))) [] <|
   .branch (.var 20) (
    .again 0 [.bin (.add .i64) (.var 9) (.aR .i64 (1)),.bin (.add .i64) (.var 10) (.aR .i64 (1))])
    (
    .again 0 [.var 9,.bin (.add .i64) (.var 10) (.aR .i64 (1))]))
   (
   .ret (.bin (.gt) (.bin (.mul .i64) (.aR .i64 (2)) (.var 9)) (.un (.len) (.un (.cell 0) (.var 0))))))
def XN:VC:=
 .loop 9 [.nil,.aR .i64 (0)] [.list (.int .i64),.int .i64] (
  .branch (.bin (.lt) (.var 10) (.un (.len) (.un (.cell 0) (.var 0)))) (
   .kq [] (.bin (.and) (.bin (.le) (.aR .i64 (0)) (.var 10)) (.bin (.lt) (.var 10) (.un (.len) (.un (.cell 0) (.var 0)))))<|
   .branch (.bin (.and) (.bin (.ge) (.bin (.idx) (.un (.cell 0) (.var 0)) (.var 10)) (.aR .i64 (1))) (.bin (.le) (.bin (.idx) (.un (.cell 0) (.var 0)) (.var 10)) (.un (.len) (.var 1)))) (
    .kq [] (.bin (.and) (.bin (.le) (.aR .i64 (0)) (.bin (.sub .i64) (.bin (.idx) (.un (.cell 0) (.var 0)) (.var 10)) (.aR .i64 (1)))) (.bin (.lt) (.bin (.sub .i64) (.bin (.idx) (.un (.cell 0) (.var 0)) (.var 10)) (.aR .i64 (1))) (.un (.len) (.var 1))))<|
    .room [] (.bin (.cat) (.var 9) (.cons (.bin (.max .i64) (.aR .i64 (0)) (.bin (.idx) (.var 1) (.bin (.sub .i64) (.bin (.idx) (.un (.cell 0) (.var 0)) (.var 10)) (.aR .i64 (1))))) (.nil))) 8<|
    .again 0 [.bin (.cat) (.var 9) (.cons (.bin (.max .i64) (.aR .i64 (0)) (.bin (.idx) (.var 1) (.bin (.sub .i64) (.bin (.idx) (.un (.cell 0) (.var 0)) (.var 10)) (.aR .i64 (1))))) (.nil)),.bin (.add .i64) (.var 10) (.aR .i64 (1))])
    (
    .room [] (.bin (.cat) (.var 9) (.cons (.aR .i64 (0)) (.nil))) 8<|
    .again 0 [.bin (.cat) (.var 9) (.cons (.aR .i64 (0)) (.nil)),.bin (.add .i64) (.var 10) (.aR .i64 (1))]))
   (
   .branch (.bin (.eq) (.un (.len) (.var 9)) (.aR .i64 (0))) (
    .ret (.aR .i64 (0)))
    (
    .call 16 82 (.cons (.var 9) (.nil)) [] <|
    .kq [] (.bin (.ne) (.aR .i64 (2)) (.aR .i64 (0)))<|
    .kq [] (.bin (.and) (.bin (.le) (.aR .i64 (0)) (.bin (.quo .i64) (.bin (.sub .i64) (.un (.len) (.var 16)) (.aR .i64 (1))) (.aR .i64 (2)))) (.bin (.lt) (.bin (.quo .i64) (.bin (.sub .i64) (.un (.len) (.var 16)) (.aR .i64 (1))) (.aR .i64 (2))) (.un (.len) (.var 16))))<|
    .ret (.bin (.idx) (.var 16) (.bin (.quo .i64) (.bin (.sub .i64) (.un (.len) (.var 16)) (.aR .i64 (1))) (.aR .i64 (2)))))))
def XP:VC:=
 .call 6 21 (.cons (.un (.agg) (.cons (.un (.cell 0) (.var 0)) (.cons (.un (.cell 1) (.var 0)) (.nil)))) (.nil)) [] <|
 .call 10 21 (.cons (.un (.agg) (.cons (.un (.cell 0) (.var 1)) (.cons (.un (.cell 1) (.var 1)) (.nil)))) (.nil)) [(.un (.not) (.var 6),false)] <|
 .branch (.bin (.or) (.un (.not) (.var 6)) (.un (.not) (.var 10))) (
  .ret (.eO false))
  (
  .loop 15 [.aR .i64 (0),.aR .i64 (0)] [.int .i64,.int .i64] (
   .branch (.bin (.lt) (.var 16) (.aR .i64 (6))) (
    .call 22 36 (.cons (.un (.agg) (.cons (.un (.cell 0) (.var 0)) (.cons (.un (.cell 1) (.var 0)) (.nil)))) (.cons (.var 16) (.nil))) [] <|
    .call 25 36 (.cons (.un (.agg) (.cons (.un (.cell 0) (.var 1)) (.cons (.un (.cell 1) (.var 1)) (.nil)))) (.cons (.var 16) (.nil))) [] <|
    .branch (.un (.not) (.bin (.beq) (.var 22) (.var 25))) (
     .again 0 [.bin (.add .i64) (.var 15) (.aR .i64 (1)),.bin (.add .i64) (.var 16) (.aR .i64 (1))])
     (
     .again 0 [.var 15,.bin (.add .i64) (.var 16) (.aR .i64 (1))]))
    (
    .ret (.bin (.le) (.var 15) (.aR .i64 (1))))))
def Yk:VC:=
 .ret (.bin (.and) (.bin (.ge) (.var 0) (.var 1)) (.bin (.le) (.var 0) (.var 2)))
def XY:VC:=
 .branch (.bin (.eq) (.un (.len) (.var 0)) (.aR .i64 (0))) (
  .any 3 (.bool)<|
  .branch (.var 3) (
   .ret (.nil))
   (
   .room [] (.bin (.cat) (.nil) (.var 0)) 1<|
   .ret (.bin (.cat) (.nil) (.var 0))))
  (
  .any 3 (.bool)<|
  .room [] (.bin (.cat) (.nil) (.var 0)) 1<|
  .ret (.bin (.cat) (.nil) (.var 0)))
def adB:VC:=
 .call 11 21 (.cons (.un (.agg) (.cons (.un (.cell 27) (.var 0)) (.cons (.un (.cell 28) (.var 0)) (.nil)))) (.nil)) [(.bin (.eq) (.un (.cell 2) (.var 0)) (.aR .i64 (2)),true)] <|
 .ret (.bin (.and) (.bin (.eq) (.un (.cell 2) (.var 0)) (.aR .i64 (2))) (.un (.not) (.var 11)))
def Nu:VC:=
 .loop 6 [.aR .i64 (0),.aR .i64 (0)] [.int .i64,.int .i64] (
  .branch (.bin (.lt) (.var 7) (.un (.len) (.var 0))) (
   .kq [] (.bin (.and) (.bin (.le) (.aR .i64 (0)) (.var 7)) (.bin (.lt) (.var 7) (.un (.len) (.var 0))))<|
   .call 16 60 (.cons (.bin (.idx) (.var 0) (.var 7)) (.nil)) [] <|
   .branch (.var 16) (
    .ret (.var 7))
    (
    .again 0 [.var 6,.bin (.add .i64) (.var 7) (.aR .i64 (1))]))
   (
   .ret (.aR .i64 (-1))))
def Nw:VC:=
 .call 5 80 (.cons (.var 0) (.cons (.var 1) (.nil))) [] <|
 .ret (.bin (.ge) (.var 5) (.aR .i64 (0)))
def Yh:VC:=
 .call 3 59 (.cons (.var 0) (.cons (.un (.fnc 60) (.nil)) (.nil))) [] <|
 .ret (.un (.not) (.var 3))
def Yf:VC:=
 .call 5 61 (.cons (.un (.cell 0) (.var 0)) (.nil)) [] <|
 .call 8 61 (.cons (.un (.cell 1) (.var 0)) (.nil)) [] <|
 .ret (.un (.agg) (.cons (.var 5) (.cons (.var 8) (.nil))))
def Ye:VC:=
 .ret (.un (.eS) (.cons (.un (.cell 0) (.un (.agg) (.var 0))) (.cons (.un (.cell 1) (.un (.agg) (.var 0))) (.nil))))
def Yg:VC:=
 .branch (.bin (.eq) (.un (.len) (.un (.cell 2) (.un (.agg) (.var 0)))) (.aR .i64 (0))) (
  .call 10 28 (.cons (.var 0) (.nil)) [] <|
  .ret (.un (.eS) (.cons (.un (.cell 0) (.var 10)) (.cons (.un (.cell 1) (.var 10)) (.nil)))))
  (
  .kq [] (.bin (.and) (.bin (.le) (.aR .i64 (0)) (.bin (.sub .i64) (.un (.len) (.un (.cell 2) (.un (.agg) (.var 0)))) (.aR .i64 (1)))) (.bin (.lt) (.bin (.sub .i64) (.un (.len) (.un (.cell 2) (.un (.agg) (.var 0)))) (.aR .i64 (1))) (.un (.len) (.un (.cell 2) (.un (.agg) (.var 0))))))<|
  .ret (.un (.eS) (.cons (.un (.cell 0) (.bin (.idx) (.un (.cell 2) (.un (.agg) (.var 0))) (.bin (.sub .i64) (.un (.len) (.un (.cell 2) (.un (.agg) (.var 0)))) (.aR .i64 (1))))) (.cons (.un (.cell 1) (.bin (.idx) (.un (.cell 2) (.un (.agg) (.var 0))) (.bin (.sub .i64) (.un (.len) (.un (.cell 2) (.un (.agg) (.var 0)))) (.aR .i64 (1))))) (.nil)))))
def X1:VC:=
 .branch (.bin (.lt) (.var 1) (.un (.cell 0) (.un (.agg) (.var 0)))) (
  .ret (.un (.eS) (.cons (.aR .i64 (0)) (.cons (.aR .i64 (23)) (.nil)))))
  (
  .branch (.bin (.eq) (.var 1) (.un (.cell 0) (.un (.agg) (.var 0)))) (
   .ret (.un (.eS) (.cons (.un (.cell 1) (.un (.agg) (.var 0))) (.cons (.aR .i64 (0)) (.nil)))))
   (
   .branch (.bin (.gt) (.bin (.sub .i64) (.var 1) (.un (.cell 0) (.un (.agg) (.var 0)))) (.un (.len) (.un (.cell 2) (.un (.agg) (.var 0))))) (
    .ret (.un (.eS) (.cons (.aR .i64 (0)) (.cons (.aR .i64 (3)) (.nil)))))
    (
    .kq [] (.bin (.and) (.bin (.le) (.aR .i64 (0)) (.bin (.sub .i64) (.bin (.sub .i64) (.var 1) (.un (.cell 0) (.un (.agg) (.var 0)))) (.aR .i64 (1)))) (.bin (.lt) (.bin (.sub .i64) (.bin (.sub .i64) (.var 1) (.un (.cell 0) (.un (.agg) (.var 0)))) (.aR .i64 (1))) (.un (.len) (.un (.cell 2) (.un (.agg) (.var 0))))))<|
    .ret (.un (.eS) (.cons (.un (.cell 1) (.bin (.idx) (.un (.cell 2) (.un (.agg) (.var 0))) (.bin (.sub .i64) (.bin (.sub .i64) (.var 1) (.un (.cell 0) (.un (.agg) (.var 0)))) (.aR .i64 (1))))) (.cons (.aR .i64 (0)) (.nil)))))))
def XL:VC:=
 .call 5 25 (.cons (.var 0) (.nil)) [] <|
 .ret (.bin (.or) (.bin (.gt) (.var 2) (.un (.cell 1) (.var 5))) (.bin (.and) (.bin (.eq) (.var 2) (.un (.cell 1) (.var 5))) (.bin (.ge) (.var 1) (.un (.cell 0) (.var 5)))))
def XR:VC:=
 .branch (.bin (.or) (.bin (.or) (.bin (.lt) (.var 2) (.aR .i64 (1))) (.bin (.le) (.var 1) (.un (.cell 0) (.un (.agg) (.var 0))))) (.bin (.ge) (.bin (.sub .i64) (.bin (.sub .i64) (.var 1) (.un (.cell 0) (.un (.agg) (.var 0)))) (.aR .i64 (1))) (.un (.len) (.un (.cell 2) (.un (.agg) (.var 0)))))) (
  .ret (.nil))
  (
  .branch (.bin (.lt) (.var 2) (.bin (.sub .i64) (.un (.len) (.un (.cell 2) (.un (.agg) (.var 0)))) (.bin (.sub .i64) (.bin (.sub .i64) (.var 1) (.un (.cell 0) (.un (.agg) (.var 0)))) (.aR .i64 (1))))) (
   .kq [] (.bin (.and) (.bin (.le) (.aR .i64 (0)) (.bin (.sub .i64) (.bin (.sub .i64) (.var 1) (.un (.cell 0) (.un (.agg) (.var 0)))) (.aR .i64 (1)))) (.bin (.and) (.bin (.le) (.bin (.sub .i64) (.bin (.sub .i64) (.var 1) (.un (.cell 0) (.un (.agg) (.var 0)))) (.aR .i64 (1))) (.bin (.add .i64) (.bin (.sub .i64) (.bin (.sub .i64) (.var 1) (.un (.cell 0) (.un (.agg) (.var 0)))) (.aR .i64 (1))) (.var 2))) (.bin (.le) (.bin (.add .i64) (.bin (.sub .i64) (.bin (.sub .i64) (.var 1) (.un (.cell 0) (.un (.agg) (.var 0)))) (.aR .i64 (1))) (.var 2)) (.un (.len) (.un (.cell 2) (.un (.agg) (.var 0)))))))<|
   .room [] (.bin (.cat) (.nil) (.bin (.drop) (.bin (.take) (.un (.cell 2) (.un (.agg) (.var 0))) (.bin (.add .i64) (.bin (.sub .i64) (.bin (.sub .i64) (.var 1) (.un (.cell 0) (.un (.agg) (.var 0)))) (.aR .i64 (1))) (.var 2))) (.bin (.sub .i64) (.bin (.sub .i64) (.var 1) (.un (.cell 0) (.un (.agg) (.var 0)))) (.aR .i64 (1))))) 320<|
   .ret (.bin (.cat) (.nil) (.bin (.drop) (.bin (.take) (.un (.cell 2) (.un (.agg) (.var 0))) (.bin (.add .i64) (.bin (.sub .i64) (.bin (.sub .i64) (.var 1) (.un (.cell 0) (.un (.agg) (.var 0)))) (.aR .i64 (1))) (.var 2))) (.bin (.sub .i64) (.bin (.sub .i64) (.var 1) (.un (.cell 0) (.un (.agg) (.var 0)))) (.aR .i64 (1))))))
   (
   .kq [] (.bin (.and) (.bin (.le) (.aR .i64 (0)) (.bin (.sub .i64) (.bin (.sub .i64) (.var 1) (.un (.cell 0) (.un (.agg) (.var 0)))) (.aR .i64 (1)))) (.bin (.and) (.bin (.le) (.bin (.sub .i64) (.bin (.sub .i64) (.var 1) (.un (.cell 0) (.un (.agg) (.var 0)))) (.aR .i64 (1))) (.un (.len) (.un (.cell 2) (.un (.agg) (.var 0))))) (.bin (.le) (.un (.len) (.un (.cell 2) (.un (.agg) (.var 0)))) (.un (.len) (.un (.cell 2) (.un (.agg) (.var 0)))))))<|
   .room [] (.bin (.cat) (.nil) (.bin (.drop) (.bin (.take) (.un (.cell 2) (.un (.agg) (.var 0))) (.un (.len) (.un (.cell 2) (.un (.agg) (.var 0))))) (.bin (.sub .i64) (.bin (.sub .i64) (.var 1) (.un (.cell 0) (.un (.agg) (.var 0)))) (.aR .i64 (1))))) 320<|
   .ret (.bin (.cat) (.nil) (.bin (.drop) (.bin (.take) (.un (.cell 2) (.un (.agg) (.var 0))) (.un (.len) (.un (.cell 2) (.un (.agg) (.var 0))))) (.bin (.sub .i64) (.bin (.sub .i64) (.var 1) (.un (.cell 0) (.un (.agg) (.var 0)))) (.aR .i64 (1)))))))
def Ug:VC:=J8 Try.prog Ur [] s49 Try.f49
def adG:VC:=
 .call 6 25 (.cons (.un (.cell 13) (.un (.agg) (.var 0))) (.nil)) [] <|
 .call 14 49 (.cons (.var 0) (.cons (.un (.cell 0) (.var 6)) (.nil))) [] <|
 .ret (.un (.agg) (.cons (.un (.cell 0) (.var 14)) (.cons (.un (.cell 1) (.var 14)) (.nil))))
def Uj:VC:=J8 Try.prog UD [] s32 Try.f32
def ady:VC:=
 .call 4 29 (.cons (.var 0) (.nil)) [] <|
 .call 5 63 (.cons (.un (.agg) (.cons (.un (.cell 0) (.var 4)) (.cons (.un (.cell 1) (.var 4)) (.nil)))) (.nil)) [] <|
 .call 7 56 (.cons (.var 5) (.cons (.var 1) (.nil))) [] <|
 .ret (.var 7)
def Uf:VC:=J8 Try.prog Un [] s69 Try.f69
def adz:VC:=
 .call 10 50 (.cons (.un (.cell 13) (.un (.agg) (.var 0))) (.cons (.un (.cell 19) (.un (.agg) (.var 0))) (.nil))) [] <|
 .ret (.bin (.and) (.bin (.eq) (.un (.cell 1) (.var 10)) (.aR .i64 (0))) (.bin (.eq) (.un (.cell 0) (.var 10)) (.un (.cell 11) (.un (.agg) (.var 0)))))
def Yb:VC:=J8 Try.prog Up [] s38 Try.f38
def adI:VC:=
 .call 6 28 (.cons (.un (.cell 13) (.un (.agg) (.var 0))) (.nil)) [] <|
 .call 16 25 (.cons (.un (.cell 13) (.un (.agg) (.var 0))) (.nil)) [] <|
 .call 41 29 (.cons (.var 0) (.nil)) [] <|
 .ret (.un (.agg) (.V (fl [[.un (.cell 20) (.un (.agg) (.var 0))],[.un (.cell 21) (.un (.agg) (.var 0))],[.un (.cell 0) (.un (.part 11 2) (.un (.agg) (.var 0)))],[.un (.cell 1) (.un (.part 11 2) (.un (.agg) (.var 0)))],[.un (.cell 19) (.un (.agg) (.var 0))],[.un (.cell 0) (.var 16)],[.un (.cell 0) (.var 6)],[.un (.cell 0) (.var 41)],[.un (.cell 1) (.var 41)]])))
def XV:VC:=
 .ret (.bin (.and) (.bin (.ge) (.var 0) (.var 1)) (.bin (.le) (.var 0) (.var 2)))
def XU:VC:=
 .call 5 57 (.cons (.var 0) (.cons (.aR .i64 (0)) (.cons (.aR .i64 (1099511627776)) (.nil)))) [] <|
 .call 9 57 (.cons (.var 1) (.cons (.aR .i64 (0)) (.cons (.aR .i64 (1099511627776)) (.nil)))) [(.un (.not) (.var 5),false)] <|
 .branch (.bin (.or) (.un (.not) (.var 5)) (.un (.not) (.var 9))) (
  .ret (.eO false))
  (
  .loop 15 [.eO false,.var 0,.var 1,.aR .i64 (0)] [.bool,.int .i64,.int .i64,.int .i64] (
   .branch (.bin (.lt) (.var 18) (.un (.len) (.var 2))) (
    .kq [] (.bin (.and) (.bin (.le) (.aR .i64 (0)) (.var 18)) (.bin (.lt) (.var 18) (.un (.len) (.var 2))))<|
    .call 42 57 (.cons (.un (.cell 0) (.bin (.idx) (.var 2) (.var 18))) (.cons (.aR .i64 (1)) (.cons (.aR .i64 (1099511627776)) (.nil)))) [(.bin (.or) (.bin (.ne) (.bin (.sub .i64) (.un (.cell 0) (.bin (.idx) (.var 2) (.var 18))) (.aR .i64 (1))) (.var 16)) (.bin (.lt) (.un (.cell 1) (.bin (.idx) (.var 2) (.var 18))) (.var 17)),false)] <|
    .call 48 57 (.cons (.un (.cell 1) (.bin (.idx) (.var 2) (.var 18))) (.cons (.aR .i64 (0)) (.cons (.aR .i64 (1099511627776)) (.nil)))) [(.bin (.or) (.bin (.or) (.bin (.ne) (.bin (.sub .i64) (.un (.cell 0) (.bin (.idx) (.var 2) (.var 18))) (.aR .i64 (1))) (.var 16)) (.bin (.lt) (.un (.cell 1) (.bin (.idx) (.var 2) (.var 18))) (.var 17))) (.un (.not) (.var 42)),false)] <|
    .branch (.bin (.or) (.bin (.or) (.bin (.or) (.bin (.ne) (.bin (.sub .i64) (.un (.cell 0) (.bin (.idx) (.var 2) (.var 18))) (.aR .i64 (1))) (.var 16)) (.bin (.lt) (.un (.cell 1) (.bin (.idx) (.var 2) (.var 18))) (.var 17))) (.un (.not) (.var 42))) (.un (.not) (.var 48))) (
     .ret (.eO false))
     (
     .again 0 [.var 15,.un (.cell 0) (.bin (.idx) (.var 2) (.var 18)),.un (.cell 1) (.bin (.idx) (.var 2) (.var 18)),.bin (.add .i64) (.var 18) (.aR .i64 (1))]))
    (
    .ret (.eO true))))
def Yi:VC:=
 .call 11 58 (.cons (.var 0) (.cons (.var 1) (.cons (.var 2) (.nil)))) [] <|
 .branch (.un (.not) (.var 11)) (
  .ret (.un (.eS) (.cons (.un (.eS) (.cons (.aR .i64 (0)) (.cons (.eO false) (.nil)))) (.cons (.un (.agg) (.cons (.var 3) (.cons (.var 4) (.cons (.var 5) (.nil))))) (.nil)))))
  (
  .call 15 50 (.cons (.un (.pP) (.cons (.var 3) (.cons (.var 4) (.cons (.var 5) (.nil))))) (.cons (.var 0) (.nil))) [] <|
  .branch (.bin (.or) (.bin (.ne) (.un (.cell 1) (.var 15)) (.aR .i64 (0))) (.bin (.ne) (.un (.cell 0) (.var 15)) (.var 1))) (
   .ret (.un (.eS) (.cons (.un (.eS) (.cons (.aR .i64 (0)) (.cons (.eO false) (.nil)))) (.cons (.un (.agg) (.cons (.var 3) (.cons (.var 4) (.cons (.var 5) (.nil))))) (.nil)))))
   (
   .loop 31 (fl [[.aR .i64 (0)],[.eO false],[.aR .i64 (0)],vr 3 3]) [.int .i64,.bool,.int .i64,.int .i64,.int .i64,.list (.agg (.cons (.int .i64) (.cons (.int .i64) (.cons (.int .i64) (.cons (.int .i64) (.cons (.int .i64) (.cons (.int .i64) (.cons (.int .i64) (.cons (.int .i64) (.cons (.int .i64) (.cons (.list (.agg (.cons (.int .i64) (.cons (.int .i64) (.cons (.int .i64) (.nil)))))) (.cons (.int .i64) (.cons (.bool) (.cons (.int .i64) (.cons (.int .i64) (.cons (.int .i64) (.cons (.bool) (.cons (.bool) (.cons (.int .i64) (.cons (.int .i64) (.cons (.int .i64) (.cons (.list (.agg (.cons (.int .i64) (.cons (.int .i64) (.nil))))) (.cons (.int .i64) (.cons (.int .i64) (.cons (.int .i64) (.cons (.list (.int .i64)) (.cons (.list (.agg (.cons (.int .i64) (.cons (.int .i64) (.cons (.int .i64) (.cons (.int .i64) (.cons (.int .i64) (.cons (.int .i64) (.cons (.int .i64) (.cons (.int .i64) (.cons (.int .i64) (.cons (.bool) (.cons (.int .i64) (.nil)))))))))))))) (.cons (.bool) (.cons (.list (.int .i64)) (.cons (.list (.int .i64)) (.nil)))))))))))))))))))))))))))))))] (
    .branch (.bin (.lt) (.var 33) (.un (.len) (.var 2))) (
     .kq [] (.bin (.and) (.bin (.le) (.aR .i64 (0)) (.var 33)) (.bin (.lt) (.var 33) (.un (.len) (.var 2))))<|
     .call 49 50 (.cons (.un (.pP) (.cons (.var 34) (.cons (.var 35) (.cons (.var 36) (.nil))))) (.cons (.un (.cell 0) (.bin (.idx) (.var 2) (.var 33))) (.nil))) [] <|
     .branch (.bin (.and) (.bin (.eq) (.un (.cell 1) (.var 49)) (.aR .i64 (0))) (.bin (.eq) (.un (.cell 0) (.var 49)) (.un (.cell 1) (.bin (.idx) (.var 2) (.var 33))))) (
      .again 0 (fl [[.var 31],[.var 32],[.bin (.add .i64) (.var 33) (.aR .i64 (1))],vr 34 3]))
      (
      .kq [] (.bin (.and) (.bin (.le) (.aR .i64 (0)) (.bin (.sub .i64) (.bin (.sub .i64) (.un (.cell 0) (.bin (.idx) (.var 2) (.var 33))) (.var 34)) (.aR .i64 (1)))) (.bin (.le) (.bin (.sub .i64) (.bin (.sub .i64) (.un (.cell 0) (.bin (.idx) (.var 2) (.var 33))) (.var 34)) (.aR .i64 (1))) (.un (.len) (.var 36))))<|
      .kq [] (.bin (.and) (.bin (.le) (.aR .i64 (0)) (.var 33)) (.bin (.and) (.bin (.le) (.var 33) (.un (.len) (.var 2))) (.bin (.le) (.un (.len) (.var 2)) (.un (.len) (.var 2)))))<|
      .room [] (.bin (.cat) (.bin (.take) (.var 36) (.bin (.sub .i64) (.bin (.sub .i64) (.un (.cell 0) (.bin (.idx) (.var 2) (.var 33))) (.var 34)) (.aR .i64 (1)))) (.bin (.drop) (.bin (.take) (.var 2) (.un (.len) (.var 2))) (.var 33))) 320<|
      .kq [] (.bin (.lt) (.aR .i64 (0)) (.un (.len) (.bin (.drop) (.bin (.take) (.var 2) (.un (.len) (.var 2))) (.var 33))))<|
      .ret (.un (.eS) (.cons (.un (.eS) (.cons (.un (.cell 0) (.bin (.idx) (.var 2) (.var 33))) (.cons (.eO true) (.nil)))) (.cons (.un (.agg) (.cons (.var 34) (.cons (.var 35) (.cons (.bin (.cat) (.bin (.take) (.var 36) (.bin (.sub .i64) (.bin (.sub .i64) (.un (.cell 0) (.bin (.idx) (.var 2) (.var 33))) (.var 34)) (.aR .i64 (1)))) (.bin (.drop) (.bin (.take) (.var 2) (.un (.len) (.var 2))) (.var 33))) (.nil))))) (.nil))))))
     (
     .ret (.un (.eS) (.cons (.un (.eS) (.cons (.aR .i64 (0)) (.cons (.eO true) (.nil)))) (.cons (.un (.agg) (.cons (.var 34) (.cons (.var 35) (.cons (.var 36) (.nil))))) (.nil))))))))
def XO:VC:=
 .call 9 25 (.cons (.un (.pP) (.cons (.var 2) (.cons (.var 3) (.cons (.var 4) (.nil))))) (.nil)) [] <|
 .call 20 57 (.cons (.var 0) (.cons (.aR .i64 (1)) (.cons (.aR .i64 (1099511627776)) (.nil)))) [(.bin (.lt) (.var 0) (.un (.cell 1) (.var 9)),false)] <|
 .branch (.bin (.or) (.bin (.lt) (.var 0) (.un (.cell 1) (.var 9))) (.un (.not) (.var 20))) (
  .ret (.un (.eS) (.cons (.un (.eS) (.cons (.un (.agg) (.V (fl [rp 9 (.aR .i64 (0)),[.nil],[.aR .i64 (0)],[.eO false],rp 3 (.aR .i64 (0)),rp 2 (.eO false),rp 3 (.aR .i64 (0)),[.nil],rp 3 (.aR .i64 (0)),rp 2 (.nil),[.eO false],rp 2 (.nil)]))) (.cons (.aR .i64 (1)) (.nil)))) (.cons (.un (.agg) (.cons (.var 2) (.cons (.var 3) (.cons (.var 4) (.nil))))) (.nil)))))
  (
  .branch (.bin (.ge) (.un (.cell 0) (.var 9)) (.aR .i64 (1099511627776))) (
   .ret (.un (.eS) (.cons (.un (.eS) (.cons (.un (.agg) (.V (fl [rp 9 (.aR .i64 (0)),[.nil],[.aR .i64 (0)],[.eO false],rp 3 (.aR .i64 (0)),rp 2 (.eO false),rp 3 (.aR .i64 (0)),[.nil],rp 3 (.aR .i64 (0)),rp 2 (.nil),[.eO false],rp 2 (.nil)]))) (.cons (.aR .i64 (2)) (.nil)))) (.cons (.un (.agg) (.cons (.var 2) (.cons (.var 3) (.cons (.var 4) (.nil))))) (.nil)))))
   (
   .room [] (.bin (.cat) (.var 4) (.cons (.un (.agg) (.V (fl [[.bin (.add .i64) (.un (.cell 0) (.var 9)) (.aR .i64 (1))],[.var 0],cr 0 27 (.var 1)]))) (.nil))) 320<|
   .ret (.un (.eS) (.cons (.un (.eS) (.cons (.un (.agg) (.V (fl [[.bin (.add .i64) (.un (.cell 0) (.var 9)) (.aR .i64 (1))],[.var 0],cr 0 27 (.var 1)]))) (.cons (.aR .i64 (0)) (.nil)))) (.cons (.un (.agg) (.cons (.var 2) (.cons (.var 3) (.cons (.bin (.cat) (.var 4) (.cons (.un (.agg) (.V (fl [[.bin (.add .i64) (.un (.cell 0) (.var 9)) (.aR .i64 (1))],[.var 0],cr 0 27 (.var 1)]))) (.nil))) (.nil))))) (.nil))))))
def XZ:VC:=
 .call 6 25 (.cons (.un (.pP) (.cons (.var 1) (.cons (.var 2) (.cons (.var 3) (.nil))))) (.nil)) [] <|
 .branch (.bin (.gt) (.var 0) (.un (.cell 0) (.var 6))) (
  .ret (.un (.eS) (.cons (.aR .i64 (3)) (.cons (.un (.agg) (.cons (.var 1) (.cons (.var 2) (.cons (.var 3) (.nil))))) (.nil)))))
  (
  .branch (.bin (.le) (.var 0) (.var 1)) (
   .ret (.un (.eS) (.cons (.aR .i64 (0)) (.cons (.un (.agg) (.cons (.var 1) (.cons (.var 2) (.cons (.var 3) (.nil))))) (.nil)))))
   (
   .call 25 50 (.cons (.un (.pP) (.cons (.var 1) (.cons (.var 2) (.cons (.var 3) (.nil))))) (.cons (.var 0) (.nil))) [] <|
   .kq [] (.bin (.and) (.bin (.le) (.aR .i64 (0)) (.bin (.sub .i64) (.var 0) (.var 1))) (.bin (.and) (.bin (.le) (.bin (.sub .i64) (.var 0) (.var 1)) (.un (.len) (.var 3))) (.bin (.le) (.un (.len) (.var 3)) (.un (.len) (.var 3)))))<|
   .room [] (.bin (.cat) (.nil) (.bin (.drop) (.bin (.take) (.var 3) (.un (.len) (.var 3))) (.bin (.sub .i64) (.var 0) (.var 1)))) 320<|
   .ret (.un (.eS) (.cons (.aR .i64 (0)) (.cons (.un (.agg) (.cons (.var 0) (.cons (.un (.cell 0) (.var 25)) (.cons (.bin (.cat) (.nil) (.bin (.drop) (.bin (.take) (.var 3) (.un (.len) (.var 3))) (.bin (.sub .i64) (.var 0) (.var 1)))) (.nil))))) (.nil))))))
def XF:VC:=
 .call 4 57 (.cons (.var 0) (.cons (.aR .i64 (0)) (.cons (.aR .i64 (1099511627776)) (.nil)))) [] <|
 .call 8 57 (.cons (.var 1) (.cons (.aR .i64 (0)) (.cons (.aR .i64 (1099511627776)) (.nil)))) [(.un (.not) (.var 4),false)] <|
 .branch (.bin (.or) (.bin (.or) (.un (.not) (.var 4)) (.un (.not) (.var 8))) (.un (.not) (.bin (.beq) (.bin (.eq) (.var 0) (.aR .i64 (0))) (.bin (.eq) (.var 1) (.aR .i64 (0)))))) (
  .stuck 11)
  (
  .ret (.un (.eS) (.cons (.un (.eS) (.nil)) (.cons (.un (.agg) (.cons (.var 0) (.cons (.var 1) (.cons (.nil) (.nil))))) (.nil)))))
def XG:VC:=
 .call 4 57 (.cons (.var 0) (.cons (.aR .i64 (0)) (.cons (.aR .i64 (1099511627776)) (.nil)))) [] <|
 .call 8 57 (.cons (.var 1) (.cons (.aR .i64 (0)) (.cons (.aR .i64 (1099511627776)) (.nil)))) [(.un (.not) (.var 4),false)] <|
 .branch (.bin (.or) (.bin (.or) (.un (.not) (.var 4)) (.un (.not) (.var 8))) (.un (.not) (.bin (.beq) (.bin (.eq) (.var 0) (.aR .i64 (0))) (.bin (.eq) (.var 1) (.aR .i64 (0)))))) (
  .ret (.gI))
  (
  .stuck 11)
def Ri:VC:=
 .branch (.bin (.or) (.bin (.or) (.bin (.lt) (.var 1) (.aR .i64 (1))) (.bin (.le) (.var 0) (.var 2))) (.bin (.ge) (.bin (.sub .i64) (.bin (.sub .i64) (.var 0) (.var 2)) (.aR .i64 (1))) (.un (.len) (.var 4)))) (
  .ret (.un (.eS) (.cons (.nil) (.cons (.un (.agg) (.cons (.var 2) (.cons (.var 3) (.cons (.var 4) (.nil))))) (.nil)))))
  (
  .branch (.bin (.lt) (.var 1) (.bin (.sub .i64) (.un (.len) (.var 4)) (.bin (.sub .i64) (.bin (.sub .i64) (.var 0) (.var 2)) (.aR .i64 (1))))) (
   .kq [] (.bin (.and) (.bin (.le) (.aR .i64 (0)) (.bin (.sub .i64) (.bin (.sub .i64) (.var 0) (.var 2)) (.aR .i64 (1)))) (.bin (.and) (.bin (.le) (.bin (.sub .i64) (.bin (.sub .i64) (.var 0) (.var 2)) (.aR .i64 (1))) (.bin (.add .i64) (.bin (.sub .i64) (.bin (.sub .i64) (.var 0) (.var 2)) (.aR .i64 (1))) (.var 1))) (.bin (.le) (.bin (.add .i64) (.bin (.sub .i64) (.bin (.sub .i64) (.var 0) (.var 2)) (.aR .i64 (1))) (.var 1)) (.un (.len) (.var 4)))))<|
   .room [] (.bin (.cat) (.nil) (.bin (.drop) (.bin (.take) (.var 4) (.bin (.add .i64) (.bin (.sub .i64) (.bin (.sub .i64) (.var 0) (.var 2)) (.aR .i64 (1))) (.var 1))) (.bin (.sub .i64) (.bin (.sub .i64) (.var 0) (.var 2)) (.aR .i64 (1))))) 320<|
   .ret (.un (.eS) (.cons (.bin (.cat) (.nil) (.bin (.drop) (.bin (.take) (.var 4) (.bin (.add .i64) (.bin (.sub .i64) (.bin (.sub .i64) (.var 0) (.var 2)) (.aR .i64 (1))) (.var 1))) (.bin (.sub .i64) (.bin (.sub .i64) (.var 0) (.var 2)) (.aR .i64 (1))))) (.cons (.un (.agg) (.cons (.var 2) (.cons (.var 3) (.cons (.var 4) (.nil))))) (.nil)))))
   (
   .kq [] (.bin (.and) (.bin (.le) (.aR .i64 (0)) (.bin (.sub .i64) (.bin (.sub .i64) (.var 0) (.var 2)) (.aR .i64 (1)))) (.bin (.and) (.bin (.le) (.bin (.sub .i64) (.bin (.sub .i64) (.var 0) (.var 2)) (.aR .i64 (1))) (.un (.len) (.var 4))) (.bin (.le) (.un (.len) (.var 4)) (.un (.len) (.var 4)))))<|
   .room [] (.bin (.cat) (.nil) (.bin (.drop) (.bin (.take) (.var 4) (.un (.len) (.var 4))) (.bin (.sub .i64) (.bin (.sub .i64) (.var 0) (.var 2)) (.aR .i64 (1))))) 320<|
   .ret (.un (.eS) (.cons (.bin (.cat) (.nil) (.bin (.drop) (.bin (.take) (.var 4) (.un (.len) (.var 4))) (.bin (.sub .i64) (.bin (.sub .i64) (.var 0) (.var 2)) (.aR .i64 (1))))) (.cons (.un (.agg) (.cons (.var 2) (.cons (.var 3) (.cons (.var 4) (.nil))))) (.nil))))))
def adC:VC:=
 .ret (.un (.eS) (.cons (.un (.eS) (.nil)) (.cons (.un (.agg) (.V (fl [[.eO true],vr 1 12,[.un (.pP) (.nil)],vr 14 37]))) (.cons (.un (.agg) (.cons (.var 51) (.cons (.var 52) (.cons (.var 53) (.nil))))) (.nil)))))
def adD:VC:=
 .ret (.un (.eS) (.cons (.un (.eS) (.nil)) (.cons (.un (.agg) (.V (fl [vr 0 13,[.un (.pP) (.nil)],vr 14 8,rp 2 (.aR .i64 (0)),vr 24 27]))) (.cons (.un (.agg) (.cons (.var 51) (.cons (.var 52) (.cons (.var 53) (.nil))))) (.nil)))))
def adA:VC:=
 .room [] (.bin (.cat) (.var 6) (.cons (.un (.agg) (.V (fl [[.un (.cell 0) (.var 0)],[.var 9],[.un (.cell 2) (.var 0)],[.var 12],cr 4 42 (.var 0)]))) (.nil))) 536<|
 .ret (.un (.eS) (.cons (.un (.eS) (.nil)) (.cons (.un (.agg) (.V (fl [vr 1 5,[.bin (.cat) (.var 6) (.cons (.un (.agg) (.V (fl [[.un (.cell 0) (.var 0)],[.var 9],[.un (.cell 2) (.var 0)],[.var 12],cr 4 42 (.var 0)]))) (.nil))],vr 7 7,[.un (.pP) (.nil)],vr 15 37]))) (.cons (.un (.agg) (.cons (.var 52) (.cons (.var 53) (.cons (.var 54) (.nil))))) (.nil)))))
def X9:VC:=nt Try.prog Us [] s41 Try.f41
def adE:VC:=
 .ret (.un (.eS) (.cons (.un (.agg) (.V (fl [[.var 0],[.var 11],[.var 12],vr 3 5]))) (.cons (.un (.agg) (.V (fl [[.eO false],rp 2 (.aR .i64 (0)),[.nil],[.gI],rp 3 (.nil),vr 8 5,[.un (.pP) (.nil)],vr 14 37]))) (.cons (.un (.agg) (.cons (.var 51) (.cons (.var 52) (.cons (.var 53) (.nil))))) (.nil)))))
def Ya:VC:=nt Try.prog UC [] s39 Try.f39
def Yd:VC:=nt Try.prog UA [(0,{drop:=[4006001]})] s33 Try.f33
def adx:VC:=
 .ret (.bin (.eq) (.un (.cell 2) (.var 0)) (.aR .i64 (2)))
def Ns:VC:=
 .loop 6 [.aR .i64 (0),.aR .i64 (0)] [.int .i64,.int .i64] (
  .branch (.bin (.lt) (.var 7) (.un (.len) (.var 0))) (
   .kq [] (.bin (.and) (.bin (.le) (.aR .i64 (0)) (.var 7)) (.bin (.lt) (.var 7) (.un (.len) (.var 0))))<|
   .call 16 84 (.cons (.bin (.idx) (.var 0) (.var 7)) (.nil)) [] <|
   .branch (.var 16) (
    .ret (.var 7))
    (
    .again 0 [.var 6,.bin (.add .i64) (.var 7) (.aR .i64 (1))]))
   (
   .ret (.aR .i64 (-1))))
def Nv:VC:=
 .call 5 80 (.cons (.var 0) (.cons (.var 1) (.nil))) [] <|
 .ret (.bin (.ge) (.var 5) (.aR .i64 (0)))
def XM:VC:=nt Try.prog Gt [] s73 Try.f73
def Uh:VC:=nt Try.prog Uo [(1000000,{drop:=[18]}),(3,{own:=[(4,3)]}),(5,{drop:=[4005005]})] s40 Try.f40
def Pu:VC:=nt Try.prog Uz [(3,{boxes:=ya}),(9,{boxes:=ya}),(5,{drop:=[4006004]})] kj Try.f67
def Ui:VC:=nt Try.prog Uq [(8,{boxes:=ya})] s37 Try.f37
def X8:VC:=nt Try.prog UB [] s42 Try.f42
def X7:VC:=nt Try.prog Uy [] s43 Try.f43
def X6:VC:=nt Try.prog Ux [] s44 Try.f44
def XK:VC:=nt Try.prog Uw [] Q3 Try.f75
def Rj:VC:=
 .branch (.bin (.or) (.bin (.or) (.bin (.lt) (.var 1) (.aR .i64 (1))) (.bin (.le) (.var 0) (.var 2))) (.bin (.ge) (.bin (.sub .i64) (.bin (.sub .i64) (.var 0) (.var 2)) (.aR .i64 (1))) (.un (.len) (.var 4)))) (
  .ret (.un (.eS) (.cons (.nil) (.cons (.un (.agg) (.cons (.var 2) (.cons (.var 3) (.cons (.var 4) (.nil))))) (.nil)))))
  (
  .branch (.bin (.lt) (.var 1) (.bin (.sub .i64) (.un (.len) (.var 4)) (.bin (.sub .i64) (.bin (.sub .i64) (.var 0) (.var 2)) (.aR .i64 (1))))) (
   .kq [] (.bin (.and) (.bin (.le) (.aR .i64 (0)) (.bin (.sub .i64) (.bin (.sub .i64) (.var 0) (.var 2)) (.aR .i64 (1)))) (.bin (.and) (.bin (.le) (.bin (.sub .i64) (.bin (.sub .i64) (.var 0) (.var 2)) (.aR .i64 (1))) (.bin (.add .i64) (.bin (.sub .i64) (.bin (.sub .i64) (.var 0) (.var 2)) (.aR .i64 (1))) (.var 1))) (.bin (.le) (.bin (.add .i64) (.bin (.sub .i64) (.bin (.sub .i64) (.var 0) (.var 2)) (.aR .i64 (1))) (.var 1)) (.un (.len) (.var 4)))))<|
   .room [] (.bin (.cat) (.nil) (.bin (.drop) (.bin (.take) (.var 4) (.bin (.add .i64) (.bin (.sub .i64) (.bin (.sub .i64) (.var 0) (.var 2)) (.aR .i64 (1))) (.var 1))) (.bin (.sub .i64) (.bin (.sub .i64) (.var 0) (.var 2)) (.aR .i64 (1))))) 320<|
   .ret (.un (.eS) (.cons (.bin (.cat) (.nil) (.bin (.drop) (.bin (.take) (.var 4) (.bin (.add .i64) (.bin (.sub .i64) (.bin (.sub .i64) (.var 0) (.var 2)) (.aR .i64 (1))) (.var 1))) (.bin (.sub .i64) (.bin (.sub .i64) (.var 0) (.var 2)) (.aR .i64 (1))))) (.cons (.un (.agg) (.cons (.var 2) (.cons (.var 3) (.cons (.var 4) (.nil))))) (.nil)))))
   (
   .kq [] (.bin (.and) (.bin (.le) (.aR .i64 (0)) (.bin (.sub .i64) (.bin (.sub .i64) (.var 0) (.var 2)) (.aR .i64 (1)))) (.bin (.and) (.bin (.le) (.bin (.sub .i64) (.bin (.sub .i64) (.var 0) (.var 2)) (.aR .i64 (1))) (.un (.len) (.var 4))) (.bin (.le) (.un (.len) (.var 4)) (.un (.len) (.var 4)))))<|
   .room [] (.bin (.cat) (.nil) (.bin (.drop) (.bin (.take) (.var 4) (.un (.len) (.var 4))) (.bin (.sub .i64) (.bin (.sub .i64) (.var 0) (.var 2)) (.aR .i64 (1))))) 320<|
   .ret (.un (.eS) (.cons (.bin (.cat) (.nil) (.bin (.drop) (.bin (.take) (.var 4) (.un (.len) (.var 4))) (.bin (.sub .i64) (.bin (.sub .i64) (.var 0) (.var 2)) (.aR .i64 (1))))) (.cons (.un (.agg) (.cons (.var 2) (.cons (.var 3) (.cons (.var 4) (.nil))))) (.nil))))))
def X5:VC:=nt Try.prog Md [] s45 Try.f45
def Ue:VC:=nt Try.prog Uv [(4,{boxes:=ya})] np Try.f77
def XJ:VC:=nt Try.prog Um [(1,{drop:=[4006001]})] W6 Try.f78
def X4:VC:=nt Try.prog Ul [(3,{drop:=[5106003]})] s46 Try.f46
def X2:VC:=nt Try.prog Uu [(5,{drop:=[5106003]})] s48 Try.f48
def adH:VC:=
 .call 5 26 (.cons (.un (.agg) (.cons (.un (.cell 2) (.var 0)) (.cons (.un (.cell 3) (.var 0)) (.nil)))) (.nil)) [] <|
 .call 8 52 (.cons (.un (.cell 4) (.var 0)) (.nil)) [] <|
 .ret (.un (.agg) (.V (fl [[.un (.cell 0) (.var 0)],[.un (.cell 1) (.var 0)],[.un (.cell 0) (.var 5)],[.un (.cell 1) (.var 5)],[.var 8]])))
def X3:VC:=Vc Try.prog UE Jd [(21,{drop:=[9000000010]})] s47 Try.f47
def Yl:VC:=nt Try.prog Ut [] s17 Try.f17
def Uk:VC:=nt Try.prog UF [(6,{boxes:=ya})] s15 Try.f15
def XH:VC:=
 .branch (.bin (.ne) (.un (.len) (.var 0)) (.un (.len) (.var 1))) (
  .ret (.eO false))
  (
  .loop 9 [.eO false,.aR .i64 (0)] [.bool,.int .i64] (
   .branch (.bin (.lt) (.var 10) (.un (.len) (.var 0))) (
    .kq [] (.bin (.and) (.bin (.le) (.aR .i64 (0)) (.var 10)) (.bin (.lt) (.var 10) (.un (.len) (.var 0))))<|
    .kq [] (.bin (.and) (.bin (.le) (.aR .i64 (0)) (.var 10)) (.bin (.lt) (.var 10) (.un (.len) (.var 1))))<|
    .branch (.bin (.ne) (.bin (.idx) (.var 0) (.var 10)) (.bin (.idx) (.var 1) (.var 10))) (
     .ret (.eO false))
     (
     .again 0 [.var 9,.bin (.add .i64) (.var 10) (.aR .i64 (1))]))
    (
    .ret (.eO true))))
def XT:VC:=
 .call 9 81 (.cons (.un (.cell 0) (.var 0)) (.cons (.un (.cell 0) (.var 1)) (.nil))) [] <|
 .call 15 81 (.cons (.un (.cell 1) (.var 0)) (.cons (.un (.cell 1) (.var 1)) (.nil))) [] <|
 .ret (.bin (.and) (.var 9) (.var 15))
def adF:VC:=
 .call 9 62 (.cons (.un (.agg) (.cons (.un (.cell 25) (.var 0)) (.cons (.un (.cell 26) (.var 0)) (.nil)))) (.cons (.un (.agg) (.cons (.un (.cell 25) (.var 1)) (.cons (.un (.cell 26) (.var 1)) (.nil)))) (.nil))) [] <|
 .ret (.bin (.and) (.bin (.and) (.bin (.and) (.bin (.and) (.bin (.and) (.var 9) (.bin (.eq) (.un (.cell 0) (.var 0)) (.un (.cell 0) (.var 1)))) (.bin (.eq) (.un (.cell 1) (.var 0)) (.un (.cell 1) (.var 1)))) (.bin (.eq) (.un (.cell 2) (.var 0)) (.un (.cell 2) (.var 1)))) (.bin (.eq) (.un (.cell 3) (.var 0)) (.un (.cell 3) (.var 1)))) (.bin (.eq) (.un (.cell 8) (.var 0)) (.un (.cell 8) (.var 1))))
def vc8:VC:=
 .branch (.bin (.lt) (.var 0) (.aR .i64 (0))) (
  .kq [] (.bin (.ne) (.var 1) (.aR .i64 (0)))<|
  .ret (.bin (.rem .i64) (.un (.neg .i64) (.bin (.add .i64) (.var 0) (.aR .i64 (1)))) (.var 1)))
  (
  .kq [] (.bin (.ne) (.var 1) (.aR .i64 (0)))<|
  .ret (.bin (.rem .i64) (.var 0) (.var 1)))
attribute [irreducible] Ug Uj Uf Yb X9 Ya Yd XM Uh Pu Ui X8 X7 X6 XK X5 Ue XJ X4 X2 X3 Yl Uk
end
end Go.Proofs.Ytjhmkaninmgilaa
