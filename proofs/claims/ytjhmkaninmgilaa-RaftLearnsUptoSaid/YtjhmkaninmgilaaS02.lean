/- Part 2 of the proof of RaftLearns; no condition. -/
import Derived.Test.YtjhmkaninmgilaaS01
import Derived.Laws.MakeOwn
set_option linter.defProp false
set_option linter.unusedVariables false
set_option linter.unusedSimpArgs false
set_option maxHeartbeats 4000000
namespace Go.dF
open Go Go.RowKit
section
variable{P:Tap}{C:Cx}{w w0:Tam}{S0:gK}{G:Gh}{σ:St}{a:Act}{o:Tbc}{pc:dM}{s:SV}{is:List Item}{Φ:Taa}{Pre:eN}{n p:Nat}{cs:ni}
def jg.ae0{base:Nat}{g:Tag}{e:E}{T:Tba}{t:Ty}(h:jg C w base G g e T t)(u:0<t.cells.length){S':bE}(y:∀b o,G.S b o->S' b o)(z:∀b o,(G.τ g).ownBlock=some b->S' b o):cg w S' (G.τ g) (den C.ρ e):=by
 obtain⟨B,l,A,m,N,F⟩:=h.own;rw[A];obtain⟨H,I⟩:=m;rcases I with⟨hv,hn⟩|⟨b,cap,cur,hv,hb,hg,Mr,Yl,GW,uj⟩
 .have:l=[]:=au hn;subst this;rw[hv];exact .nil none 0
 have f:=h.has;rw[A]at f;obtain⟨M,k,_,D⟩:=bO.1 f;injection k with k;subst k;by_cases q:l=[]
 .subst q;rw[hv];exact .nil _ cap
 rw[hv];refine .list b 0 cap t.cells.length B l u q Mr H (fun i r=>?_) (fun i v r=>?_) (fun i d x=>?_) (fun i d j v c L K J=>(F i d j v c L K J).keep y (fun _ _ _=>rfl))
 .exact z b _ (by rw[hv];rfl)
 .rw[av,cell_of_row w b i cur T (0,0) hg];rw[<-uj,aq]at r;split at r
  .simpa using r
  cases r
 exact(cB (D d (bQ x))).1
def xR(G:Gh)(σ:St):bE:=fun b o=>G.S b o\/∃g x,σ.live g=some x/\(G.τ g).ownBlock=some b
def Bk(r:fg w0 S0 C G σ w){c:SC}{e:E}{t:Ty}{l:List (Tag×Tao (E×Tba×Ty))}{v:Tan}(h:qM σ c=some ((e,t),l))(m:ru C w G c v):
  (e.lt C.N=true/\cg w (xR G σ) v (den C.ρ e)/\Has t (den C.ρ e))/\∀y∈l,σ.live y.1=y.2/\y.2.isSome=true:=by
 have plain:(asData c).map (fun x=>(x,([]:List (Tag×Tao (E×Tba×Ty)))))=some ((e,t),l)->(e.lt C.N=true/\cg w (xR G σ) v (den C.ρ e)/\Has t (den C.ρ e))/\∀y∈l,σ.live y.1=y.2/\y.2.isSome=true:=by intro h;simp only[dn,ah]at h;obtain⟨x,q,rfl,rfl⟩:=h;obtain⟨B,A,z⟩:=kZ q m;exact⟨⟨B,A.keep (fun _ _ h=>.inl h) (fun _ _ _=>rfl),z⟩,by simp⟩
 cases c with
 |xo g t'=>
  simp only[qM]at h;split at h
  .rename_i D T i;injection h with h;simp only[ah]at h;obtain⟨⟨rfl,rfl⟩,rfl⟩:=h;obtain⟨j,_,f⟩:=wv i;have d:=r.own _ _ _ _ j;refine⟨⟨d.lt,?_,d.has⟩,?_⟩
   .rw[m.2.1];exact d.ae0 f (fun _ _ h=>.inl h) (fun b o u=>.inr ⟨g,_,j,u⟩)
   intro y k;simp only[ax]at k;subst k;exact⟨j,rfl⟩
  cases h
 |_=>exact plain h
def yq(m:fg w0 S0 C G σ w):∀{f:List SC} {es:List E} {ts:Tal} {l:List (Tag×Tao (E×Tba×Ty))} {vs:Tac},mT σ f=some ((es,ts),l)->jZ C w G f vs->
  ((E.V es).lt C.N=true/\es.length=vs.length/\(∀(i:Nat) v e,vs[i]?=some v->es[i]?=some e->cg w (xR G σ) v (den C.ρ e))/\dx (.V ts) (es.map (den C.ρ)))/\∀y∈l,σ.live y.1=y.2/\y.2.isSome=true
 |[],es,ts,l,vs,h,hr=>by simp only[mT,aa,ah]at h;obtain⟨⟨rfl,rfl⟩,rfl⟩:=h;have g:vs=[]:=au hr.1;subst g;exact⟨⟨rfl,rfl,by intro i v e b;simp at b,dy.2 rfl⟩,by simp⟩
 |c::f,es,ts,l,vs,h,hr=>by
  simp only[mT]at h;split at h
  .rename_i e t Q L q O K J;injection h with h;simp only[ah]at h;obtain⟨⟨rfl,rfl⟩,rfl⟩:=h;cases vs with
   |nil=>have:=hr.1;simp at this
   |cons v vs=>
    have j:jZ C w G f vs:=⟨by simpa using hr.1,fun i c v b g=>hr.2 (i+1) c v (by simpa using b) (by simpa using g)⟩;obtain⟨⟨I,H,F,D⟩,B⟩:=yq m J j;obtain⟨⟨A,z,x⟩,r⟩:=Bk m K (hr.2 0 c v rfl rfl);refine⟨⟨by simp[E.V,E.lt,A,I],by simp[H],?_,aJ.2 ⟨_,_,rfl,x,D⟩⟩,fun y d=>?_⟩
    .intro i u M b k;cases i with
     |zero=>simp at b k;subst b;subst k;exact z
     |succ i=>exact F i u M (by simpa using b) (by simpa using k)
    rcases aM.1 d with d|d
    .exact r y d
    exact B y d
  cases h
def GK(f:fg w0 S0 C G σ w){s:SV}{e:E}{t:Ty}{l:List (Tag×Tao (E×Tba×Ty))}{v:Tan}(h:qi σ s=some ((e,t),l))(b:wR C w G s v):
  (e.lt C.N=true/\cg w (xR G σ) v (den C.ρ e)/\Has t (den C.ρ e))/\∀y∈l,σ.live y.1=y.2/\y.2.isSome=true:=by
 cases s with
 |one c=>exact Bk f h b
 |agg cl=>
  simp only[qi]at h;split at h
  .rename_i I F H B;injection h with h;simp only[ah]at h;obtain⟨⟨rfl,rfl⟩,rfl⟩:=h;obtain⟨j,rfl,x⟩:=b;obtain⟨⟨u,r,q,m⟩,k⟩:=yq f B x;refine⟨⟨by simpa [E.lt]using u,?_,?_⟩,k⟩
   .simp only[den,gg,U.den,D.A];refine .agg j _ (by simp[r]) fun i v d z g=>?_;simp only[ab,dn]at g;obtain⟨e,A,rfl⟩:=g;exact q i v e z A
   simp only[den,gg,U.den,D.A];exact dU.2 ⟨_,rfl,m⟩
  cases h
 |ff l=>cases h
def F6(q:fg w0 S0 C G σ w)(m:iO C w G σ.tm a){pc:dM}(c:bc C.ρ pc=true):∀{xs:List Tbb} {g:List Tba} {es:List (E×Ty)} {l:List (Tag×Tao (E×Tba×Ty))},xS P σ pc xs g=some (es,l)->
  (es.length=xs.length/\∀(i:Nat) x e,xs[i]?=some x->es[i]?=some e->e.1.lt C.N=true/\cg w (xR G σ) (a.eval x) (den C.ρ e.1)/\Has e.2 (den C.ρ e.1))/\∀y∈l,σ.live y.1=y.2/\y.2.isSome=true
 |[],[],es,l,h=>by simp only[xS,aa,ah]at h;obtain⟨rfl,rfl⟩:=h;exact⟨⟨rfl,by intro i x e d;simp at d⟩,by simp⟩
 |x::xs,t::ts,es,l,h=>by
  simp only[xS]at h;split at h
  .rename_i e K F J f D;obtain⟨rfl,rfl⟩:=iP h;obtain⟨⟨B,A⟩,z⟩:=F6 q m c D;rw[ez]at f;obtain⟨I,j,f⟩:=f;obtain⟨v,u⟩:=GK q (e:=e.1) (t:=e.2) f (df m c j);refine⟨⟨by simp[B],fun i r H d k=>?_⟩,fun y b=>?_⟩
   .cases i with
    |zero=>simp at d k;subst d;subst k;exact v
    |succ i=>exact A i r H (by simpa using d) (by simpa using k)
   rcases aM.1 b with b|b
   .exact u y b
   exact z y b
  cases h
 |[],_::_,_,_,h=>by cases h
 |_::_,[],_,_,h=>by cases h
def cg.bare{S S':bE}{v:Tan}{d:D}{t:Ty}(h:cg w S v d)(b:Has t d)(c:t.bare=true):cg w S' v d:=by
 cases t<;>first|(cases c;done)|skip
 .obtain⟨n,rfl,_⟩:=dt.1 b;rw[h.cQ];exact .int _ _
 .obtain⟨n,rfl⟩:=dg.1 b;rw[h.gU];exact .bool _
 obtain⟨n,rfl⟩:=my.1 b;rw[h.DQ];exact .str _
def jN.bare{w':Tam}{S S':bE}{τ:Taj}{c:bF}{v:Tan}{d:D}(h:jN w' 0 S τ c v d)(z:c.bare=true)(I:∀j T,c.2=some (j,T)->∀b,(τ j).ownBlock=some b->∀o,S' b o↔S b o):jN w' 0 S' τ c v d:=by
 obtain⟨t,_|⟨j,T⟩⟩:=c
 .exact⟨h.1.bare h.2 z,h.2⟩
 obtain⟨rfl,⟨x,M,B,l,A,L,K,J⟩⟩:=h;refine⟨rfl,x,M,B,l,A,L,fun b k o=>(I j T rfl b k o).trans (K b k o),fun i d q v c y r H=>?_⟩;rw[A]at x;obtain⟨N,f,_,m⟩:=bO.1 x;injection f with f;subst f;obtain⟨F,E⟩:=cB (m d (bQ y));have g:q<t.cells.length:=by rw[<-F];exact(aO.1 r).1
 obtain⟨O,e,u⟩:=E q _ (aS g);rw[r]at e;injection e with e;subst e;exact(J i d q v c y r H).bare u (bY.1 z _ (aN g))
def im.bare{w':Tam}{S S':bE}{τ:Taj}{res:List (Bool×List bF)}{v:Tan}{d:D}(h:im w' 0 S τ res v d)(M:(res.all fun c=>c.2.all bF.bare)=true)(L:∀j b,j∈cU res->(τ j).ownBlock=some b->∀o,S' b o↔S b o):im w' 0 S' τ res v d:=by
 have g:∀c∈res,∀y∈c.2,∀j T,y.2=some (j,T)->j∈cU res:=by intro c t y q j T r;unfold cU;exact dj.2 ⟨c,t,bH.2 ⟨y,q,by rw[r];rfl⟩⟩
 have k:∀c∈res,∀v d,gk w' 0 S τ c v d->gk w' 0 S' τ c v d:=by
  intro c t v d h;have z:=bY.1 M c t;unfold gk at h⊢;split
  .rename_i l;rw[if_pos l]at h;obtain⟨B,K,J,I,H,F,A⟩:=h;refine⟨B,K,J,I,H,F,fun i x u y f E q=>?_⟩;have e:=bQ f;exact(A i x u y f E q).bare (bY.1 z x e) (fun j T r b m o=>L j b (g c t x e j T r) m o)
  rename_i l;rw[if_neg l]at h;obtain⟨x,f,A⟩:=h;have e:x∈c.2:=by rw[f];simp
  exact⟨x,f,A.bare (bY.1 z x e) (fun j T r b m o=>L j b (g c t x e j T r) m o)⟩
 rcases h with⟨c,rfl,h⟩|⟨tV,B,K,J,I,H,F,A⟩
 .exact .inl ⟨c,rfl,k c (by simp) v d h⟩
 exact .inr ⟨tV,B,K,J,I,H,F,fun i x u y f E q=>k x (bQ f) u y (A i x u y f E q)⟩
def Cz{b β:Type}[DecidableEq b] :∀(l r:List (b×β)) (x:b),lk (l++r) x=match lk l x with|some v=>some v|none=>lk r x
 |[],r,x=>rfl
 |(k,v)::l,r,x=>by
  simp only[eL,lk];split
  .rfl
  exact Cz l r x
def IB{l r:List (Tag×Tao (E×Tba×Ty))}(e:∀y∈l,σ.live y.1=y.2)(c:∀y∈l,∀z∈r,y.1≠z.1):fx σ.live (l++r)=fx σ.live r:=by
 funext g;unfold fx;rw[Cz];cases h:lk l g with
 |none=>rfl
 |some v=>
  have b:=iL h
  have d:lk r g=none:=by
   cases hr:lk r g with
   |none=>rfl
   |some u=>exact absurd (show((g,v):Tag×Tao (E×Tba×Ty)).1=((g,u):Tag×Tao (E×Tba×Ty)).1 from rfl) (c (g,v) b (g,u) (iL hr))
  rw[d];exact(e _ b).symm
def BG{ops:Tad}{e:jh}(H:gQ n w0 S0 C G σ a w)(hp:¬C.M p)(a4:p<C.N)(hg:guardOf ops σ o=some [])(h:Jy P cs σ p o=some e)(b1:∀k c,lk cs.l k=some c->bu P k c (Pre k) (Φ k))(c0:∀it∈e.items,fc C Φ Pre it)(b8:e.tW.2.lt C.N=true)(a8:∀d,o.dst=some d->d<n)(b7:¬S0.fr)(b6:¬S0.wz):
  fY P n w0 S0 C (e.app σ) p ops a w o:=by
 unfold Jy at h;split at h
 .rename_i f r V ho;split at h
  .rename_i fe k es l hf c7;split at h
   .rename_i c a1;split at h
    .rename_i b2;obtain⟨b5,b4,d2,b3,U⟩:=b2;injection h with h;subst h;intro K Q hK;obtain⟨hw,hc⟩:=gE H.t hg;rw[hw,if_pos (show bc C.ρ []=true from rfl)];obtain⟨f1,f2,f3⟩:=df H.t (pc:=[]) rfl hf;obtain⟨fl,c3,c4⟩:=lz.1 f3;have a7:=dy.1 c4;subst a7;obtain⟨d1,c2,T,d3⟩:=(c3▸f2).xf;have b0:d1=[]:=au (by simpa using T);subst b0;obtain⟨⟨k1,k2⟩,F⟩:=F6 H.m H.t (pc:=[]) rfl c7;have q:=b1 _ _ a1;have a9:(den C.ρ (.V (es.map (·.1)))).A=es.map fun x=>den C.ρ x.1:=by rw[gg];simp[D.A]
     have a2:(execOp a.eval o).run P w=.ok (.enter k (r.toList.map a.eval).toArray) w:=by
      have e1:(r.toList.map a.eval).toArray=r.map a.eval:=by apply dI;simp
      unfold execOp;simp only[ho,resolve,c2,Deferred.ofValue,e1];have:=q.enter (r.map a.eval) w;simpa [invoke]using this
     unfold Oper.wp;rw[a2]
     have R:∀b o,xR G σ b o->b<w.heap.size:=by
      rintro b o (h|⟨g,x,hl,hb⟩)
      .exact H.m.dT b o h
      exact((H.m.own g x.1 x.2.1 x.2.2 hl).gG b hb).2
     have I:∀(i:Nat) v d,(r.toList.map a.eval)[i]?=some v->(es.map fun x=>den C.ρ x.1)[i]?=some d->cg w (xR G σ) v d:=by intro i v d hv hd;simp only[ab,dn]at hv hd;obtain⟨x,A,rfl⟩:=hv;obtain⟨y,B,rfl⟩:=hd;exact(k2 i x y A B).2.1
     have a6:dx (.V c.params) (es.map fun x=>den C.ρ x.1):=by
      rw[<-b4];refine jk (by simp) fun j u x hj A=>?_;simp only[ab,dn]at hj A;obtain⟨y,B,rfl⟩:=hj;obtain⟨y',O,rfl⟩:=A;rw[B]at O;injection O with O;subst O;have b9:j<r.toList.length:=by rw[<-k1];exact(aO.1 B).1
      exact(k2 j _ y (aS b9) B).2.2
     obtain⟨_,_,Z,a3⟩:=c0 _ (ax.2 rfl);have L:=a3 rfl;rw[a9]at Z L;refine(q.calls (by simpa using b5) w (xR G σ) _ _ R (by simp[k1]) I a6 L).mono ?_;rintro e' w' ⟨v,S',τ',rfl,yI,hS,C2,TA,mE,Tw,af4,_⟩;simp only;rw[<-Z]at mE;let S1:bE:=fun b o=>G.S b o\/(S' b o/\w.heap.size<=b);let W:Gh:={S:=S1,β:=G.β,τ:=fun g=>if g.1=p then τ' g.2 else G.τ g};have Y:∀j,W.τ (p,j)=τ' j:=fun j=>if_pos rfl;have hM:(C.add p).M p:=.inr rfl
     have J:im w' 0 W.S τ' c.res v ((C.add p).ρ p):=im.bare mE U fun j b hj hb o=>by
      have c1:=Tw j b hj hb;constructor
      .rintro(h|h)
       .have:=H.m.dT b o h;omega
       exact h.1
      intro h;exact .inr ⟨h,c1⟩
     have E:=uR (C:=C.add p) (G:=W) J hM a4 Y
     have a0:fx σ.live (l++gO p c.res)=fx σ.live (gO p c.res):=IB (fun y B=>(F y B).1) (fun y B z hz he=>by
      obtain⟨h1,h2⟩:=F y B;cases hy2:y.2 with
      |none=>rw[hy2]at h2;cases h2
      |some x=>rw[hy2]at h1;exact gC H.m hp h1 (by rw[he];exact(E z hz).1))
     obtain⟨a5,hm⟩:=H.m.called hp (τ':=τ') yI (fun b o h=>.inl h) (S':=S1)
      (by
       rintro b o (h|h)
       .have:=H.m.dT b o h;have:=yI.size;omega
       exact C2 b o h.1)
      (by
       rintro b o (h|h)
       .exact .inl h
       exact .inr h.2) (fx σ.live (gO p c.res)) W rfl
      (by
       intro g x A;unfold fx at A;split at A
       .rename_i y B;obtain⟨q1,q2,e1,T1,t1,q3,q4⟩:=E _ (iL B);simp only at q1 q3 q4;rw[q3]at A;injection A with A;subst A;refine .inr ⟨q1,q4.Ho (fun b hb=>Tw g.2 b q2 ?_)⟩;have e:W.τ g=τ' g.2:=if_pos q1;rw[<-e];exact hb
       exact .inl ⟨gC H.m hp A,A⟩)
      (by
       intro j1 j2 x y b A B d0 c9
       have X:∀j x,fx σ.live (gO p c.res) (p,j)=some x->j∈cU c.res:=by
        intro j x A;unfold fx at A;split at A
        .rename_i y B;exact(E _ (iL B)).2.1
        exact absurd rfl (gC H.m hp A)
       exact af4 j1 j2 b (X j1 x A) (X j2 y B) d0 c9) (fun c6=>absurd c6 b7) b6
     exact hK _ _ _ (H.step (o:=o) (e:=⟨o.dst,([],nT true p c.res),[],l++gO p c.res,[],[.call p k (.V (es.map (·.1))) []]⟩) a5 (hm.congr (eh _) a0) rfl b8 hc
      (by intro _;simp only[bc,bX,if_true];exact Ah (C:=C.add p) (G:=W) J hM a4 Y _) a8)
    cases h
   cases h
  cases h
 cases h
end
section
variable{P:Tap}{C:Cx}{w w0:Tam}{S0:gK}{G:Gh}{σ:St}{a:Act}{o:Tbc}{pc:dM}{s:SV}{is:List Item}{Φ:Taa}{Pre:eN}{n p:Nat}{cs:ni}
def xV(G:Gh)(ids:Tah)(b o:Nat):Prop:=G.S b o\/∃id∈ids,b=G.β id
def FJ(r:fg w0 S0 C G σ w){id:Nat}{ro:Bool}{cs:List SC}(j:σ.hp id=some (ro,cs))(g:mapOf cs=none){ds:Taf}(k:ds.length=cs.length){ids:Tah}(hi:id∈ids)(h:∀(i:Nat) c v d,cs[i]?=some c->ru C w G c v->ds[i]?=some d->cg w (xV G ids) v d):cg w (xV G ids) (.pointer (some ⟨G.β id,0,none⟩)) (.ptr ds):=by
 obtain⟨_,_,e,_⟩:=r.box _ _ _ j;obtain⟨q,T,t,m⟩:=e.cells g;refine .ptr (G.β id) q ds (by rw[k];exact m.1) (fun i _=>.inr ⟨id,hi,rfl⟩) (fun i v f=>?_) (fun i v d f l=>?_)
 .rw[cell_of_row w _ i _ T (0,0) t];simpa using f
 have b:i<cs.length:=by rw[<-k];exact(aO.1 l).1
 exact h i _ v d (aS b) (m.2 i _ v (aS b) f) l
def yp:∀{cs:List SC} {es:List E} {ts:Tal},gZ cs=some (es,ts)->es.length=cs.length/\ts.length=cs.length/\∀(i:Nat) c,cs[i]?=some c->∃e t,es[i]?=some e/\ts[i]?=some t/\asData c=some (e,t)
 |[],es,ts,h=>by simp only[gZ,aa,ah]at h;obtain⟨rfl,rfl⟩:=h;exact⟨rfl,rfl,by intro i c b;simp at b⟩
 |c::r,es,ts,h=>by
  simp only[gZ]at h;split at h
  .rename_i e t x d v u;obtain⟨rfl,rfl⟩:=iP h;obtain⟨k,j,g⟩:=yp u;refine⟨by simp[k],by simp[j],fun i z b=>?_⟩;cases i with
   |zero=>simp at b;subst b;exact⟨e,t,rfl,rfl,v⟩
   |succ i=>
    obtain⟨y,f,q,m,l⟩:=g i z (by simpa using b);exact⟨y,f,by simpa using q,by simpa using m,l⟩
  cases h
def CB(M:fg w0 S0 C G σ w):∀{cs:List SC} {es:List E} {ts:Tal} {ids:Tah},uh σ cs=some (es,ts,ids)->es.length=cs.length/\ts.length=cs.length/\(∀id∈ids,∃x,σ.hp id=some x)/\
  ∀(i:Nat) c,cs[i]?=some c->∃e t,es[i]?=some e/\ts[i]?=some t/\(∀v,ru C w G c v->∀b,(∀j∈ids,j∈b)->cg w (xV G b) v (den C.ρ e)/\Has t (den C.ρ e))
 |[],es,ts,ids,h=>by simp only[uh,aa,ah]at h;obtain⟨rfl,rfl,rfl⟩:=h;exact⟨rfl,rfl,by simp,by intro i c l;simp at l⟩
 |c::r,es,ts,ids,h=>by
  simp only[uh]at h;split at h
  .rename_i a1 a0 b h1;obtain⟨Z,Y,X,W⟩:=CB M h1;split at h
   .rename_i e t J;obtain⟨rfl,rfl,rfl⟩:=Mi h;refine⟨by simp[Z],by simp[Y],X,fun i Q l=>?_⟩;cases i with
    |zero=>
     simp at l;subst l;refine⟨e,t,rfl,rfl,fun v z b _=>?_⟩;obtain⟨_,g,k⟩:=kZ J z;exact⟨g.keep (fun _ _ h=>.inl h) (fun _ _ _=>rfl),k⟩
    |succ i=>
     obtain⟨N,K,y,g,k⟩:=W i Q (by simpa using l);exact⟨N,K,by simpa using y,by simpa using g,k⟩
   split at h
   .rename_i id _;split at h
    .rename_i ro O B;split at h
     .rename_i ds us F;obtain⟨rfl,rfl,rfl⟩:=Mi h;refine⟨by simp[Z],by simp[Y],fun j q=>?_,fun i Q l=>?_⟩
      .rcases aH.1 q with rfl|q
       .exact⟨_,B⟩
       exact X j q
      cases i with
      |zero=>
       simp at l;subst l;obtain⟨V,S,R⟩:=yp F;refine⟨_,_,rfl,rfl,fun v z m f=>?_⟩;obtain⟨_,rfl⟩:=z;have H:den C.ρ (.un .qv (.V ds))=.ptr (ds.map (den C.ρ)):=by simp only[den,U.den,gg,D.A]
       rw[H];refine⟨FJ M B (jc F) (by simp[V]) (f id (by simp)) (fun i c v d hc z J=>?_),ik.2 ⟨_,rfl,jk (by simp[V,S]) (fun j u x q hx=>?_)⟩⟩
       .obtain⟨e,t,y,_,k⟩:=R i c hc;simp only[ab,y,aV,aa]at J;subst J;exact(kZ k z).2.1.keep (fun _ _ h=>.inl h) (fun _ _ _=>rfl)
       have A:j<O.length:=by rw[<-S];exact(aO.1 q).1
       obtain⟨e,t,y,g,k⟩:=R j _ (aS A);rw[q]at g;injection g with g;subst g;simp only[ab,y,aV,aa]at hx;subst hx;obtain⟨_,_,I,_⟩:=M.box _ _ _ B;obtain⟨vs,T,b3,b4⟩:=I.cells (jc F);have L:j<vs.length:=by rw[b4.1];exact A
       exact(kZ k (b4.2 j _ _ (aS A) (aS L))).2.2
      |succ i=>
       obtain⟨N,K,y,g,k⟩:=W i Q (by simpa using l);exact⟨N,K,by simpa using y,by simpa using g,fun v z m f=>k v z m (fun j q=>f j (by simp[q]))⟩
     cases h
    cases h
   cases h
  cases h
def wK{cs:List SC}{x:List E×Tal×Tah}(h:uh σ cs=some x):mapOf cs=none:=by
 unfold mapOf;split
 .simp[uh,asData]at h
 rfl
def RM(B:gQ n w0 S0 C G σ a w)(F:bc C.ρ pc=true){x:Tbb}{t:Tba}{e:E}{ty:Ty}{ids:Tah}(h:KX P σ pc x t=some (e,ty,ids)):(∀id∈ids,∃z,σ.hp id=some z)/\
  ∀b,(∀j∈ids,j∈b)->cg w (xV G b) (a.eval x) (den C.ρ e)/\Has ty (den C.ρ e):=by
 unfold KX at h;split at h
 .rename_i e' Z J;obtain⟨rfl,rfl,rfl⟩:=Mi h;obtain⟨_,q,r⟩:=dV B.t F J;exact⟨by simp,fun b _=>⟨q.keep (fun _ _ h=>.inl h) (fun _ _ _=>rfl),r⟩⟩
 split at h
 .rename_i id hx;split at h
  .rename_i ro O l;split at h
   .rename_i W ts A N;obtain⟨rfl,rfl,rfl⟩:=Mi h;obtain⟨S,R,q3,Q⟩:=CB B.m N;obtain⟨_,M⟩:=df B.t F hx;refine⟨fun j f=>?_,fun b g=>?_⟩
    .rcases aH.1 f with rfl|f
     .exact⟨_,l⟩
     exact q3 j f
    have H:den C.ρ (.un .qv (.V W))=.ptr (W.map (den C.ρ)):=by simp only[den,U.den,gg,D.A]
    rw[H,M];obtain⟨_,_,I,_⟩:=B.m.box _ _ _ l;obtain⟨Y,T,b3,X⟩:=I.cells (wK N);refine⟨FJ B.m l (wK N) (by simp[S]) (g id (by simp)) (fun i c v d hc M J=>?_),ik.2 ⟨_,rfl,jk (by simp[S,R]) (fun j u y f V=>?_)⟩⟩
    .obtain⟨e,t,K,_,r⟩:=Q i c hc;simp only[ab,K,aV,aa]at J;subst J;exact(r v M b (fun j f=>g j (by simp[f]))).1
    have k:j<O.length:=by rw[<-R];exact(aO.1 f).1
    obtain⟨e,t,K,q,r⟩:=Q j _ (aS k);rw[f]at q;injection q with q;subst q;simp only[ab,K,aV,aa]at V;subst V;have L:j<Y.length:=by rw[X.1];exact k
    exact(r _ (X.2 j _ _ (aS k) (aS L)) A (fun _ h=>h)).2
   cases h
  cases h
 cases h
def F7(q:gQ n w0 S0 C G σ a w)(f:bc C.ρ pc=true):∀{l:List Tbb} {ts:List Tba} {es:List (E×Ty)} {ids:Tah},xT P σ pc l ts=some (es,ids)->
  es.length=l.length/\(∀id∈ids,∃z,σ.hp id=some z)/\∀(i:Nat) x e,l[i]?=some x->es[i]?=some e->∀b,(∀j∈ids,j∈b)->cg w (xV G b) (a.eval x) (den C.ρ e.1)/\Has e.2 (den C.ρ e.1)
 |[],[],es,ids,h=>by simp only[xT,aa,ah]at h;obtain⟨rfl,rfl⟩:=h;exact⟨rfl,by simp,by intro i x e k;simp at k⟩
 |y::l,t::ts,es,ids,h=>by
  simp only[xT]at h;split at h
  .rename_i e J K H b F D;obtain⟨rfl,rfl⟩:=iP h;obtain⟨u,r⟩:=RM q f F;obtain⟨B,A,v⟩:=F7 q f D;refine⟨by simp[B],fun j g=>(aM.1 g).elim (u j) (A j),fun i x I k m c d=>?_⟩;cases i with
   |zero=>simp at k m;subst k;subst m;exact r c (fun j g=>d j (aG _ g))
   |succ i=>exact v i x I (by simpa using k) (by simpa using m) c (fun j g=>d j (bC _ g))
  cases h
 |[],_::_,_,_,h=>by cases h
 |_::_,[],_,_,h=>by cases h
def BJ{ops:Tad}{k:Nat}{e:E}{A:dL}{rd:Tah}(R:gQ n w0 S0 C G σ a w)(hp:¬C.M p)(b5:p<C.N)(hg:guardOf ops σ o=some pc)(h:pg P cs σ pc o=some (k,e,A,rd))(c6:∀k A,lk cs.l k=some A->bu P k A (Pre k) (Φ k))(d6:fc C Φ Pre (.call p k e pc))(b6:(nT pc.isEmpty p A.res).lt C.N=true)(a0:∀d,o.dst=some d->d<n)(H:List Item)(d5:¬S0.fr)(d4:¬S0.wz):
  fY P n w0 S0 C ((⟨o.dst,(pc,nT pc.isEmpty p A.res),[],if pc.isEmpty then gO p A.res else [],rd,H⟩:jh).app σ) p ops a w o:=by
 intro K Q hK;obtain⟨hw,hc⟩:=gE R.t hg;rw[hw];have c1:bc C.ρ pc=false->pc.isEmpty=false:=by intro h;cases pc<;>first|rfl|(simp[bc]at h)
 cases yD:bc C.ρ pc with
 |false=>
  simp only[aj,if_false]
  have hm:fg w0 S0 (C.add p) G ((⟨o.dst,(pc,nT pc.isEmpty p A.res),[],if pc.isEmpty then gO p A.res else [],rd,H⟩:jh).app σ) w:=
   (R.m.pH p).congr (eh _) (by simp only[jh.app,c1 yD,aj,if_false];exact eh _)
  exact hK _ _ _ (R.step (o:=o) (e:=⟨o.dst,(pc,nT pc.isEmpty p A.res),[],if pc.isEmpty then gO p A.res else [],rd,H⟩) (dS.pH C w G p) hm rfl b6 hc
   (by intro _;simp only[yD,aj,if_false]) a0)
 |true=>
 simp only[if_true];unfold pg at h;split at h
 .rename_i f F a8 ho;split at h
  .rename_i fe k' es ids hf e2;split at h
   .rename_i c b2;split at h
    .rename_i c7;obtain⟨d2,d1,e6,d0,a5,d3⟩:=c7;obtain⟨rfl,hE,rfl,rfl⟩:=X3 h;obtain⟨f1,f2,f3⟩:=df R.t (pc:=[]) rfl hf;obtain⟨fl,d8,d9⟩:=lz.1 f3;have c0:fl=[]:=dy.1 d9;subst c0;obtain⟨e5,d7,a4,_⟩:=(d8▸f2).xf;have c4:e5=[]:=au a4;subst c4;obtain⟨k1,kh,k2⟩:=F7 R yD e2;have B:=c6 _ _ b2
     have c3:(den C.ρ e).A=es.map fun x=>den C.ρ x.1:=by rw[<-hE,gg];simp only[D.A,List.map_map];rfl
     have b3:(execOp a.eval o).run P w=.ok (.enter k' (F.toList.map a.eval).toArray) w:=by
      have e1:(F.toList.map a.eval).toArray=F.map a.eval:=by apply dI;simp
      unfold execOp;simp only[ho,resolve,d7,Deferred.ofValue,e1];have:=B.enter (F.map a.eval) w;simpa [invoke]using this
     unfold Oper.wp;rw[b3]
     have a7:∀b o,xV G ids b o->b<w.heap.size:=by
      rintro b o (hb|⟨id,hid,rfl⟩)
      .exact R.m.dT b o hb
      obtain⟨z,hz⟩:=kh id hid;exact R.m.lA hz
     have J:∀(i:Nat) v d,(F.toList.map a.eval)[i]?=some v->(es.map fun x=>den C.ρ x.1)[i]?=some d->cg w (xV G ids) v d:=by intro i v d hv hd;simp only[ab,dn]at hv hd;obtain⟨x,I,rfl⟩:=hv;obtain⟨y,O,rfl⟩:=hd;exact(k2 i x y I O ids (fun _ h=>h)).1
     have b9:dx (.V c.params) (es.map fun x=>den C.ρ x.1):=by
      rw[<-d1];refine jk (by simp) fun j u x L I=>?_;simp only[ab,dn]at L I;obtain⟨y,O,rfl⟩:=L;obtain⟨y',W,rfl⟩:=I;rw[O]at W;injection W with W;subst W;have b7:j<F.toList.length:=by rw[<-k1];exact(aO.1 O).1
      exact(k2 j _ y (aS b7) O ids (fun _ h=>h)).2
     obtain⟨_,_,b1,b4⟩:=d6;have U:=b4 yD;rw[c3]at b1 U;refine(B.calls (by simpa using d2) w (xV G ids) _ _ a7 (by simp[k1]) J b9 U).mono ?_;rintro e' w' ⟨v,S1,X2,rfl,yI,hS1,acD,agp,Tu,zT,NJ,_⟩;simp only;rw[<-b1]at Tu;obtain⟨S',X⟩:∃S':bE,∀b o,S' b o↔S1 b o/\(G.S b o\/w.heap.size<=b):=⟨fun b o=>S1 b o/\(G.S b o\/w.heap.size<=b),fun _ _=>dA⟩
     have a1:im w' 0 S' X2 c.res v (C.ρ p):=Tu.bare a5 (fun j b L hb o=>by rw[X];exact⟨fun h=>h.1,fun h=>⟨h,.inr (zT j b L hb)⟩⟩)
     have hS:∀b o,G.S b o->S' b o:=fun b o h=>(X b o).2 ⟨hS1 b o (.inl h),.inl h⟩;have c9:∀b o,S' b o->b<w'.heap.size:=fun b o h=>acD b o ((X b o).1 h).1;have a6:∀b o,S' b o->G.S b o\/w.heap.size<=b:=fun b o h=>((X b o).1 h).2;obtain⟨r,Y⟩:∃r,r=pJ c.res X2:=⟨_,rfl⟩;have a3:∀j,j∈cU c.res->r j=X2 j:=fun j L=>by rw[Y];exact if_pos L
     have Z:=a1.Z6;rw[<-Y]at Z;have a2:∀j b,j∈cU c.res->(r j).ownBlock=some b->w.heap.size<=b:=fun j b L hb=>zT j b L (by rw[<-a3 j L];exact hb);have c2:∀j k b,j∈cU c.res->k∈cU c.res->(r j).ownBlock=some b->(r k).ownBlock=some b->j=k:=fun j k b L hk h1 h2=>NJ j k b L hk (by rw[<-a3 j L];exact h1) (by rw[<-a3 k hk];exact h2);let G':Gh:={S:=S',β:=G.β,τ:=fun g=>if g.1=p then r g.2 else G.τ g};have b0:∀j,G'.τ (p,j)=r j:=fun j=>if_pos rfl;have hM:(C.add p).M p:=.inr rfl;have T:im w' 0 G'.S r c.res v ((C.add p).ρ p):=Z;have V:=uR (C:=C.add p) (G:=G') T hM b5 b0
     obtain⟨b8,hm⟩:=R.m.called hp (τ':=r) yI hS c9 a6 (fx σ.live (if pc.isEmpty then gO p c.res else [])) G' rfl
      (by
       intro g x I;unfold fx at I;split at I
       .rename_i y O;have q:=iL O;cases Mq:pc.isEmpty with
        |false=>rw[Mq]at q;simp at q
        |true=>
        rw[Mq]at q;simp only[if_true]at q;obtain⟨q1,q2,e1,T1,t1,q3,q4⟩:=V _ q;simp only at q1 q3 q4;rw[q3]at I;injection I with I;subst I;refine .inr ⟨q1,q4.Ho (fun b hb=>a2 g.2 b q2 ?_)⟩;have e:G'.τ g=r g.2:=if_pos q1;rw[<-e];exact hb
       exact .inl ⟨gC R.m hp I,I⟩)
      (by
       intro j1 j2 x y b I O e4 e3
       have a9:∀j x,fx σ.live (if pc.isEmpty then gO p c.res else []) (p,j)=some x->j∈cU c.res:=by
        intro j x I;unfold fx at I;split at I
        .rename_i y O;have q:=iL O;cases Mq:pc.isEmpty with
         |false=>rw[Mq]at q;simp at q
         |true=>
         rw[Mq]at q;simp only[if_true]at q;exact(V _ q).2.1
        exact absurd rfl (gC R.m hp I)
       exact c2 j1 j2 b (a9 j1 x I) (a9 j2 y O) e4 e3)
      (fun e0=>absurd e0 d5) d4
     exact hK _ _ _ (R.step (o:=o) (e:=⟨o.dst,(pc,nT pc.isEmpty p c.res),[],if pc.isEmpty then gO p c.res else [],ids,H⟩) b8 (hm.congr (eh _) rfl) rfl b6 hc
      (by intro _;simp only[yD,if_true];exact Ah (C:=C.add p) (G:=G') T hM b5 b0 _ (by simpa using d3)) a0)
    cases h
   cases h
  cases h
 cases h
end
def wH{b:Type}(l:List b):∀(n i j:Nat),i<n->j<l.length->(List.replicate n l).flatten[i*l.length+j]?=l[j]?
 |0,i,j,h,_=>by omega
 |n+1,0,j,_,hj=>by simp only[List.replicate_succ,eS,Nat.zero_mul,av];rw[an hj]
 |n+1,i+1,j,h,hj=>by simp only[List.replicate_succ,eS];rw[aL (by rw[cn];omega)];have:=wH l n i j (by omega) hj;rw[<-this];congr 1;rw[cn];omega
def jl(b:Bool)(size:Nat):∀(n:Nat) (es:List E),(qD b size es n).length=n
 |0,_=>rfl
 |n+1,es=>by simp[qD,jl b size n]
def ov(b:Bool)(size:Nat):∀(n i:Nat) (es:List E),i<n->(qD b size es n)[i]?=some (if b then .un .agg (.V ((es.drop (i*size)).take size)) else(es.drop (i*size)).headD .nil)
 |0,i,_,h=>by omega
 |n+1,0,es,_=>by simp[qD]
 |n+1,i+1,es,h=>by simp only[qD,dw];rw[ov b size n i _ (by omega)];rw[List.drop_drop,cn,Nat.one_mul,Nat.add_comm size]
def yN{P:Tap}(w:Tam)(t e:Tba)(len:Nat)(b:Tbd (Nat×Tan))(cells:Tbd Tan)(d:TypeInfo)(z:Tan)(k:P.underlying t=some (.slice e))(j:P.info? e=some d)(l:d.zero=some z)(g:¬len*d.size>2 ^ 24)(h:Instr.fill (fun i=>some (i*d.size,d.size)) ((Array.range (len*d.size)).map (z.cells[· % z.cells.size]!)) b.toList=some cells):
  (Instr.buildSlice t len b).run P w=.ok (.slice (some ⟨w.heap.size,0,none⟩) len len) (w.alloc (.cells cells e)):=by
 by_cases c:len*d.size=0
 .have q:∀f:Taj,(Array.range (len*d.size)).map f=#[]:=fun f=>by rw[c];simp
  rw[q]at h;have m:∀f:Taj,(Array.range 0).map f=#[]:=fun f=>by simp
  simp[Instr.buildSlice,run_underlying k,sizeOf,typeInfo,j,newRow,c];rw[m,h];simp
 exact run_buildSlice w t e len b cells d z k j l g c h
section
variable{P:Tap}{C:Cx}{w w0:Tam}{S0:gK}{G:Gh}{σ:St}{a:Act}{o:Tbc}{pc:dM}{s:SV}{is:List Item}{Φ:Taa}{Pre:eN}{n p:Nat}{cs:ni}
def Cq{e:E}{T:Tba}{t:Ty}{len:Nat}(ht:iO C w G σ.tm a)(b9:bc C.ρ pc=true)(h:rC P σ pc o=some (e,T,t,len)):
  ∃(xs:Tac) (l:Taf),(execOp a.eval o).run P w=.ok (.value (.slice (some ⟨w.heap.size,0,none⟩) len len)) (w.alloc (.cells xs.toArray T))/\e.lt C.N=true/\den C.ρ e=.list l/\l.length=len/\nh t len/\
   0<t.cells.length/\xs.length=len*t.cells.length/\(∀d∈l,Has t d)/\
   (∀(i:Nat) d (j:Nat) v c,l[i]?=some d->d.cells[j]?=some c->xs[i*t.cells.length+j]?=some v->cg w G.S v c)/\∀cl,qB P σ pc o=some cl->jZ C w G cl xs:=by
 unfold rC at h;split at h
 .rename_i tt lO a0 ho;split at h
  .rename_i el hu;split at h
   .rename_i f u ts ps b4 a8 c1 b0;split at h
    .rename_i zs A
     obtain⟨z,hz,A⟩:∃z,f.zero=some z/\ml ts z.cells.toList=some zs:=by
      cases hq:f.zero with
      |none=>simp[hq]at A
      |some z=>exact⟨z,rfl,by simpa [hq]using A⟩
     split at h
     .rename_i c3;obtain⟨c4,a3,b1,b7,X⟩:=c3;split at h
      .rename_i c6 J;split at h
       .rename_i K us c2;split at h
        .rename_i a2;have a7:=qN (C:=C) (w:=w) (G:=G) A;have a6:z.cells.size=zs.length:=by have:=a7.1;simpa using this
         have a4:jZ C w G ((List.range (lO*f.size)).map fun j=>zs.getD (j % zs.length) (.oJ .nil)) ((List.range (lO*f.size)).map fun j=>z.cells[j % z.cells.size]!):=by
          refine⟨by simp,fun i c v r L=>?_⟩;have k:i<lO*f.size:=by have:=(aO.1 r).1;simpa using this
          simp only[ab,da k,aV,aa]at r L;have hm:i % zs.length<zs.length:=Nat.mod_lt _ (by omega);subst r;subst L;rw[a6];have e1:zs.getD (i % zs.length) (.oJ .nil)=zs[i % zs.length]:=by simp[List.getD,hm]
          have b2:i % zs.length<z.cells.size:=by omega
          have e2:z.cells[i % zs.length]! =z.cells.toList[i % zs.length]'(by simpa using b2):=by simp[getElem!_pos,b2]
          rw[e1,e2];exact a7.2 _ _ _ (aS hm) (aS _)
         obtain⟨k1,k2⟩:=uS ht b9 _ _ _ b0;obtain⟨xs,h1,h2⟩:=xD _ _ _ _ _ _ J a4 k1 k2;obtain⟨m1,m2,m3,m4,m5⟩:=mj c2 h2
         have V:∀cl,qB P σ pc o=some cl->jZ C w G cl xs:=by
          intro cl m;have hb:(f.zero.bind fun z=>ml ts z.cells.toList)=some zs:=by rw[hz];exact A
          unfold qB at m;simp only[ho,hu,b4,c1,b0,hb]at m;rw[J]at m;injection m with m;rw[<-m];exact h2
         have a1:xs.length=lO*f.size:=by rw[<-m3,a2.1];simp[a3]
         have Q:∀{T},el=T->(execOp a.eval o).run P w=.ok (.value (.slice (some ⟨w.heap.size,0,none⟩) lO lO)) (w.alloc (.cells xs.toArray T)):=by
          rintro T rfl
          have:=yN (P:=P) w tt el lO (a0.map fun(i,x)=>(i,a.eval x)) xs.toArray f z hu b4 hz (by rw[show(2:Nat) ^ 24=16777216 from rfl];omega)
           (by
            rw[Array.toList_map];have e1:(Array.range (lO*f.size)).map (fun x=>z.cells[x % z.cells.size]!)=((List.range (lO*f.size)).map fun j=>z.cells[j % z.cells.size]!).toArray:=by apply dI;simp
            rw[e1];exact h1)
          unfold execOp;simp only[ho,bw];rw[this];rfl
         have R:lO<=maxLen:=by
          have:lO<=lO*f.size:=Nat.le_mul_of_pos_right _ b1;have h9:(16777216:Nat)<=maxLen:=by decide
          omega
         have W:K.length=lO*f.size:=by rw[m2,a1]
         have H:∀e∈K,e.lt C.N=true:=(rY K).1 m1
         have O:∀(i j:Nat) (ty:Ty) (x:E),i<lO->j<f.size->u.cells[j]?=some ty->K[i*f.size+j]?=some x->Has ty (den C.ρ x):=by intro i j ty x k hj a8 g;have b8:=cJ m5 (i*f.size+j) ty (by rw[Ty.dm,a2.1,<-a3,wH _ _ _ _ k (by omega)];exact a8);obtain⟨d,q,c0⟩:=b8;simp only[ab,g,aV,aa]at q;subst q;exact c0
         have b6:∀{i j:Nat},i<lO->j<f.size->i*f.size+j<lO*f.size:=by intro i j k hj;have:(i+1)*f.size<=lO*f.size:=aw _ k;rw[cn]at this;omega
         split at h
         .rename_i fs Z;obtain⟨rfl,rfl,rfl,rfl⟩:=X3 h;have m:(Ty.agg (.V fs.A)).cells=fs.A:=by simp[Ty.cells,Ty.dm]
          have I:fs.A.length=f.size:=a3
          have elem:∀i,i<lO->den C.ρ (.un .agg (.V ((K.drop (i*f.size)).take f.size)))=.agg (((K.drop (i*f.size)).take f.size).map (den C.ρ)):=by intro i _;simp only[den,gg,U.den,D.A]
          refine⟨xs,_,Q rfl,?_,gg _ _,by simp[jl],⟨R,by rw[Ty.Mc];exact X⟩,by rw[m];omega,by rw[m,I];exact a1,?_,?_,V⟩
          .rw[rY];intro e he;obtain⟨i,k⟩:=aE he;have b:i<lO:=by have:=(aO.1 k).1;rwa [jl]at this
           rw[ov _ _ _ _ _ b]at k;simp only[if_true,aa]at k;subst k;simp only[E.lt];rw[rY];exact fun e he=>H e (cz (cw he))
          .intro d q;obtain⟨i,k⟩:=aE q;simp only[ab,dn]at k;obtain⟨x,g,rfl⟩:=k;have b:i<lO:=by have:=(aO.1 g).1;rwa [jl]at this
           rw[ov _ _ _ _ _ b]at g;simp only[if_true,aa]at g;subst g;rw[elem i b];have M:(i+1)*f.size<=lO*f.size:=aw _ b;rw[cn]at M;refine dU.2 ⟨_,rfl,jk (by simp[W];omega) fun j ty x hj g=>?_⟩;have b3:j<f.size:=by rw[<-I];exact(aO.1 hj).1
           simp only[ab,dn,aq,if_pos b3,aD]at g;obtain⟨y,hy,rfl⟩:=g;exact O i j ty y b b3 hj hy
          intro i d j v c q r L;simp only[ab,dn]at q;obtain⟨x,g,rfl⟩:=q;have b:i<lO:=by have:=(aO.1 g).1;rwa [jl]at this
          rw[ov _ _ _ _ _ b]at g;simp only[if_true,aa]at g;subst g;rw[elem i b]at r;simp only[D.cells,ab,dn,aq]at r;obtain⟨y,hy,rfl⟩:=r;split at hy
          .rw[aD]at hy;rw[m,I]at L;exact m4 _ v y L hy
          cases hy
         .rename_i u _ _ Z;split at h
          .rename_i F;obtain⟨rfl,rfl,rfl,rfl⟩:=X3 h
           have a9:u.scalar=true:=by
            rcases a2.2 with h|h
            .rw[Z]at h;cases h
            exact h
           have B:u.cells=[u]:=by cases u<;>first|rfl|cases a9
           have elem:∀i x,i<lO->(qD false 1 K lO)[i]?=some x->K[i]?=some x:=by
            intro i x k g;rw[ov _ _ _ _ _ k]at g;simp only[aj,if_false,aa,bK]at g;have b:i<K.length:=by rw[W,F];omega
            rw[<-g,aS b,cY b];rfl
           have a5:∀d,Has u d->d.cells=[d]:=by intro d q;have:=(cB q);rw[B]at this;cases d<;>first|rfl|(rename_i l;exfalso;cases u<;>simp[Ty.scalar]at a9<;>simp[dt,dg,my,bO,ik,kJ,lz]at q)
           have Y:∀i x,i<lO->K[i]?=some x->Has u (den C.ρ x):=by intro i x k g;exact O i 0 u x k (by omega) (by rw[B];rfl) (by rw[F,bK,dO];exact g)
           refine⟨xs,_,Q rfl,?_,gg _ _,by simp[jl],⟨R,X⟩,by rw[B];simp,by rw[B];simpa [F]using a1,?_,?_,V⟩
           .rw[rY];intro e he;obtain⟨i,k⟩:=aE he;have b:i<lO:=by have:=(aO.1 k).1;rwa [jl]at this
            exact H e (bQ (elem i e b k))
           .intro d q;obtain⟨i,k⟩:=aE q;simp only[ab,dn]at k;obtain⟨x,g,rfl⟩:=k;have b:i<lO:=by have:=(aO.1 g).1;rwa [jl]at this
            exact Y i x b (elem i x b g)
           intro i d j v c q r L;simp only[ab,dn]at q;obtain⟨x,g,rfl⟩:=q;have b:i<lO:=by have:=(aO.1 g).1;rwa [jl]at this
           have b5:=elem i x b g;rw[a5 _ (Y i x b b5)]at r;cases j with
           |succ j=>simp at r
           |zero=>
            simp at r;subst r;rw[B]at L;simp only[bg,fj,av,bK,dO]at L;exact m4 i v x L b5
          cases h
         cases h
        cases h
       cases h
      cases h
     cases h
    cases h
   cases h
  cases h
 cases h
def xY{ops:Tad}{e:E}{T:Tba}{t:Ty}{len:Nat}(q:gQ n w0 S0 C G σ a w)(hp:¬C.M p)(hg:guardOf ops σ o=some pc)(h:rC P σ pc o=some (e,T,t,len))(own:Bool)(a4:own=true->pc=[])(a7:e.lt C.N=true)(L:∀d,o.dst=some d->d<n)(b9:S0.fr->vq P cs σ pc o=true)(b8:¬S0.wz):
  fY P n w0 S0 C ((⟨o.dst,(pc,if own then .one (.own (p,0) e t) else .one (.gH e (.list t))),[],if own then [((p,0),some (e,T,t))] else [],[],[]⟩:jh).app σ) p ops a w o:=by
 intro K Q hK;obtain⟨hw,hc⟩:=gE q.t hg;have a6:(if own then SV.one (.own (p,0) e t) else SV.one (.gH e (.list t))).lt C.N=true:=by cases own<;>simpa [SV.lt,SC.lt]using a7
 rw[hw];cases yD:bc C.ρ pc with
 |false=>
  simp only[aj,if_false]
  have ho:own=false:=by
   cases own with
   |false=>rfl
   |true=>have:=a4 rfl;subst this;simp[bc]at yD
  subst ho
  exact hK _ _ _ (q.step (o:=o) (e:=⟨o.dst,(pc,.one (.gH e (.list t))),[],[],[],[]⟩) (dS.pH C w G p) ((q.m.pH p).congr (eh _) (eh _)) rfl (by simpa [SV.lt,SC.lt]using a7) hc
   (by intro _;simp only[yD,aj,if_false]) L)
 |true=>
  simp only[if_true];obtain⟨F,l,a2,D,O,a8,J,I,H,b5,hr,a9⟩:=Cq q.t yD h;unfold Oper.wp;rw[a2];let G':Gh:={S:=fun b o=>G.S b o\/(b=w.heap.size/\o<F.length),β:=G.β,τ:=fun g=>if g.1=p then .slice (some ⟨w.heap.size,0,none⟩) len len else G.τ g};have A:∀b o,G.S b o->(w.alloc (.cells F.toArray T)).cell? ⟨b,o,none⟩=w.cell? ⟨b,o,none⟩:=fun b o b7=>World.cell?_alloc_lt w _ _ (q.m.dT b o b7);have B:Has (.list t) (den C.ρ e):=by rw[O];exact bO.2 ⟨l,rfl,by rw[a8];exact J,b5⟩
  have a5:jg (C.add p) (w.alloc (.cells F.toArray T)) w.heap.size G' (p,0) e T t:=by
   refine⟨.inr rfl,D,B,F,l,O,?_,?_,?_⟩
   .show(w.alloc _).ownsRow _ _ _ (if p=p then _ else _) _ _;rw[if_pos rfl,a8];exact⟨H,.inr ⟨w.heap.size,len,F.toArray,rfl,aU _,heap_alloc_new w _,aU _,J.1,by simpa using H,by simp[<-H]⟩⟩
   .intro b hb o;have c1:b=w.heap.size:=by simp[G',Value.ownBlock]at hb;exact hb.symm
    constructor
    .rintro(h|⟨_,h⟩)
     .have:=q.m.dT b o h;omega
     exact⟨rfl,h⟩
    intro ho;exact .inr ⟨c1,ho.2⟩
   intro i d j v c R h2 h3;exact(hr i d j v c R h2 h3).keep (fun _ _ h=>.inl h) A
  obtain⟨b1,hm⟩:=q.m.called hp (S':=G'.S) (τ':=fun _=>.slice (some ⟨w.heap.size,0,none⟩) len len) ((Below.refl _ _).alloc (aU _) _) (fun _ _ h=>.inl h)
   (by
    rintro b o (h|⟨rfl,_⟩)
    .have:=q.m.dT b o h;simp;omega
    simp)
   (by
    rintro b o (h|⟨rfl,_⟩)
    .exact .inl h
    exact .inr (aU _))
   (fx σ.live (if own then [((p,0),some (e,T,t))] else [])) G' rfl
   (by
    intro g x f;cases own with
    |false=>simp only[aj,if_false,eh]at f;exact .inl ⟨gC q.m hp f,f⟩
    |true=>
     simp only[if_true,fx,lk]at f;by_cases Y:g=(p,0)
     .rw[if_pos Y]at f;simp only[aa]at f;subst f;subst Y;exact .inr ⟨rfl,a5⟩
     rw[if_neg Y]at f;exact .inl ⟨gC q.m hp f,f⟩)
   (by
    intro j k x y b f hy _ _
    have Z:∀j x,fx σ.live (if own then [((p,0),some (e,T,t))] else []) (p,j)=some x->j=0:=by
     intro j x f;cases own with
     |false=>simp only[aj,if_false,eh]at f;exact absurd rfl (gC q.m hp f)
     |true=>
      simp only[if_true,fx,lk]at f;by_cases Y:(p,j)=(p,0)
      .simpa using Y
      rw[if_neg Y]at f;exact absurd rfl (gC q.m hp f)
    rw[Z j x f,Z k y hy])
   (fun b3 _=>by
    have R:=b9 b3
    obtain⟨X,c0,b4⟩:∃X,qB P σ pc o=some X/\(X.all DT)=true:=by
     unfold rC at h;split at h
     .rename_i ho;unfold vq at R;simp only[ho]at R;cases hl:qB P σ pc o with
      |none=>rw[hl]at R;cases R
      |some X=>rw[hl]at R;exact⟨X,rfl,R⟩
     cases h
    have a3:=a9 X c0
    have V:∀u∈F,mJ (yW (jn w0 S0) w G.S) u:=by
     intro u W;obtain⟨i,hi⟩:=aE W;have b2:i<X.length:=by rw[<-a3.1];exact(aO.1 hi).1
     exact sZ (C:=C) (bY.1 b4 _ (aN b2)) (q.m.fresh b3) (a3.2 i _ u (aS b2) hi)
    intro a0 n0 c2 c3;by_cases b0:len=0
    .exact .inl b0
    have U:0<F.length:=by rw[H];exact Nat.mul_pos (by omega) I
    refine .inr ⟨w.heap.size,0,rfl,fun b=>yW (jn w0 S0) w G.S b\/b=w.heap.size,?_,.inr rfl⟩;rintro b (hb|rfl)
    .obtain⟨h3,⟨o1,h4⟩,⟨b6,T0,h7⟩,h5⟩:=yW.set _ _ _ b hb;refine⟨h3,⟨o1,.inl h4⟩,⟨b6,T0,(Below.heap_alloc w _ _ (q.m.dT _ _ h4)).trans h7⟩,fun o2 u r W=>?_⟩;rcases r with r|⟨rfl,_⟩
     .exact(h5 o2 u r (by rw[<-A b o2 r];exact W)).mono fun _ h=>.inl h
     have:=q.m.dT _ _ h4;omega
    refine⟨.inl q.m.tD,⟨0,.inr ⟨rfl,U⟩⟩,⟨_,_,heap_alloc_new w _⟩,fun o2 u r W=>?_⟩;rcases r with r|⟨_,c4⟩
    .have:=q.m.dT _ _ r;omega
    have h6:(w.alloc (.cells F.toArray T)).heap[w.heap.size]?=some (.cells F.toArray T (0,0)):=heap_alloc_new w _;rw[cell_of_row _ _ o2 _ T (0,0) h6]at W;simp only[dr]at W;exact(V u (bQ W)).mono fun _ h=>.inl h) b8
  refine hK _ _ _ (q.step (o:=o) (e:=⟨o.dst,(pc,if own then .one (.own (p,0) e t) else .one (.gH e (.list t))),[],if own then [((p,0),some (e,T,t))] else [],[],[]⟩) b1 (hm.congr (eh _) rfl) rfl a6 hc ?_ L);intro _;simp only[yD,if_true];have z:=a5.rep I;have a1:G'.τ (p,0)=.slice (some ⟨w.heap.size,0,none⟩) len len:=if_pos rfl;rw[a1]at z;cases own with
  |true=>exact⟨.inr rfl,D,z,B,a1.symm⟩
  |false=>exact⟨D,z,B⟩
def IJ{e:E}{T:Tba}{t:Ty}{len:Nat}(R:iO C w G σ.tm a)(h:xa P σ o=some (e,T,t,len)):
  ∃(xs:Tac) (l:Taf),(execOp a.eval o).run P w=.ok (.value (.slice (some ⟨w.heap.size,0,none⟩) len len)) (w.alloc (.cells xs.toArray T))/\e.lt C.N=true/\den C.ρ e=.list l/\l.length=len/\nh t len/\
   0<t.cells.length/\xs.length=len*t.cells.length/\(∀d∈l,Has t d)/\
   (∀(i:Nat) d (j:Nat) v c,l[i]?=some d->d.cells[j]?=some c->xs[i*t.cells.length+j]?=some v->cg w G.S v c):=by
 unfold xa at h;split at h
 .rename_i e' T' t' n' V;obtain⟨rfl,rfl,rfl,rfl⟩:=X3 h;obtain⟨xs,l,r,b,I,h4,h5,h6,h7,Z,K,_⟩:=Cq R (pc:=[]) rfl V;exact⟨xs,l,r,b,I,h4,h5,h6,h7,Z,K⟩
 unfold SK at h;split at h
 .rename_i L u n x m U;split at h
  .rename_i el O;split at h
   .rename_i y k F Q;split at h
    .rename_i X;obtain⟨rfl,J,B,A,z,Y⟩:=X;have z:=Qq z;obtain⟨rfl,rfl,rfl,rfl⟩:=X3 h
     have f:=run_make (P:=P) (w:=w) L el y (.int k 0) O F z u x n n (by omega) (ar _) (by have:(y.bytes:Int)*n<=8*1000:=Int.mul_le_mul (by omega) B (by omega) (by omega);omega) (by omega)
     have g:∀q:Nat,den C.ρ (.V (List.replicate q (E.aZ k 0)))=.list (List.replicate q (D.int k 0)):=fun q=>by rw[gg];simp[den]
     have h0:jX k 0:=by cases k<;>exact⟨by decide,by decide⟩
     refine⟨List.replicate n.toNat (.int k 0),List.replicate n.toNat (.int k 0),?_,?_,g _,by simp,⟨?_,?_⟩,by simp[Ty.cells],by simp[Ty.cells],?_,?_⟩
     .have e1:madeCells (Value.int k 0).cells (n.toNat*y.size)=(List.replicate n.toNat (Value.int k 0)).toArray:=by
       rw[A,bK];unfold madeCells;apply dI;rw[Array.toList_map];apply List.ext_getElem
       .simp
       intro i r b;simp[Value.cells,Nat.mod_one]
      rw[<-e1];unfold execOp;simp only[U,bw];rw[show a.eval (.const (.int u n))=.int u n from rfl,show a.eval (.const (.int x n))=.int x n from rfl,f];rfl
     .rw[rY];intro e W;rw[fB W];rfl
     .have K:(16777216:Nat)<=maxLen:=by decide
      omega
     .have:(Ty.int k).bytes<=8:=by cases k<;>decide
      have:n.toNat*(Ty.int k).bytes<=1000*8:=Nat.mul_le_mul (by omega) this;omega
     .intro d H;rw[fB H];exact⟨0,rfl,h0⟩
     intro i d j v c r b I;have H:=fB (bQ r);subst H;have M:=fB (bQ I);subst M;cases j with
     |zero=>simp[D.cells]at b;subst b;exact .int _ _
     |succ j=>simp[D.cells]at b
    cases h
   cases h
  cases h
 cases h
def D4{ops:Tad}{e:jh}(q:gQ n w0 S0 C G σ a w)(X:¬C.M p)(hg:guardOf ops σ o=some [])(h:Qb P σ p o=some e)(L:∀d,o.dst=some d->d<n)(a0:¬S0.fr)(Z:¬S0.wz):
  fY P n w0 S0 C (e.app σ) p ops a w o:=by
 unfold Qb at h;split at h
 .rename_i O T t len hl;injection h with h;subst h;intro K Q hK;obtain⟨hw,hc⟩:=gE q.t hg;rw[hw,if_pos (show bc C.ρ []=true from rfl)];obtain⟨U,l,E,J,z,F,r,a2,A,N,hr⟩:=IJ q.t hl;unfold Oper.wp;rw[E];let R:Gh:={S:=G.S,β:=G.β,τ:=fun g=>if g.1=p then .slice (some ⟨w.heap.size,0,none⟩) len len else G.τ g};have B:∀b o,G.S b o->(w.alloc (.cells U.toArray T)).cell? ⟨b,o,none⟩=w.cell? ⟨b,o,none⟩:=fun b o W=>World.cell?_alloc_lt w _ _ (q.m.dT b o W);have I:Has (.list t) (den C.ρ O):=by rw[z];exact bO.2 ⟨l,rfl,by rw[F];exact r,N⟩
  have Y:jg (C.add p) (w.alloc (.cells U.toArray T)) w.heap.size R (p,1000) O T t:=by
   refine⟨.inr rfl,J,I,U,l,z,?_,?_,?_⟩
   .show(w.alloc _).ownsRow _ _ _ (if p=p then _ else _) _ _;rw[if_pos rfl,F];exact⟨A,.inr ⟨w.heap.size,len,U.toArray,rfl,aU _,heap_alloc_new w _,aU _,r.1,by simpa using A,by simp[<-A]⟩⟩
   .intro b hb o;have a3:b=w.heap.size:=by simp[R,Value.ownBlock]at hb;exact hb.symm
    constructor
    .intro h;have:=q.m.dT b o h;omega
    intro ho;exact Bool.noConfusion ho.1
   intro i d j v c h1 h2 h3;exact(hr i d j v c h1 h2 h3).keep (fun _ _ h=>h) B
  have u:∀j x,fx σ.live [((p,1000),some (O,T,t))] (p,j)=some x->j=1000:=by
   intro j x f;simp only[fx,lk]at f;by_cases D:(p,j)=(p,1000)
   .simpa using D
   rw[if_neg D]at f;exact absurd rfl (gC q.m X f)
  obtain⟨H,hm⟩:=q.m.called X (S':=R.S) (τ':=fun _=>.slice (some ⟨w.heap.size,0,none⟩) len len) ((Below.refl _ _).alloc (aU _) _) (fun _ _ h=>h)
   (by intro b o h;have:=q.m.dT b o h;simp;omega)
   (fun b o h=>.inl h)
   (fx σ.live [((p,1000),some (O,T,t))]) R rfl
   (by
    intro g x f;simp only[fx,lk]at f;by_cases D:g=(p,1000)
    .rw[if_pos D]at f;simp only[aa]at f;subst f;subst D;exact .inr ⟨rfl,Y⟩
    rw[if_neg D]at f;exact .inl ⟨gC q.m X f,f⟩)
   (by intro j k x y b f hy _ _;rw[u j x f,u k y hy])
   (fun a1=>absurd a1 a0) Z
  refine hK _ _ _ (q.step (o:=o) (e:=⟨o.dst,([],.one (.xo (p,1000) t)),[],[((p,1000),some (O,T,t))],[],[]⟩) H (hm.congr (eh _) rfl) rfl rfl hc ?_ L);intro _;simp only[bc,bX,if_true];have V:R.τ (p,1000)=.slice (some ⟨w.heap.size,0,none⟩) len len:=if_pos rfl;exact⟨.inr rfl,V.symm,_,_,_,rfl⟩
 cases h
def xF{ops:Tad}{e:jh}(y:gQ n w0 S0 C G σ a w)(c:rZ P cs ops σ p o=some e)(D:¬C.M p)(I:p<C.N)(A:∀k sig,lk cs.l k=some sig->bu P k sig (Pre k) (Φ k))(r:e.tW.2.lt C.N=true)(u:∀it∈e.items,fc C Φ Pre it)(i:∀d,o.dst=some d->d<n)(v:S0.fr->∀pc,guardOf ops σ o=some pc->vq P cs σ pc o=true)(F:S0.wz->Hq o.op<3)(Z:Hf P cs S0 Φ Pre):fY P n w0 S0 C (e.app σ) p ops a w o:=by
 unfold rZ at c;split at c
 .cases c
 rename_i pc q;split at c
 .split at c
  .rename_i l E;split at c
   .rename_i J;obtain⟨rfl,H⟩:=J;injection c with c;subst c;exact Gd y D q E H i
   cases c
  cases c
 .split at c
  .rename_i id l E;split at c
   .rename_i J;obtain⟨rfl,H,hd⟩:=J;injection c with c;subst c;exact BH y q E H hd
   cases c
  cases c
 .split at c
  .rename_i Y t fz V;injection c with c;subst c;exact IF y q V (by simpa [SV.lt,SC.lt]using r) i
  cases c
 .rename_i R;have m:¬S0.wz:=fun L=>by have:=F L;omega
  split at c
  .rename_i k Y sig J;injection c with c;subst c;exact D6 y D I q J A (u _ (by simp)) r i _ (fun j=>v j _ q) m
  split at c
  .rename_i x B;split at c
   .rename_i z;subst z;injection c with c;subst c;refine pO y D I q rfl B A (u _ (by simp[oZ.CX])) r i (fun j=>?_) m;have X:=v j _ q;unfold iQ at B;split at B
    .rename_i f a0 K ho;split at B
     .rename_i fe k' V;split at B
      .rename_i sig O;split at B
       .rename_i ob Q;unfold vq at X
        have h2:BY cs o.dst k'=some sig:=by unfold BY;rw[O];simp[Q]
        simp only[ho,V,h2,Q,aT]at X;simp at X
       cases B
      cases B
     cases B
    cases B
   cases c
  split at c
  .rename_i k Y sig rd E;split at c
   .rename_i J;have a1:=J;injection c with c;subst c;exact BJ y D I q E A (u _ (by simp)) r i _ (fun j=>by have:=Z.1 j;omega) m
   cases c
  cases c
 .rename_i R;have m:¬S0.wz:=fun L=>by have:=F L;omega
  split at c
  .rename_i e1 e2 T t b W;split at c
   .rename_i z;subst z;injection c with c;subst c;exact yM y D q W (u _ (by simp)) (u _ (by simp)) i _ (fun j=>v j _ q) m
   cases c
  split at c
  .rename_i g e1 e2 T t b W;split at c
   .rename_i z;subst z;injection c with c;subst c;exact Bp y D q W (u _ (by simp)) i _ (fun j=>v j _ q) m
   cases c
  cases c
 .rename_i R;have m:¬S0.wz:=fun L=>by have:=F L;omega
  split at c
  .rename_i Y T t len E;split at c
   .rename_i U;injection c with c;subst c;have:=xY (p:=p) y D q E true (fun _=>by simpa using U) (by simpa [SV.lt,SC.lt]using r) i (fun j=>v j _ q) m;simpa using this
   injection c with c;subst c;have:=xY (p:=p) y D q E false (fun h=>by cases h) (by simpa [SV.lt,SC.lt]using r) i (fun j=>v j _ q) m;simpa using this
  cases c
 split at c
 .rename_i s is rd S;injection c with c;subst c;exact BI y q S r u i Z.prog
 cases c
def PE{ops:Tad}{e:jh}(q:gQ n w0 S0 C G σ a w)(c:B7 P cs ops σ p o=some e)(u:¬C.M p)(t:p<C.N)(h:∀k r,lk cs.l k=some r->bu P k r (Pre k) (Φ k))(f:e.tW.2.lt C.N=true)(m:∀y∈e.items,fc C Φ Pre y)(b:∀d,o.dst=some d->d<n)(j:¬S0.fr)(i:¬S0.wz)(A:Hf P cs S0 Φ Pre):fY P n w0 S0 C (e.app σ) p ops a w o:=by
 unfold B7 at c;split at c
 .rename_i k g B;have x:guardOf ops σ o=some []:=by unfold guardOf;rw[g]
  unfold MI at c;split at c
  .exact Bn q g c
  .exact D5 q g c f b
  .exact Bo q g c m f b
  .exact D4 q u x c b j i
  exact BG q u t x c h m f b j i
 exact xF q c u t h f m b (fun v=>absurd v j) (fun z=>absurd z i) A
def za(P:Tap)(cs:ni)(σ:St)(o:Tbc):Tao dL:=
 match o.op with
 |.call {callee:=.value f,.. }=>
  match gp P σ [] f 0 with
  |some (.one (.gH _ (.fn k .nil)))=>lk cs.l k
  |_=>none
 |_=>none
def MA(cs:ni)(o:Tbc):Tao (Nat×dL×Ty):=
 match o.op,o.guard with
 |.call {callee:=.value (.func k),.. },none=>match lk cs.et k with
  |some sg=>sg.nn.map fun y=>(k,y)
  |none=>none
 |_,_=>none
def Yd(P:Tap)(σ:St)(o:Tbc)(y:Nat×dL×Ty):Tao oZ:=
 match iQ P ⟨[(y.1,y.2.1)],[],0,[],[]⟩ σ [] o with
 |some x=>if x.k=y.1/\x.ob.new=true/\x.ob.cH=[]/\x.ids=[]/\x.own=[] then some x else none
 |none=>none
def KE(p:Nat):E:=.un .zr (.un (.cell 0) (.var p))
def xQ(x:oZ)(t:Ty)(p:Nat)(dst:Tak):Bool->jh
 |true=>{x.CX p dst with items:=[.Ju [(KE p,false)] true,.call p x.k x.args []]}
 |false=>⟨dst,([],.one (.gH .gI t)),[],[],[],[.Ju [(KE p,true)] true,.call p x.k x.args []]⟩
def ku(d:Tao Bool)(P:Tap)(cs:ni)(ops:Tad)(σ:St)(p:Nat)(o:Tbc):Tao jh:=
 match d,MA cs o with
 |none,_=>xg P cs ops σ p o
 |some b,some y=>if cs.fr !=0 then none else match y.2.2 with
  |.ptr fs=>(Yd P σ o y).map fun x=>xQ x (.ptr fs) p o.dst b
  |_=>none
 |some true,none=>if cs.fr !=0 then none else match guardOf ops σ o with
  |some pc=>match iQ P cs σ pc o with
   |some x=>some {x.CX p o.dst with items:=[.Ju pc true,.call p x.k x.args []]}
   |none=>none
  |none=>none
 |some false,none=>match guardOf ops σ o,za P cs σ o with
  |some pc,some sig=>some ⟨o.dst,(pc,uL false p (.un (.cell 0) (.var p)) sig.res),[],[],[],[.Ju pc false]⟩
  |_,_=>none
def OA{y:Nat×dL×Ty}{x:oZ}(h:Yd P σ o y=some x):iQ P ⟨[(y.1,y.2.1)],[],0,[],[]⟩ σ [] o=some x/\x.k=y.1/\x.ob.new=true/\x.ob.cH=[]/\x.ids=[]/\x.own=[]:=by
 unfold Yd at h;split at h
 .rename_i d b;split at h
  .rename_i c;injection h with h;subst h;exact⟨b,c⟩
  cases h
 cases h
def Rg{y:Nat×dL×Ty}(h:MA cs o=some y):o.guard=none/\(∃args argTypes,o.op=.call {callee:=.value (.func y.1),args,argTypes})/\∃b,lk cs.et y.1=some b/\b.nn=some y.2:=by
 unfold MA at h;split at h
 .rename_i k args argTypes e f;split at h
  .rename_i b c;simp only[dn]at h;obtain⟨z,d,rfl⟩:=h;exact⟨f,⟨_,_,e⟩,b,c,d⟩
  cases h
 cases h
def OC{c β:Type}[DecidableEq c]{a k:c}{b v:β}(h:lk [(a,b)] k=some v):k=a/\v=b:=by
 simp only[lk]at h;split at h
 .injection h with h;exact⟨by assumption,h.symm⟩
 cases h
def IE{ops:Tad}{y:Nat×dL×Ty}{x:oZ}{fs:Ty}{b:Bool}(I:gQ n w0 S0 C G σ a w)(hp:¬C.M p)(b8:p<C.N)(hy:MA cs o=some y)(hx:Yd P σ o y=some x)(a7:(xQ x (.ptr fs) p o.dst b).tW.2.lt C.N=true)(R:∀it∈(xQ x (.ptr fs) p o.dst b).items,fc C Φ Pre it)(L:∀d,o.dst=some d->d<n)(d3:Hf P cs S0 Φ Pre)(a5:¬S0.fr)(a4:¬S0.wz):
  fY P n w0 S0 C ((xQ x (.ptr fs) p o.dst b).app σ) p ops a w o:=by
 obtain⟨c7,⟨q,Z,ho⟩,sg,b7,c0⟩:=Rg hy;obtain⟨f,hk,a6,c,H,a3⟩:=OA hx;have hN:=d3.nn _ _ _ _ b7 c0;have hg:guardOf ops σ o=some []:=by unfold guardOf;rw[c7]
 have b5:bc C.ρ [(KE p,!b)]=true:=by
  cases b with
  |true=>exact R (.Ju [(KE p,false)] true) (by simp[xQ])
  |false=>exact R (.Ju [(KE p,true)] true) (by simp[xQ])
 have A:fc C Φ Pre (.call p x.k x.args []):=R _ (by cases b<;>simp[xQ])
 have B:((Φ x.k (den C.ρ x.args).A).A.getD 0 .top).iV= !b:=by obtain⟨_,_,h3,_⟩:=A;have h4:C.ρ p=Φ x.k (den C.ρ x.args).A:=h3;rw[<-h4];simpa [bc,KE,den,U.den,D.W]using b5
 cases b with
 |true=>
  refine pO (cs:=⟨[(y.1,y.2.1)],[],0,[],[]⟩) (Φ:=Φ) (Pre:=fun k ds=>Pre k ds/\((Φ k ds).A.getD 0 .top).iV=false) I hp b8 hg rfl f ?_ ?_ a7 L a5 a4
  .intro k' d6 hl;obtain⟨rfl,rfl⟩:=OC hl;exact hN.new
  obtain⟨c1,c2,c3,c4⟩:=A;exact⟨c1,c2,c3,fun hc=>⟨c4 hc,B⟩⟩
 |false=>
  intro K Q hK;obtain⟨hw,hc⟩:=gE I.t hg;rw[hw,if_pos (show bc C.ρ []=true from rfl)];unfold iQ at f;simp only[ho]at f;split at f
  .rename_i fe k' hf;split at f
   .rename_i d8 a0;obtain⟨rfl,rfl⟩:=OC a0;split at f
    .rename_i ob b9;split at f
     .rename_i es J d2;split at f
      .rename_i d4 l v;split at f
       .rename_i b4;injection f with f;subst f;simp only at c H a3 B hk a6;obtain⟨b6,_,_,_,_,_,_,d7,_,_⟩:=b4;obtain⟨f1,f2,f3⟩:=df I.t (pc:=[]) rfl hf;obtain⟨fl,d0,d1⟩:=lz.1 f3;have b0:fl=[]:=dy.1 d1;subst b0;obtain⟨d5,c9,X,_⟩:=(d0▸f2).xf;have b3:d5=[]:=au X;subst b3
        have T:J=[]:=by
         cases J with
         |nil=>rfl
         |cons i r=>
          have:=CA (σ:=σ) (ob:=ob) (ids:=i::r) (i:=0) (id:=i) rfl;rw[H]at this;cases this
        subst T
        have b1:d4=[]:=by rw[H,c]at v;simp only[ug,aa,ah]at v;exact v.1.symm
        subst b1;obtain⟨Y,W⟩:=wo (k:=0) (β:=G.β) I.t (pc:=[]) rfl d2 (fun i id V=>by simp at V)
        have b2:(den C.ρ (.V (es.map (·.1)++([]:List (List E)).flatten))).A=(es.map fun x=>den C.ρ x.1)++([]:List (Taf)).flatten:=by rw[gg];simp only[D.A,ck,List.map_map,List.flatten_nil,List.map_nil,dh];rfl
        obtain⟨_,_,_,a2⟩:=A;have F:=a2 rfl;rw[b2]at F B
        have c6:Cb w G.S ob G.β (fun _=>.nilIface) (q.toList.map a.eval) (es.map fun x=>den C.ρ x.1) []:=by
         refine⟨I.m.dT,Y,by rw[c];rfl,?_,?_,?_,?_,?_⟩
         .intro o rc cells V;rw[c]at V;simp at V
         .intro i j V;rw[c]at V;simp at V
         .intro j k b O;unfold Ob.jH at O;rw[c]at O;simp at O
         .intro j o b O;unfold Ob.jH at O;rw[c]at O;simp at O
         intro hh;rw[c]at hh;simp at hh
        have a9:dx (.V y.2.1.params) ((es.map fun x=>den C.ρ x.1)++([]:List (Taf)).flatten):=by rw[<-b6,c];simpa using W
        have a1:(execOp a.eval o).run P w=.ok (.enter y.1 (q.toList.map a.eval).toArray) w:=by
         have e1:(q.toList.map a.eval).toArray=q.map a.eval:=by apply dI;simp
         unfold execOp;simp only[ho,resolve,c9,Deferred.ofValue,e1];have:=hN.new.enter (q.map a.eval) w;simpa [invoke]using this
        unfold Oper.wp;rw[a1];refine(hN.nil ob b9 w G.S G.β (fun _=>.nilIface) _ _ _ c6 a9 F B).mono ?_;rintro e' w' ⟨rfl,yI⟩;simp only
        obtain⟨a8,hm⟩:=I.m.called hp (S':=G.S) (τ':=fun _=>.nilIface) yI (fun _ _ h=>h) (fun b o hb=>az (I.m.dT b o hb) yI.size) (fun _ _ h=>.inl h) σ.live _ rfl
         (fun g z hz=>.inl ⟨fun e=>hp (by rw[<-e];exact(I.m.own g z.1 z.2.1 z.2.2 hz).m),hz⟩) (fun j k z u b hz=>absurd ((I.m.own (p,j) z.1 z.2.1 z.2.2 hz).m) hp) (fun h=>absurd h a5) a4
        refine hK _ _ _ (I.step (o:=o) (e:=xQ _ (.ptr fs) p o.dst false) a8 (hm.congr (eh _) (eh _)) rfl a7 (by intro x hx;cases hx) ?_ L);intro _;refine(if_pos (show bc C.ρ ([]:dM)=true from rfl)).mpr ?_;exact⟨rfl,.gI,kJ.2 (.inl rfl)⟩
       cases f
      cases f
     cases f
    cases f
   cases f
  cases f
def xE{d:Tao Bool}{ops:Tad}{e:jh}(v:gQ n w0 S0 C G σ a w)(c:ku d P cs ops σ p o=some e)(B:¬C.M p)(r:p<C.N)(j:∀k z,lk cs.l k=some z->bu P k z (Pre k) (Φ k))(q:e.tW.2.lt C.N=true)(i:∀O∈e.items,fc C Φ Pre O)(h:∀d,o.dst=some d->d<n)(g:Hf P cs S0 Φ Pre):fY P n w0 S0 C (e.app σ) p ops a w o:=by
 unfold ku at c;split at c
 .unfold xg at c;split at c
  .rename_i E;exact PE v c B r j q i h (fun f=>by have:=g.1 f;omega) (fun f=>by have:=g.2 f;omega) g
  .rename_i E;split at c
   .rename_i pc D;split at c
    .rename_i H;exact xF v c B r j q i h (fun _ L u=>by rw[D]at u;injection u with u;subst u;exact H) (fun f=>by have:=g.2 f;omega) g
    cases c
   cases c
  rename_i V I;split at c
  .rename_i T;exact xF v c B r j q i h (fun f=>absurd (g.1 f) I) (fun _=>T) g
  cases c
 .rename_i b y R;split at c
  .cases c
  rename_i E;have J:cs.fr=0:=by simpa using E
  split at c
  .rename_i Y U;simp only[dn]at c;obtain⟨x,F,rfl⟩:=c;exact IE v B r R F q i h g (fun f=>by have:=g.1 f;omega) (fun f=>by have:=g.2 f;omega)
  cases c
 .split at c
  .cases c
  rename_i E;have J:cs.fr=0:=by simpa using E
  split at c
  .rename_i pc D;split at c
   .rename_i x F;injection c with c;subst c;exact pO v B r D (i (.Ju pc true) (by simp)) F j (i _ (by simp)) q h (fun f=>by have:=g.1 f;omega) (fun f=>by have:=g.2 f;omega)
   cases c
  cases c
 split at c
 .rename_i pc z D F;injection c with c;subst c;intro K Q X;obtain⟨S,W⟩:=gE v.t D;have A:bc C.ρ pc=false:=i (.Ju pc false) (by simp);rw[S,A];simp only[aj,if_false];refine X _ _ _ (v.step (o:=o) (dS.pH C w G p) ((v.m.pH p).congr (eh _) (eh _)) rfl q W (by intro _;simp only[A,aj,if_false]) h)
 cases c
end
section
variable{P:Tap}{σ σ':St}{o:Tbc}{pc:dM}
def hY(P:Tap)(σ σ':St)(xs:List Tbb):Prop:=∀x∈xs,∀(q:dM) (a:Tba),gp P σ' q x a=gp P σ q x a
def Rr{t:Nat}(h:σ'.tm t=σ.tm t)(q:dM)(hint:Tba):gp P σ' q (.tmp t) hint=gp P σ q (.tmp t) hint:=by simp only[gp,BB,h]
def tG{xs:List Tbb}(h:∀t,Operand.tmp t∈xs->σ'.tm t=σ.tm t):hY P σ σ' xs:=by
 intro x b q a;cases x with
 |tmp t=>exact Rr (h t b) q a
 |const v=>cases v<;>simp only[gp,BB]
 |global g=>simp only[gp,BB]
 |func f=>simp only[gp,BB]
def hY.d{xs:List Tbb}(h:hY P σ σ' xs){x:Tbb}(a:x∈xs)(q:dM)(hint:Tba):fA P σ' q x hint=fA P σ q x hint:=by unfold fA;rw[h x a]
def yw:∀{xs:List Tbb} {ts:List Tba},hY P σ σ' xs->xU P σ' pc xs ts=xU P σ pc xs ts
 |[],[],_=>rfl
 |[],_::_,_=>rfl
 |_::_,[],_=>rfl
 |x::xs,t::ts,h=>by simp only[xU];rw[h.d (br ..),yw (fun y a=>h y (aK _ a))]
def kF(a:Nat->Tba):∀{xs:List (Nat×Tbb)},hY P σ σ' (xs.map (·.2))->mw P σ' pc a xs=mw P σ pc a xs
 |[],_=>rfl
 |(i,x)::xs,h=>by simp only[mw];rw[h x (by simp),kF a (fun y b=>h y (by simp only[cM];exact aK _ b))]
def tf:∀{xs:List Tbb} {es:List (E×Ty)} {b:List (Nat×List SC)},hY P σ σ' xs->rU P σ pc xs=some (es,b)->(∀x∈b,σ'.hp x.1=σ.hp x.1)->rU P σ' pc xs=some (es,b)
 |[],es,b,_,h,_=>h
 |x::xs,es,b,hs,h,hhp=>by
  simp only[rU]at h⊢;rw[hs x (br ..)];have a:hY P σ σ' xs:=fun y c=>hs y (aK _ c);split at h
  .rename_i id k j g d;split at h
   .rename_i n l f;split at h
    .rename_i q m i;obtain⟨rfl,rfl⟩:=iP h;rw[tf a d (fun y c=>hhp y (aK _ c))];simp only[g];rw[hhp (id,l) (by simp)];simp only[f,i]
    cases h
   cases h
  .rename_i e p k j g d;obtain⟨rfl,rfl⟩:=iP h;rw[tf a d hhp];simp only[g]
  cases h
def BM{pl:Pl}{u:Tah}(b:hY P σ σ' o.op.operands.toList)(h:qI P σ pc o=some (pl,u))(E:∀id∈u,σ'.hp id=σ.hp id):qI P σ' pc o=some (pl,u):=by
 have e:∀{x:Tao Pl} {y:Tao Pl},y=x->x.map (·,([]:Tah))=some (pl,u)->y.map (·,([]:Tah))=some (pl,u):=fun g p=>g▸p;unfold qI at h⊢;split at h
 .rename_i t x a;rw[a]at b
  try simp only[a]
  unfold Dg at h⊢;simp only[a]at h⊢;rw[b x (by simp[Op.operands])];split at h
  .cases h
  rename_i O;rw[if_neg O];split at h
  .rename_i id M n
   try simp only[n]
   split at h
   .rename_i J V B
    have w:u=[id]:=by
     split at h
     .cases h
     split at h
     .split at h
      .split at h
       .injection h with h;simp only[ah]at h;exact h.2.symm
       cases h
      cases h
     split at h
     .injection h with h;simp only[ah]at h;exact h.2.symm
     cases h
    rw[E id (by rw[w];simp),B];exact h
   cases h
  .rename_i n;try simp only[n]
   exact h
  .rename_i n;try simp only[n]
   exact h
  .rename_i n;try simp only[n]
   exact h
  cases h
 .rename_i x a;rw[a]at b;try simp only[a]
  refine e ?_ h;unfold zA;simp only[a];rw[b x (by simp[Op.operands])]
 .rename_i x a;rw[a]at b;try simp only[a]
  refine e ?_ h;unfold zA;simp only[a];rw[b x (by simp[Op.operands])]
 .rename_i c x y a;rw[a]at b;try simp only[a]
  refine e ?_ h;unfold De;simp only[a];rw[b.d (x:=c) (by simp[Op.operands])];have g:=fun q hint=>b.d (x:=x) (by simp[Op.operands]) q hint;have p:=fun q hint=>b.d (x:=y) (by simp[Op.operands]) q hint;simp only[g,p]
 .rename_i op I x y W a;rw[a]at b;try simp only[a]
  refine e ?_ h;unfold Dh wm JJ;simp only[a];rw[b.d (x:=x) (by simp[Op.operands]),b.d (x:=y) (by simp[Op.operands]),b x (by simp[Op.operands])]
 .rename_i op I x a;rw[a]at b;try simp only[a]
  refine e ?_ h;have g:=fun q hint=>b.d (x:=x) (by simp[Op.operands]) q hint;unfold Mw;simp only[a];cases op<;>simp only[g]
 .rename_i s d x a;rw[a]at b;try simp only[a]
  refine e ?_ h;unfold Mw;simp only[a];rw[b.d (x:=x) (by simp[Op.operands])]
 .rename_i x j a;rw[a]at b;try simp only[a]
  refine e ?_ h;unfold tK;simp only[a];rw[b x (by simp[Op.operands])]
 .rename_i t x f a;rw[a]at b;try simp only[a]
  refine e ?_ h;unfold py;simp only[a];rw[b x (by simp[Op.operands])]
 .rename_i t x f a;rw[a]at b;try simp only[a]
  refine e ?_ h;unfold zb;simp only[a];rw[b x (by simp[Op.operands])]
 .rename_i t x i a;rw[a]at b;try simp only[a]
  refine e ?_ h;have g:=fun q hint=>b x (by simp[Op.operands]) q hint;have p:=fun q hint=>b.d (x:=x) (by simp[Op.operands]) q hint;have C:=fun q hint=>b.d (x:=i) (by simp[Op.operands]) q hint
  have U:nH P σ' pc o=nH P σ pc o:=by unfold nH;simp only[a];rw[p,C]
  have R:lh P σ' pc o=lh P σ pc o:=by unfold lh;simp only[a];rw[g,C]
  have S:mg P σ' pc o=mg P σ pc o:=by
   unfold mg;simp only[a];split
   .rename_i G;injection G with L K X;subst L;subst K;rw[g]
   rfl
  unfold px;rw[U,S,R]
 .rename_i x a;rw[a]at b;try simp only[a]
  refine e ?_ h;unfold JI;simp only[a];rw[b x (by simp[Op.operands])]
 .rename_i t x F D a;rw[a]at b;try simp only[a]
  refine e ?_ h;unfold y9;simp only[a];have g:=fun q hint=>b.d (x:=x) (by simp[Op.operands]) q hint;have p:=fun y (r:y∈F.toArray) q hint=>b.d (x:=y) (by simp[Op.operands]at r⊢;simp[r]) q hint;have C:=fun y (r:y∈D.toArray) q hint=>b.d (x:=y) (by simp[Op.operands]at r⊢;simp[r]) q hint;cases F with
  |none=>cases D with
   |none=>simp only[g]
   |some y=>simp only[g,C y (by simp)]
  |some z=>cases D with
   |none=>simp only[g,p z (by simp)]
   |some y=>simp only[g,C y (by simp),p z (by simp)]
 .rename_i t x F D N H a;rw[a]at b;try simp only[a]
  cases N with
  |none=>exact absurd rfl H
  |some m=>
   refine e ?_ h;unfold v8;simp only[a];have g:=fun q hint=>b.d (x:=x) (by simp[Op.operands]) q hint;have C:=fun y (r:y∈D.toArray) q hint=>b.d (x:=y) (by simp[Op.operands]at r⊢;simp[r]) q hint;have Q:=fun q hint=>b.d (x:=m) (by simp[Op.operands]) q hint;cases F with
   |some z=>rfl
   |none=>cases D with
    |none=>rfl
    |some y=>simp only[g,C y (by simp),Q]
 .rename_i t v a;rw[a]at b;try simp only[a]
  refine e ?_ h;unfold zc;simp only[a];have g:=fun hint=>kF (P:=P) (σ:=σ) (σ':=σ') (pc:=pc) hint (xs:=v.toList) (by simpa [Op.operands]using b);simp only[g]
 .rename_i T m x ok a;rw[a]at b;try simp only[a]
  unfold Df at h⊢;simp only[a]at h⊢;cases ok with
  |true=>cases h
  |false=>
   simp only at h⊢;rw[b m (by simp[Op.operands]),b.d (x:=x) (by simp[Op.operands])];split at h
   .rename_i id Z Y g p
    try simp only[g,p]
    split at h
    .rename_i J V B
     have w:u=[id]:=by
      split at h
      .split at h
       .injection h with h;simp only[ah]at h;exact h.2.symm
       cases h
      cases h
     rw[E id (by rw[w];simp),B];exact h
    cases h
   cases h
 .rename_i l k a;rw[a]at b;have g:∀x∈l.toList,∀q hint,fA P σ' q x hint=fA P σ q x hint:=fun x n q hint=>b.d (by simp[Op.operands,Call.operands];simpa using n) q hint;refine e ?_ h;unfold B0;simp only[a];split
  .rename_i x t A _;rw[g x (by rw[A];simp)]
  rfl
 .rename_i l k a;rw[a]at b;have g:∀x∈l.toList,∀q hint,fA P σ' q x hint=fA P σ q x hint:=fun x n q hint=>b.d (by simp[Op.operands,Call.operands];simpa using n) q hint;refine e ?_ h;unfold B0;simp only[a];split
  .rename_i x y A;rw[g x (by rw[A];simp),g y (by rw[A];simp)]
  rfl
 .rename_i l k a;rw[a]at b;have g:∀x∈l.toList,∀q hint,fA P σ' q x hint=fA P σ q x hint:=fun x n q hint=>b.d (by simp[Op.operands,Call.operands];simpa using n) q hint;refine e ?_ h;unfold B0;simp only[a];split
  .rename_i x y A;rw[g x (by rw[A];simp),g y (by rw[A];simp)]
  rfl
 cases h
def mC{ops:Tad}(h:∀t,t∈o.looksAt ops->σ'.tm t=σ.tm t):guardOf ops σ' o=guardOf ops σ o:=by
 unfold guardOf;split
 .rfl
 rename_i j a c;split
 .rename_i t b;rw[h t (by unfold Oper.looksAt;rw[c];simp only[b];simp)]
 rfl
def BK{r:bF}{c:SC}{e:E}{l:lj}(h:jC σ r c=some (e,l))(i:∀j g,(j,some g)∈l->σ'.live g=σ.live g):jC σ' r c=some (e,l):=by
 obtain⟨t,_|⟨f,T⟩⟩:=r
 .exact h
 simp only[jC]at h⊢;split at h
 .exact h
 .rename_i g p k;split at h
  .rename_i m n b a;split at h
   .rename_i d;obtain⟨rfl,rfl⟩:=iP h;rw[i f g (by simp),a];simp only[d,and_self,if_true]
   cases h
  cases h
 .rename_i g k;split at h
  .rename_i m n b a;split at h
   .rename_i d;obtain⟨rfl,rfl⟩:=iP h;rw[i f g (by simp),a];simp only[d,and_self,if_true]
   cases h
  cases h
 cases h
def tg:∀{a:List bF} {cs:List SC} {es:List E} {l:lj},gy σ a cs=some (es,l)->(∀j g,(j,some g)∈l->σ'.live g=σ.live g)->gy σ' a cs=some (es,l)
 |[],[],es,l,h,_=>h
 |[],_::_,_,_,h,_=>by cases h
 |_::_,[],_,_,h,_=>by cases h
 |r::a,c::cs,es,l,h,hl=>by
  simp only[gy]at h⊢;split at h
  .rename_i e d;obtain⟨rfl,rfl⟩:=iP h;rw[BK e (fun j g b=>hl j g (aG _ b)),tg d (fun j g b=>hl j g (bC _ b))]
  cases h
def yb:∀{rcs:List (List bF)} {ids:Tah} {a:List (List E)} {l:lj},ug σ rcs ids=some (a,l)->(∀id∈ids,σ'.hp id=σ.hp id)->(∀j g,(j,some g)∈l->σ'.live g=σ.live g)->ug σ' rcs ids=some (a,l)
 |[],[],_,_,h,_,_=>h
 |[],_::_,_,_,h,_,_=>by cases h
 |_::_,[],_,_,h,_,_=>by cases h
 |rc::r,id::ids,a,l,h,hh,hl=>by
  simp only[ug]at h⊢;rw[hh id (by simp)];split at h
  .split at h
   .rename_i e d;obtain⟨rfl,rfl⟩:=iP h;rw[tg e (fun j g b=>hl j g (aG _ b)),yb d (fun id c=>hh id (by simp[c])) (fun j g b=>hl j g (bC _ b))]
   cases h
  cases h
def sV:∀{a:List Bool} {xs:List Tbb} {ts:List Tba},hY P σ σ' xs->lu P σ' pc a xs ts=lu P σ pc a xs ts
 |[],[],[],_=>rfl
 |false::a,x::l,t::ts,hs=>by simp only[lu];rw[hs.d (by simp),sV (fun y c=>hs y (by simp[c]))]
 |true::a,x::l,t::ts,hs=>by simp only[lu];rw[hs x (by simp),sV (fun y c=>hs y (by simp[c]))]
 |[],[],_::_,_=>by simp[lu]
 |[],_::_,ts,_=>by cases ts<;>simp[lu]
 |b::_,[],ts,_=>by cases b<;>cases ts<;>simp[lu]
 |b::_,_::_,[],_=>by cases b<;>simp[lu]
def sW:∀{cs:List SC} {es:List E} {ts:Tal} {ids:Tah},uh σ cs=some (es,ts,ids)->(∀id∈ids,σ'.hp id=σ.hp id)->uh σ' cs=some (es,ts,ids)
 |[],es,ts,ids,h,_=>h
 |c::r,es,ts,ids,h,hh=>by
  simp only[uh]at h⊢;split at h
  .rename_i j g d f;split at h
   .rename_i e t p;obtain⟨rfl,rfl,rfl⟩:=Mi h;rw[sW f hh]
   split at h
   .rename_i id n;split at h
    .rename_i m k a;split at h
     .rename_i q l b;obtain⟨rfl,rfl,rfl⟩:=Mi h;rw[sW f (fun id i=>hh id (by simp[i]))];simp only[hh id (by simp),a,b]
     cases h
    cases h
   cases h
  cases h
def Jo{x:Tbb}{t:Tba}{e:E}{ty:Ty}{ids:Tah}(c:hY P σ σ' [x])(h:KX P σ pc x t=some (e,ty,ids))(f:∀id∈ids,σ'.hp id=σ.hp id):KX P σ' pc x t=some (e,ty,ids):=by
 unfold KX at h⊢;rw[c.d (by simp),c x (by simp)];split at h
 .exact h
 split at h
 .rename_i id n;split at h
  .rename_i m k a;split at h
   .rename_i p l b g;obtain⟨rfl,rfl,rfl⟩:=Mi h;rw[f id (by simp),a];simp only;rw[sW g (fun i j=>f i (by simp[j]))]
   cases h
  cases h
 cases h
def yv:∀{xs:List Tbb} {ts:List Tba} {es:List (E×Ty)} {ids:Tah},hY P σ σ' xs->xT P σ pc xs ts=some (es,ids)->(∀id∈ids,σ'.hp id=σ.hp id)->xT P σ' pc xs ts=some (es,ids)
 |[],[],es,ids,_,h,_=>h
 |x::l,t::ts,es,ids,hs,h,hh=>by
  simp only[xT]at h⊢;split at h
  .rename_i e j k g c f d;obtain⟨rfl,rfl⟩:=iP h;rw[Jo (fun y a=>hs y (by simp at a;simp[a])) f (fun i b=>hh i (aG _ b)),yv (fun y a=>hs y (by simp[a])) d (fun i b=>hh i (bC _ b))]
  cases h
 |[],_::_,_,_,_,h,_=>by cases h
 |_::_,[],_,_,_,h,_=>by cases h
def BN{cs:ni}{k:Nat}{e:E}{b:dL}{g:Tah}(m:hY P σ σ' o.op.operands.toList)(h:pg P cs σ pc o=some (k,e,b,g))(q:∀id∈g,σ'.hp id=σ.hp id):pg P cs σ' pc o=some (k,e,b,g):=by
 unfold pg at h⊢;split at h
 .rename_i f n a i
  try simp only[i]
  rw[m f (by rw[i];simp[Op.operands,Call.operands])];split at h
  .rename_i u t v ids r j;split at h
   .rename_i l c;split at h
    .rename_i d;obtain⟨rfl,s,rfl,rfl⟩:=X3 h;simp only[r];rw[yv (fun x p=>m x (by rw[i];simp[Op.operands,Call.operands];right;simpa using p)) j q];simp only[c];rw[if_pos d,s]
    cases h
   cases h
  cases h
 cases h
def Ef{cs:ni}{k:Nat}{e:E}{i:dL}{m:Tah}(n:hY P σ σ' o.op.operands.toList)(h:pg P cs σ pc o=some (k,e,i,m)):iQ P cs σ' [] o=none:=by
 unfold pg at h;split at h
 .rename_i f l a j;split at h
  .rename_i s r t ids p q;split at h
   .rename_i b c;split at h
    .rename_i g;unfold iQ;simp only[j];rw[n f (by rw[j];simp[Op.operands,Call.operands])];simp only[p,c];have d:=g.1;cases hq:b.ob with
     |none=>rfl
     |some ob=>rw[hq]at d;cases d
    cases h
   cases h
  cases h
 cases h
def Gu{ob:Ob}{ids:Tah}(b:∀id∈nX σ ob ids,σ'.hp id=σ.hp id):nX σ' ob ids=nX σ ob ids:=by
 have d:∀id r,ids=id::r->σ'.hp id=σ.hp id:=by
  intro id r c;refine b id ?_;subst c;unfold nX;split
  .split
   .rename_i e a;simp only[eI]at a;obtain⟨rfl,rfl⟩:=a;split<;>simp
   simp
  simp
 unfold nX;split
 .split
  .rw[d _ _ rfl]
  rfl
 rfl
def Ba:∀{rcs:List (List bF)} {ids:Tah} {lk:Tak},(∀id∈ids,σ'.hp id=σ.hp id)->yH σ' rcs ids lk=yH σ rcs ids lk
 |[],_,_,_=>by simp[yH]
 |_::_,[],_,_=>by simp[yH]
 |rc::r,id::ids,none,_=>by simp[yH]
 |rc::r,id::ids,some l,h=>by simp only[yH];rw[h id (by simp),Ba (rcs:=r) (ids:=ids) (fun i a=>h i (by simp[a]))]
def pT{cs:ni}{x:oZ}(n:hY P σ σ' o.op.operands.toList)(h:iQ P cs σ pc o=some x)(k:∀id∈x.ids,σ'.hp id=σ.hp id)(s:∀j g,(j,some g)∈x.own->σ'.live g=σ.live g):
  iQ P cs σ' pc o=some x:=by
 unfold iQ at h⊢;split at h
 .rename_i f p b i
  try simp only[i]
  rw[n f (by rw[i];simp[Op.operands,Call.operands])];split at h
  .rename_i y w t
   try simp only[t]
   split at h
   .rename_i q c
    try simp only[c]
    split at h
    .rename_i v e
     try simp only[e]
     rw[sV (fun x r=>n x (by rw[i];simp[Op.operands,Call.operands];right;simpa using r))];split at h
     .rename_i z ids m
      try simp only[m]
      split at h
      .rename_i u l a;split at h
       .rename_i d;injection h with h;subst h;rw[Gu k,yb a k s];simp only;rw[Ba k];exact if_pos d
       cases h
      cases h
     cases h
    cases h
   cases h
  cases h
 cases h
def yP(e:hY P σ σ' o.op.operands.toList):nI P σ' o=nI P σ o:=by
 unfold nI;split
 .rename_i b c f;split
  .rename_i s x k h a g
   have j:s∈o.op.operands.toList:=by rw[f];simp[Op.operands,Call.operands];have:s∈b.toList:=by rw[a];simp
                                     simpa using this
   have i:x∈o.op.operands.toList:=by rw[f];simp[Op.operands,Call.operands];have:x∈b.toList:=by rw[a];simp
                                     simpa using this
   rw[e s j,e.d i]
  rfl
 rfl
def rk{cs:ni}{ops:Tad}{p:Nat}{e:jh}(a:rZ P cs ops σ p o=some e)(G:∀t,t∈o.looksAt ops->σ'.tm t=σ.tm t)(z:∀id∈e.rd,σ'.hp id=σ.hp id)(r:∀x∈e.live,x.2=none->σ'.live x.1=σ.live x.1):rZ P cs ops σ' p o=some e:=by
 have i:hY P σ σ' o.op.operands.toList:=tG fun t ht=>G t (by unfold Oper.looksAt;exact aG _ (bH.2 ⟨.tmp t,ht,rfl⟩))
 unfold rZ at a⊢;rw[mC G];split at a
 .cases a
 rename_i pc hg
 try simp only[hg]
 split at a
 .rename_i w
  have:zo P σ' pc o=zo P σ pc o:=by
   unfold zo;split
   .rfl
   .rename_i t x h;rw[i x (by rw[h];simp[Op.operands])]
   rfl
  try simp only[w]
  rw[this];exact a
 .rename_i w
  try simp only[w]
  split at a
  .rename_i id l m
   have N:id∈e.rd:=by
    split at a
    .injection a with a;subst a;simp
    cases a
   have:vO P σ' pc o=some (id,l):=by
    unfold vO at m⊢;split at m
    .rename_i t x y h
     try simp only[h]
     rw[i x (by rw[h];simp[Op.operands]),i y (by rw[h];simp[Op.operands])];split at m
     .rename_i a4 a3 a7 sz K Y X
      try simp only[K,Y,X]
      split at m
      .rename_i a2 S;split at m
       .rename_i W;obtain⟨rfl,rfl⟩:=iP m;rw[z _ N,S];exact if_pos W
       cases m
      cases m
     cases m
    cases m
   rw[this];exact a
  cases a
 .rename_i w
  try simp only[w]
  split at a
  .rename_i e' t fz C;injection a with a;subst a
   have:Mx P σ' pc o=some (e',t,fz):=by
    unfold Mx at C⊢;split at C
    .rename_i f first F h
     try simp only[h]
     split at C
     .rename_i U;rw[if_pos U];split at C
      .rename_i es a5 E;obtain⟨K,Y,X⟩:=Mi C;subst X;rw[tf (fun x B=>i x (by rw[h];simp[Op.operands];right;simpa using B)) E (fun x B=>z x.1 (by simp only[bq];exact⟨x,B,rfl⟩))];simp only[K,Y]
      cases C
     cases C
    cases C
   rw[this]
  cases a
 .rename_i w
  try simp only[w]
  have:xb P cs σ' pc o=xb P cs σ pc o:=by
   unfold xb;split
   .rename_i f A q h;rw[i f (by rw[h];simp[Op.operands,Call.operands]),yw (fun x B=>i x (by rw[h];simp[Op.operands,Call.operands];right;simpa using B))]
   rfl
  rw[this];split at a
  .exact a
  split at a
  .rename_i x B
   have:iQ P cs σ' [] o=some x:=by
    split at a
    .injection a with a;subst a;refine pT i B z (fun j g hm=>r (g,none) ?_ rfl);exact aG _ (aG _ (bH.2 ⟨(j,some g),hm,rfl⟩))
    cases a
   rw[this];exact a
  split at a
  .rename_i k e' a1 Z m
   have I:∀id∈Z,σ'.hp id=σ.hp id:=by
    split at a
    .injection a with a;subst a;exact fun id hi=>z id hi
    cases a
   rw[Ef i m,BN i m I];exact a
  cases a
 .rename_i w
  try simp only[w]
  rw[yP i];split at a
  .exact a
  split at a
  .rename_i g e1 e2 T t b c
   have Q:∀g',g=some g'->σ'.live g'=σ.live g':=by
    rintro g' rfl;split at a
    .injection a with a;subst a;exact r (g',none) (by simp) rfl
    cases a
   have:sj P σ' pc o=some (g,e1,e2,T,t,b):=by
    unfold sj at c⊢;split at c
    .rename_i A q h
     try simp only[h]
     split at c
     .rename_i s x tt a0 n J
      try simp only[n,J]
      have m1:s∈o.op.operands.toList:=by rw[h];simp[Op.operands,Call.operands];have:s∈A.toList:=by rw[n];simp
                                         simpa using this
      have m2:x∈o.op.operands.toList:=by rw[h];simp[Op.operands,Call.operands];have:x∈A.toList:=by rw[n];simp
                                         simpa using this
      rw[i s m1,i.d m2];split at c
      .rename_i el sv ex u hu M B
       try simp only[hu,M,B]
       split at c
       .rename_i ie u' R L
        try simp only[R,L]
        split at c
        .rename_i W;rw[if_pos W];split at c
         .rename_i v;exact c
         .rename_i g0 e0 v;split at c
          .rename_i a6 T' v' m;split at c
           .rename_i V;obtain⟨rfl,rfl,rfl,rfl,rfl,rfl⟩:=zP6 c
            try simp only[]
            rw[Q g0 rfl,m];simp only[V,and_self,if_true]
           cases c
          cases c
         cases c
        cases c
       cases c
      cases c
     cases c
    cases c
   rw[this];exact a
  cases a
 .rename_i w
  try simp only[w]
  have:rC P σ' pc o=rC P σ pc o:=by
   unfold rC;split
   .rename_i t len D h;have K:=fun H=>kF (P:=P) (σ:=σ) (σ':=σ') (pc:=pc) H (xs:=D.toList) (by rw[h]at i;simpa [Op.operands]using i);simp only[K]
   rfl
  rw[this];exact a
 split at a
 .rename_i s is Z O;injection a with a;subst a;rw[BM i O z]
 cases a
def pA{g:Tag}{t:Ty}(h:σ'.live g=σ.live g):vD σ' g t=vD σ g t:=by unfold vD;rw[h]
def Gc{cs:ni}(k:hY P σ σ' o.op.operands.toList):Jw P cs σ' o=Jw P cs σ o:=by
 unfold Jw;split
 .rename_i t x y g;rw[k x (by rw[g];simp[Op.operands])]
 .rename_i t x i g;rw[k x (by rw[g];simp[Op.operands])]
 .rename_i d c g;split
  .rename_i x t n p
   have l:x∈o.op.operands.toList:=by rw[g];simp[Op.operands,Call.operands];have:x∈d.toList:=by rw[n];simp
                                     simpa using this
   rw[k x l]
  rfl
 .rfl
 .rfl
 .rename_i f d c g
  have:(d.toList.zip c.toList).any (B8 P σ')=(d.toList.zip c.toList).any (B8 P σ):=by
   have j:∀x∈d.toList.zip c.toList,B8 P σ' x=B8 P σ x:=by intro x e;have m:x.1∈d.toList:=(List.of_mem_zip (a:=x.1) (b:=x.2) e).1;unfold B8;rw[k x.1 (by rw[g];simp[Op.operands,Call.operands];right;simpa using m)]
   rw[dJ,List.any_eq_true,List.any_eq_true];exact⟨fun⟨x,e,h⟩=>⟨x,e,j x e▸h⟩,fun⟨x,e,h⟩=>⟨x,e,(j x e).symm▸h⟩⟩
  rw[this]
 rfl
def uz{c:SC}{y:(E×Ty)×List (Tag×Tao (E×Tba×Ty))}(h:qM σ c=some y)(b:∀z∈y.2,σ'.live z.1=σ.live z.1):qM σ' c=some y:=by
 cases c with
 |xo g t=>
  simp only[qM]at h⊢;split at h
  .rename_i e T a;injection h with h;subst h;rw[pA (b _ (ax.2 rfl)),a]
  cases h
 |_=>exact h
def ti:∀{b:List SC} {y:(List E×Tal)×List (Tag×Tao (E×Tba×Ty))},mT σ b=some y->(∀z∈y.2,σ'.live z.1=σ.live z.1)->mT σ' b=some y
 |[],y,h,_=>h
 |c::b,y,h,hl=>by
  simp only[mT]at h⊢;split at h
  .rename_i e t l j g i f d;injection h with h;subst h;rw[uz f (fun z a=>hl z (aG _ a)),ti d (fun z a=>hl z (bC _ a))]
  cases h
def Bw{s:SV}{y:(E×Ty)×List (Tag×Tao (E×Tba×Ty))}(h:qi σ s=some y)(a:∀z∈y.2,σ'.live z.1=σ.live z.1):qi σ' s=some y:=by
 cases s with
 |one c=>exact uz h a
 |agg cl=>
  simp only[qi]at h⊢;split at h
  .rename_i f d e b;injection h with h;subst h;rw[ti b a]
  cases h
 |ff l=>cases h
def yu:∀{xs:List Tbb} {ts:List Tba} {y:List (E×Ty)×List (Tag×Tao (E×Tba×Ty))},hY P σ σ' xs->xS P σ pc xs ts=some y->(∀z∈y.2,σ'.live z.1=σ.live z.1)->xS P σ' pc xs ts=some y
 |[],[],y,_,h,_=>h
 |x::xs,t::ts,y,hs,h,hl=>by
  simp only[xS]at h⊢;split at h
  .rename_i e l j i b f;injection h with h;subst h;rw[hs x (by simp)];rw[ez]at b;obtain⟨g,d,c⟩:=b;rw[d,cq,Bw c (fun z a=>hl z (aG _ a)),yu (fun z a=>hs z (by simp[a])) f (fun z a=>hl z (bC _ a))]
  cases h
 |[],_::_,_,_,h,_=>by cases h
 |_::_,[],_,_,h,_=>by cases h
def Jj{cs:ni}{p k:Nat}{e:jh}(m:hY P σ σ' o.op.operands.toList)(a:MI P cs σ p o k=some e)(N:∀id∈e.rd,σ'.hp id=σ.hp id)(b:∀x∈e.live,σ'.live x.1=σ.live x.1):MI P cs σ' p o k=some e:=by
 unfold MI at a⊢;split at a
 .unfold C7 at a⊢;split at a
  .rename_i t x y c
   try simp only[c]
   rw[m x (by rw[c];simp[Op.operands]),m y (by rw[c];simp[Op.operands])];split at a
   .rename_i g i u I V W n E S R
    try simp only[E,S,R]
    split at a
    .rename_i G T j;split at a
     .rename_i B;simp only[dn]at a;obtain⟨s,Q,rfl⟩:=a;rw[pA (b _ (ax.2 rfl)),j];simp only[if_pos B,Q,aV]
     cases a
    cases a
   cases a
  cases a
 .unfold Qc at a⊢;split at a
  .rename_i q h c
   try simp only[c]
   split at a
   .rename_i x t F L
    try simp only[F,L]
    have J:x∈o.op.operands.toList:=by rw[c];simp[Op.operands,Call.operands];have:x∈q.toList:=by rw[F];simp
                                      simpa using this
    rw[m x J];split at a
    .rename_i g u C v
     try simp only[C,v]
     split at a
     .rename_i G T j;injection a with a;subst a;rw[pA (b _ (ax.2 rfl)),j]
     cases a
    cases a
   cases a
  cases a
 .unfold C8 at a⊢;split at a
  .rename_i t x i c
   try simp only[c]
   rw[m x (by rw[c];simp[Op.operands]),m.d (x:=i) (by rw[c];simp[Op.operands])];split at a
   .rename_i g u Y k C v M
    try simp only[C,v,M]
    split at a
    .rename_i G T j;split at a
     .rename_i B;injection a with a;subst a;rw[pA (b _ (ax.2 rfl)),j];exact if_pos B
     cases a
    cases a
   cases a
  cases a
 .unfold Qb at a⊢
  have U:rC P σ' [] o=rC P σ [] o:=by
   unfold rC;split
   .rename_i t len r c;have E:=fun A=>kF (P:=P) (σ:=σ) (σ':=σ') (pc:=[]) A (xs:=r.toList) (by rw[c]at m;simpa [Op.operands]using m);simp only[E]
   rfl
  have:xa P σ' o=xa P σ o:=by unfold xa;rw[U]
  rw[this];exact a
 unfold Jy at a⊢;split at a
 .rename_i f q h c
  try simp only[c]
  rw[m f (by rw[c];simp[Op.operands,Call.operands])];split at a
  .rename_i Z X V l O D;split at a
   .rename_i H w;split at a
    .rename_i B;injection a with a;subst a;rw[yu (fun x v=>m x (by rw[c];simp[Op.operands,Call.operands];right;simpa using v)) D (fun z K=>b z (aG _ K))];simp only[O,w];exact if_pos B
    cases a
   cases a
  cases a
 cases a
def GG{cs:ni}{ops:Tad}{p:Nat}{e:jh}(d:B7 P cs ops σ p o=some e)(b:∀t,t∈o.looksAt ops->σ'.tm t=σ.tm t)(c:∀id∈e.rd,σ'.hp id=σ.hp id)(a:∀x∈e.live,σ'.live x.1=σ.live x.1):B7 P cs ops σ' p o=some e:=by
 have f:hY P σ σ' o.op.operands.toList:=tG fun t h=>b t (by unfold Oper.looksAt;exact aG _ (bH.2 ⟨.tmp t,h,rfl⟩))
 unfold B7 at d⊢;rw[Gc f];split at d
 .exact Jj f d c a
 exact rk d b c (fun x g _=>a x g)
def Ek(c:hY P σ σ' o.op.operands.toList):qB P σ' pc o=qB P σ pc o:=by
 unfold qB;split
 .rename_i t len a d;have e:=fun b=>kF (P:=P) (σ:=σ) (σ':=σ') (pc:=pc) b (xs:=a.toList) (by rw[d]at c;simpa [Op.operands]using c);simp only[e]
 rfl
def Jc{cs:ni}(c:hY P σ σ' o.op.operands.toList):vq P cs σ' pc o=vq P cs σ pc o:=by
 unfold vq;split
 .rename_i f b a d;rw[c f (by rw[d];simp[Op.operands,Call.operands])]
 .rename_i b a d;split
  .rename_i x y _ t e i
   have h:x∈o.op.operands.toList:=by rw[d];simp[Op.operands,Call.operands];have:x∈b.toList:=by rw[e];simp
                                     simpa using this
   have g:y∈o.op.operands.toList:=by rw[d];simp[Op.operands,Call.operands];have:y∈b.toList:=by rw[e];simp
                                     simpa using this
   rw[c x h,c y g]
  rfl
 .rw[Ek c]
 rfl
def Et{cs:ni}{ops:Tad}{p:Nat}{e:jh}(c:xg P cs ops σ p o=some e)(b:∀t,t∈o.looksAt ops->σ'.tm t=σ.tm t)(d:∀id∈e.rd,σ'.hp id=σ.hp id)(a:∀x∈e.live,σ'.live x.1=σ.live x.1):xg P cs ops σ' p o=some e:=by
 have i:hY P σ σ' o.op.operands.toList:=tG fun t h=>b t (by unfold Oper.looksAt;exact aG _ (bH.2 ⟨.tmp t,h,rfl⟩))
 unfold xg at c⊢;split at c
 .rename_i k;exact GG c b d a
 .rename_i k;rw[mC b];split at c
  .rename_i pc j
   try simp only[j]
   rw[Jc i];split at c
   .rename_i g;rw[if_pos g];exact rk c b d (fun x f _=>a x f)
   cases c
  cases c
 split at c
 .rename_i g;rw[if_pos g];exact rk c b d (fun x f _=>a x f)
 cases c
def BL{cs:ni}(c:hY P σ σ' o.op.operands.toList):za P cs σ' o=za P cs σ o:=by
 unfold za;split
 .rename_i f b a d;rw[c f (by rw[d];simp[Op.operands,Call.operands])]
 rfl
def wO{d:Tao Bool}{cs:ni}{ops:Tad}{p:Nat}{e:jh}(a:ku d P cs ops σ p o=some e)(f:∀t,t∈o.looksAt ops->σ'.tm t=σ.tm t)(i:∀id∈e.rd,σ'.hp id=σ.hp id)(c:∀x∈e.live,σ'.live x.1=σ.live x.1):ku d P cs ops σ' p o=some e:=by
 have m:hY P σ σ' o.op.operands.toList:=tG fun t r=>f t (by unfold Oper.looksAt;exact aG _ (bH.2 ⟨.tmp t,r,rfl⟩))
 unfold ku at a⊢;split at a
 .exact Et a f i c
 .rename_i b y u;split at a
  .cases a
  rename_i n;rw[if_neg n];split at a
  .simp only[dn]at a⊢;obtain⟨x,l,rfl⟩:=a;refine⟨x,?_,rfl⟩;obtain⟨s,q⟩:=OA l;unfold Yd;rw[pT m s (fun id h=>by rw[q.2.2.2.1]at h;simp at h) (fun j g k=>by rw[q.2.2.2.2]at k;simp at k)];simp only;rw[if_pos q]
  cases a
 .split at a
  .cases a
  rename_i n;rw[if_neg n,mC f];split at a
  .rename_i pc v;split at a
   .rename_i x l;injection a with a;subst a
    have:iQ P cs σ' pc o=some x:=by refine pT m l i (fun j g k=>c (g,none) ?_);exact aG _ (aG _ (bH.2 ⟨(j,some g),k,rfl⟩))
    simp only[this]
   cases a
  cases a
 rw[mC f,BL m];exact a
end
inductive rP (P:Tap) (cs:ni) (ops:Tad) (p0 N:Nat):List (Nat×jh)->St->St->Prop
 |nil (σ:St):rP P cs ops p0 N [] σ σ
 |cons {i:Nat} {o:Tbc} {e:jh} {r:List (Nat×jh)} {σ σ':St} (ho:ops[i]?=some o) (he:∃d,ku d P cs ops σ (p0+i) o=some e) (P0:e.tW.2.lt N=true) (hr:rP P cs ops p0 N r (e.app σ) σ'):
  rP P cs ops p0 N ((i,e)::r) σ σ'
section
variable{P:Tap}{cs:ni}{ops:Tad}{p0 N:Nat}
def indep(ops:Tad)(x y:Nat×jh):Bool:=
 (match ops[x.1]?,ops[y.1]? with
  |some ox,some oy=>ox.apart ops oy
  |_,_=>false)&&
 (x.2.dst==((ops[x.1]?).bind (·.dst)))&&(y.2.dst==((ops[y.1]?).bind (·.dst)))&&
 (x.2.hp.all fun a=>(y.2.hp.all fun b=>a.1 !=b.1)&&y.2.rd.all fun b=>a.1 !=b)&&(y.2.hp.all fun b=>x.2.rd.all fun a=>b.1 !=a)&&
 (x.2.live.all fun a=>y.2.live.all fun b=>a.1 !=b.1)
def AU{c β:Type}[DecidableEq c](h:c->β)(l m:List (c×β))(d:∀a∈l,∀b∈m,a.1≠b.1):fx (fx h l) m=fx (fx h m) l:=by
 funext x;unfold fx;cases h1:lk m x with
 |none=>cases h2:lk l x<;>rfl
 |some v=>
  cases h2:lk l x with
  |none=>rfl
  |some u=>exact absurd rfl (d (x,u) (iL h2) (x,v) (iL h1))
def qO{b β:Type}[DecidableEq b](h:b->β)(l:List (b×β))(x:b)(c:∀a∈l,a.1≠x):fx h l x=h x:=by
 unfold fx;cases h1:lk l x with
 |none=>rfl
 |some v=>exact absurd rfl (c _ (iL h1))
def rP.swap{x y:Nat×jh}{r:List (Nat×jh)}{σ σ':St}(hi:indep ops x y=true)(h:rP P cs ops p0 N (x::y::r) σ σ'):rP P cs ops p0 N (y::x::r) σ σ':=by
 obtain⟨i,ex⟩:=x;obtain⟨j,ey⟩:=y;cases h with
 |cons hox p afZ hr=>
  cases hr with
  |cons hoy o afY hr=>
   rename_i D B;unfold indep at hi;simp only[hox,hoy,cq,aT,beq_iff_eq]at hi;obtain⟨⟨⟨⟨⟨L,A⟩,v⟩,K⟩,u⟩,J⟩:=hi;obtain⟨V,U,T⟩:=Oper.apart_spec L
   have k:∀a∈ex.hp,(∀b∈ey.hp,a.1≠b.1)/\∀b∈ey.rd,a.1≠b:=by intro a c;have:=bY.1 K a c;simp only[aT,bY,bne_iff_ne]at this;exact this
   have m:∀b∈ey.hp,∀a∈ex.rd,b.1≠a:=by intro b g a c;have:=bY.1 (bY.1 u b g) a c;simpa using this
   have f:∀a∈ex.live,∀b∈ey.live,a.1≠b.1:=by intro a c b g;have:=bY.1 (bY.1 J a c) b g;simpa using this
   have F:∀t,t∈B.looksAt ops->(ex.app σ).tm t=σ.tm t:=by
    intro t s;unfold jh.app;rw[A];cases hd:D.dst with
    |none=>rfl
    |some d=>exact fu _ _ (fun e=>V d hd (e▸s))
   have E:∀t,t∈D.looksAt ops->(ey.app σ).tm t=σ.tm t:=by
    intro t s;unfold jh.app;rw[v];cases hd:B.dst with
    |none=>rfl
    |some d=>exact fu _ _ (fun e=>T d hd (e▸s))
   obtain⟨O,o⟩:=o;obtain⟨Q,p⟩:=p
   have R:ku O P cs ops σ (p0+j) B=some ey:=wO o (fun t s=>(F t s).symm)
    (fun id l=>(qO _ _ _ (fun a c=>(k a c).2 id l)).symm) (fun z H=>(qO _ _ _ (fun a c=>f a c z H)).symm)
   have S:ku Q P cs ops (ey.app σ) (p0+i) D=some ex:=wO p E
    (fun id l=>qO _ _ _ (fun b g=>m b g id l)) (fun z H=>qO _ _ _ (fun b g=>(f z H b g).symm))
   have q:ex.app (ey.app σ)=ey.app (ex.app σ):=by
    unfold jh.app;rw[A,v];simp only[St.mk.injEq];refine⟨?_,AU _ _ _ (fun b g a c=>((k a c).1 b g).symm),AU _ _ _ (fun b g a c=>(f a c b g).symm)⟩;cases hd:D.dst with
    |none=>rfl
    |some d=>
     cases hd':B.dst with
     |none=>rfl
     |some d'=>
      have I:d≠d':=fun e=>U d hd (e▸hd');funext t;simp only[fC];by_cases M:t=d
      .subst M;simp[I]
      simp[M]
   exact .cons hoy ⟨O,R⟩ afY (.cons hox ⟨Q,S⟩ afZ (q▸hr))
def rP.pull{x:Nat×jh}:∀{l r:List (Nat×jh)} {σ σ':St},(∀y∈l,indep ops y x=true)->rP P cs ops p0 N (l++x::r) σ σ'->rP P cs ops p0 N (x::(l++r)) σ σ'
 |[],_,_,_,_,h=>h
 |y::l,r,σ,σ',hi,h=>by
  cases h with
  |cons ho he P0 hr=>
   have b:=rP.pull (l:=l) (fun z c=>hi z (aK _ c)) hr;exact rP.swap (hi _ (br ..)) (.cons ho he P0 b)
variable{C:Cx}{G:Gh}{w w0:Tam}{S0:gK}{σ:St}{a:Act}{n:Nat}{Φ:Taa}{Pre:eN}
def dS.JR(C:Cx)(w:Tam)(G:Gh){M':Tai}(h:∀i,C.M i->M' i):dS C w G {C with M:=M'} w G:=
 ⟨fun _ h=>⟨rfl,h⟩,h,fun _ _ h=>h,fun _ _ _=>rfl,fun _ _=>rfl,fun _ _=>rfl⟩
def fg.iv{d:Cx}(h:fg w0 S0 C G σ w)(c:dS C w G d w G):fg w0 S0 d G σ w where
 below:=h.below
 jI:=h.jI
 keep:=h.keep
 qq i b hi:=⟨c.M _ (h.qq i b hi).1,(h.qq i b hi).2⟩
 lq:=h.lq
 dT:=h.dT
 gY:=h.gY
 na id x hx:=c.M _ (h.na id x hx)
 box id ro cs hx:=by obtain⟨l,k,j,f⟩:=h.box id ro cs hx;exact⟨l,k,j.later c rfl,f⟩
 inj:=h.inj
 own g e T t hx:=(h.own g e T t hx).later c (fun _ _=>rfl) (fun _ _ _ h=>h)
 gh:=h.gh
 jA:=h.jA
 eV:=h.eV
 fresh:=h.fresh
 wz:=h.wz
def gQ.iv{c:Cx}(h:gQ n w0 S0 C G σ a w)(b:dS C w G c w G):gQ n w0 S0 c G σ a w:=
 ⟨h.m.iv b,h.t.later b,h.sz,h.defers⟩
structure oY(P:Tap)(cs:ni)(ops:Tad)(p0 n:Nat)(S0:gK)(C:Cx)(Φ:Taa)(Pre:eN)(r:List (Nat×jh)):Prop where
 Yn:∀k sig,lk cs.l k=some sig->bu P k sig (Pre k) (Φ k)
 items:∀x∈r,∀it∈x.2.items,fc C Φ Pre it
 pos:∀x∈r,p0+x.1<C.N
 dst:∀(i:Nat) o d,ops[i]?=some o->o.dst=some d->d<n
 fr:Hf P cs S0 Φ Pre
def oY.tail{x:Nat×jh}{r:List (Nat×jh)}(h:oY P cs ops p0 n S0 C Φ Pre (x::r)):oY P cs ops p0 n S0 C Φ Pre r:=
 ⟨h.Yn,fun y b=>h.items y (aK _ b),fun y b=>h.pos y (aK _ b),h.dst,h.fr⟩
def fc.add{p:Nat}{it:Item}(h:fc C Φ Pre it):fc (C.add p) Φ Pre it:=by cases it<;>exact h
def oY.add{p:Nat}{r:List (Nat×jh)}(h:oY P cs ops p0 n S0 C Φ Pre r):oY P cs ops p0 n S0 (C.add p) Φ Pre r:=
 ⟨h.Yn,fun x d c b=>(h.items x d c b).add,h.pos,h.dst,h.fr⟩
def AQ{Q:Iv}:∀{r:List (Nat×jh)} {σ σ':St} {C:Cx} {G:Gh} {a:Act} {w:Tam},rP P cs ops p0 C.N r σ σ'->oY P cs ops p0 n S0 C Φ Pre r->gQ n w0 S0 C G σ a w->
  (r.map (·.1)).Nodup->(∀x∈r,¬C.M (p0+x.1))->
  (∀g w' p m,(∀i,m i->C.M i\/∃x∈r,i=p0+x.1)->gQ n w0 S0 {C with M:=m} p σ' g w'->Q .normal g w')->wpOps P ops Q (r.map (·.1)) a w
 |[],σ,σ',C,G,a,w,h,_,hs,_,_,hQ=>by cases h;exact hQ a w G C.M (fun i B=>.inl B) hs
 |(i,e)::r,σ,σ',C,G,a,w,h,EE,hs,U0,hM,hQ=>by
  cases h with
  |cons ho he P0 hr=>
   rename_i o;simp only[cM,List.nodup_cons]at U0;have z:¬C.M (p0+i):=hM (i,e) (br ..);have c:=xE hs he.choose_spec z (EE.pos (i,e) (br ..)) EE.Yn P0 (EE.items (i,e) (br ..)) (fun d D=>EE.dst i o d ho D) EE.fr
   have f:∀g w' p,gQ n w0 S0 (C.add (p0+i)) p (e.app σ) g w'->wpOps P ops Q (r.map (·.1)) g w':=by
    intro g w' p t;refine AQ (C:=C.add (p0+i)) hr EE.tail.add t U0.2 ?_ ?_
    .rintro x l (hm|hm)
     .exact hM x (aK _ l) hm
     have:x.1=i:=by omega
     exact U0.1 (bq.2 ⟨x,l,this⟩)
    intro v q y m u k;refine hQ v q y m (fun j A=>?_) k;rcases u j A with(h1|h1)|⟨x,l,h1⟩
    .exact .inl h1
    .exact .inr ⟨(i,e),br ..,h1⟩
    exact .inr ⟨x,aK _ l,h1⟩
   have b:=c (wpOps P ops Q (r.map (·.1))) Q f;simp only[cM,wpOps,ho];split
   .rename_i s;rw[if_pos s]at b;exact .inl b
   rename_i s;rw[if_neg s]at b;exact b
def kK{Q:Iv}(c:Tah):∀{r:List (Nat×jh)} {σ σ':St} {C:Cx} {G:Gh} {a:Act} {w:Tam},rP P cs ops p0 C.N r σ σ'->oY P cs ops p0 n S0 C Φ Pre r->gQ n w0 S0 C G σ a w->
  (r.map (·.1)).Nodup->(∀x∈r,¬C.M (p0+x.1))->
  (∀k w' q p,(∀i,p i->C.M i\/∃x∈r,i=p0+x.1)->gQ n w0 S0 {C with M:=p} q σ' k w'->wpOps P ops Q c k w')->wpOps P ops Q (r.map (·.1)++c) a w
 |[],σ,σ',C,G,a,w,h,_,hs,_,_,hQ=>by cases h;exact hQ a w G C.M (fun i D=>.inl D) hs
 |(i,e)::r,σ,σ',C,G,a,w,h,EE,hs,U0,hM,hQ=>by
  cases h with
  |cons ho he P0 hr=>
   rename_i o;simp only[cM,List.nodup_cons]at U0;have A:¬C.M (p0+i):=hM (i,e) (br ..);have f:=xE hs he.choose_spec A (EE.pos (i,e) (br ..)) EE.Yn P0 (EE.items (i,e) (br ..)) (fun d E=>EE.dst i o d ho E) EE.fr
   have g:∀k w' q,gQ n w0 S0 (C.add (p0+i)) q (e.app σ) k w'->wpOps P ops Q (r.map (·.1)++c) k w':=by
    intro k w' q u;refine kK c (C:=C.add (p0+i)) hr EE.tail.add u U0.2 ?_ ?_
    .rintro x m (hm|hm)
     .exact hM x (aK _ m) hm
     have:x.1=i:=by omega
     exact U0.1 (bq.2 ⟨x,m,this⟩)
    intro y s z p v l;refine hQ y s z p (fun j B=>?_) l;rcases v j B with(h1|h1)|⟨x,m,h1⟩
    .exact .inl h1
    .exact .inr ⟨(i,e),br ..,h1⟩
    exact .inr ⟨x,aK _ m,h1⟩
   have b:=f (wpOps P ops Q (r.map (·.1)++c)) Q g;simp only[cM,eL,wpOps,ho];split
   .rename_i t;rw[if_pos t]at b;exact .inl b
   rename_i t;rw[if_neg t]at b;exact b
def fwd(ops:Tad)(i:Nat):Nat->Nat->Tah->Tah
 |0,_,acc=>acc
 |n+1,j,acc=>match ops[j]? with
  |some o=>if o.after.any fun e=>Region.binds .any e&&(e.on==i||acc.contains e.on) then fwd ops i n (j+1) (j::acc) else fwd ops i n (j+1) acc
  |none=>acc
def Qh(ops:Tad)(_:Nat)(i j:Nat):Bool:=(fwd ops i (ops.size-i) i []).contains j
def qE(ops:Tad):List (Nat×jh)->Bool
 |[]=>true
 |x::r=>(r.all fun y=>indep ops x y||Qh ops ops.size x.1 y.1)&&qE ops r
def xk(ops:Tad)(b:Tbd Bool):Prop:=
 ∀(j:Nat) o,ops[j]?=some o->b.getD j false=true->∀e∈o.after,Region.binds .any e=true->b.getD e.on false=true
def uW{i:Nat}:∀(n j:Nat) (acc:Tah),(∀k∈acc,∀b:Tbd Bool,xk ops b->(∀o,ops[k]?=some o->∀e∈o.after,Region.binds .any e=true->b.getD e.on false=true)->b.getD i false=true)->
  ∀k∈fwd ops i n j acc,∀b:Tbd Bool,xk ops b->(∀o,ops[k]?=some o->∀e∈o.after,Region.binds .any e=true->b.getD e.on false=true)->b.getD i false=true
 |0,_,_,h=>h
 |n+1,j,acc,h=>by
  unfold fwd;split
  .rename_i o u;split
   .rename_i x;refine uW n (j+1) (j::acc) ?_;intro k l;rcases aH.1 l with rfl|l
    .intro b f d;obtain⟨e,v,s⟩:=Array.any_eq_true'.1 x;simp only[aT,bW,beq_iff_eq]at s;obtain⟨p,c⟩:=s;have r:=d o u e v p;rcases c with rfl|c
     .exact r
     exact h e.on (by simpa using c) b f (fun t g y m q=>f e.on t g r y m q)
    exact h k l
   exact uW n (j+1) acc h
  exact h
def IS{b:Tbd Bool}(d:xk ops b)(f i j:Nat)(h:Qh ops f i j=true)(c:∀o,ops[j]?=some o->∀e∈o.after,Region.binds .any e=true->b.getD e.on false=true):b.getD i false=true:=
 uW _ _ [] (by simp) j (by simpa [Qh]using h) b d c
def yj:∀{l r:List (Nat×jh)} {x:Nat×jh},qE ops (l++x::r)=true->∀y∈l,indep ops y x=true\/Qh ops ops.size y.1 x.1=true
 |[],_,_,_,y,b=>by simp at b
 |z::l,r,x,h,y,b=>by
  simp only[eL,qE,aT]at h;rcases aH.1 b with rfl|b
  .have:=bY.1 h.1 x (by simp);simpa using this
  exact yj h.2 y b
def yk:∀{l r:List (Nat×jh)} {x:Nat×jh},qE ops (l++x::r)=true->qE ops (l++r)=true
 |[],r,x,h=>by simp only[dW,qE,aT]at h;exact h.2
 |z::l,r,x,h=>by simp only[eL,qE,aT]at h⊢;refine⟨?_,yk h.2⟩;rw[bY]at h⊢;intro y b;exact h.1 y (by rcases aM.1 b with h|h<;>simp[h])
def Iz{Q:Iv}:∀(k:Nat) {r:List (Nat×jh)} {σ σ':St} {C:Cx} {G:Gh} {a:Act} {w:Tam} {b:Tbd Bool},rP P cs ops p0 C.N r σ σ'->oY P cs ops p0 n S0 C Φ Pre r->gQ n w0 S0 C G σ a w->
  (r.map (·.1)).Nodup->(∀x∈r,¬C.M (p0+x.1))->qE ops r=true->b.size=ops.size->xk ops b->r.length<=k->(∀i,i<ops.size->(b.getD i false=false↔i∈r.map (·.1)))->
  (∀x∈r,x.1<ops.size)->(r≠[]->Region.ready .any ops b≠[])->
  (∀(c:Tbd Bool) (r':List (Nat×jh)),c.size=ops.size->xk ops c->(∀i,i<ops.size->(c.getD i false=false↔i∈r'.map (·.1)))->r'≠[]->(∀x∈r',x.1<ops.size)->Region.ready .any ops c≠[])->
  (∀a' w' G' M',(∀i,M' i->C.M i\/∃x∈r,i=p0+x.1)->gQ n w0 S0 {C with M:=M'} G' σ' a' w'->Q .normal a' w')->wpAny P .any ops Q k b a w:=by
 intro k
 induction k with
 |zero=>
  intro r σ σ' C G a w b h f hs a3 hM v a0 Z F g W z u hQ;have hr:r=[]:=au (by omega);subst hr;cases h;refine⟨?_,hQ a w G C.M (fun i hi=>.inl hi) hs⟩;rw[fm];intro j E;obtain⟨h0,o,K,_⟩:=mem_ready.1 E;have X:j<ops.size:=(aP.1 K).1
  have H:b.getD j false=false:=by
   have Y:j<b.size:=by omega
   simp[Y]at h0⊢;exact h0
  have:=(g j X).1 H;simp at this
 |succ k ih=>
  intro r σ σ' C G a w b h f hs a3 hM v a0 Z F g W z u hQ;refine⟨fun h0=>?_,fun i hi=>?_⟩
  .by_cases hr:r=[]
   .subst hr;cases h;exact hQ a w G C.M (fun i hi=>.inl hi) hs
   exact absurd h0 (z hr)
  obtain⟨h0,o,K,J⟩:=mem_ready.1 hi;have b3:i<ops.size:=(aP.1 K).1
  have H:b.getD i false=false:=by
   have Y:i<b.size:=by omega
   simp[Y]at h0⊢;exact h0
  have a4:=(g i b3).1 H;obtain⟨x,hx,S⟩:=bq.1 a4;obtain⟨l,r2,hr⟩:=List.append_of_mem hx;subst hr
  have a5:∀y∈l,indep ops y x=true:=by
   intro y t;rcases yj v y t with h|h
   .exact h
   exfalso;rw[S]at h;have a9:=IS Z _ _ _ h (fun o' q=>by rw[K]at q;injection q with q;subst q;exact J);have b0:=W y (by simp[t]);have:=(g y.1 b0).2 (bq.2 ⟨y,by simp[t],rfl⟩);rw[a9]at this;cases this
  have U:=rP.pull a5 h;obtain⟨xi,e⟩:=x;simp only at S;subst S
  have s:∀y∈l++r2,y∈l++(xi,e)::r2:=by intro y t;rcases aM.1 t with h|h<;>simp[h]
  have D:xi∉(l++r2).map (·.1)/\((l++r2).map (·.1)).Nodup:=by
   have:(((xi,e)::(l++r2)).map (·.1)).Nodup:=by refine(List.Perm.nodup_iff ?_).1 a3;exact(List.perm_middle).map _
   simpa using this
  cases U with
  |cons q he af0 hr'=>
   rename_i o';rw[K]at q;injection q with q;subst q;have hp:¬C.M (p0+xi):=hM (xi,e) (by simp);have a2:oY P cs ops p0 n S0 C Φ Pre (l++r2):=⟨f.Yn,fun y t=>f.items y (s y t),fun y t=>f.pos y (s y t),f.dst,f.fr⟩;have T:=xE hs he.choose_spec hp (f.pos (xi,e) (by simp)) f.Yn af0 (f.items (xi,e) (by simp)) (fun d hd=>f.dst xi o d K hd) f.fr;have I:(b.setIfInBounds xi true).size=ops.size:=by simp[a0]
   have O:∀j,j<ops.size->(b.setIfInBounds xi true).getD j false=(if j=xi then true else b.getD j false):=by
    intro j E;by_cases m:j=xi
    .subst m;have:j<b.size:=by omega
     simp[this]
    rw[if_neg m];exact getD_set_ne false (Ne.symm m)
   have R:xk ops (b.setIfInBounds xi true):=by
    intro j o' B E e' a6 a7;have X:j<ops.size:=(aP.1 B).1;rw[O j X]at E;by_cases m:j=xi
    .subst m;rw[K]at B;injection B with B;subst B;exact getD_set_true (J e' a6 a7)
    rw[if_neg m]at E;exact getD_set_true (Z j o' B E e' a6 a7)
   have A:∀j,j<ops.size->((b.setIfInBounds xi true).getD j false=false↔j∈(l++r2).map (·.1)):=by
    intro j E;rw[O j E];by_cases m:j=xi
    .subst m;simp only[if_true];exact⟨fun h=>(by cases h),fun h=>absurd h D.1⟩
    rw[if_neg m,g j E];simp[m]
   have L:∀y∈l++r2,y.1<ops.size:=fun y t=>W y (s y t)
   have V:∀a' w' G',gQ n w0 S0 (C.add (p0+xi)) G' (e.app σ) a' w'->wpAny P .any ops Q k (b.setIfInBounds xi true) a' w':=by
    intro a' w' G' b1;refine ih (C:=C.add (p0+xi)) hr' a2.add b1 D.2 ?_ (yk v) I R (by simp at F⊢;omega) A L (fun b2=>u _ _ I R A b2 L) u ?_
    .rintro y t (hm|hm)
     .exact hM y (s y t) hm
     have:y.1=xi:=by omega
     exact D.1 (bq.2 ⟨y,t,this⟩)
    intro b5 a8 b6 M' b4 a1;refine hQ b5 a8 b6 M' (fun j E=>?_) a1;rcases b4 j E with(H|H)|⟨y,t,H⟩
    .exact .inl H
    .exact .inr ⟨(xi,e),by simp,H⟩
    exact .inr ⟨y,s y t,H⟩
   have p:=T (wpAny P .any ops Q k (b.setIfInBounds xi true)) Q V;unfold wpOp;simp only[K];split
   .rename_i hw;rw[if_pos hw]at p;exact .inl p
   rename_i hw;rw[if_neg hw]at p;exact p
def UL(ops:Tad):Bool:=(List.range ops.size).all fun i=>match ops[i]? with
 |some o=>o.after.all fun e=> !Region.binds .any e||decide (e.on<i)
 |none=>true
def Bi(A:UL ops=true){lX:Tbd Bool}(t:lX.size=ops.size){r:Tah}(b:∀i,i<ops.size->(lX.getD i false=false↔i∈r))(u:r≠[])(o:∀x∈r,x<ops.size):Region.ready .any ops lX≠[]:=by
 obtain⟨m,d,g⟩:∃m,m∈r/\∀j,j<m->j∉r:=by
  cases r with
  |nil=>exact absurd rfl u
  |cons x r=>
   have:∃m,m∈(x::r):=⟨x,by simp⟩
   have l:∀k,(∃m∈(x::r),m<=k)->∃m,m∈(x::r)/\∀j,j<m->j∉(x::r):=by
    intro k
    induction k with
    |zero=>rintro⟨m,d,v⟩;exact⟨m,d,fun j y=>by omega⟩
    |succ k ih=>
     rintro⟨m,d,v⟩;by_cases h:∃m∈(x::r),m<=k
     .exact ih h
     refine⟨m,d,fun j y p=>h ⟨j,p,by omega⟩⟩
   exact l x ⟨x,by simp,aU _⟩
 have c:=o m d
 have:m∈Region.ready .any ops lX:=by
  rw[mem_ready];have s:=(b m c).2 d;have f:m<lX.size:=by omega
  refine⟨by simp[f]at s⊢;exact s,ops[m],by simp[c],fun e z q=>?_⟩;have:=bY.1 A m (cI.2 c);simp only[dz c]at this;have:=(Array.all_eq_true_iff_forall_mem.1 this) e z;simp only[q,Bool.not_true,fW,bk]at this;have B:lX.getD e.on false≠false:=fun h=>g e.on this ((b e.on (by omega)).1 h);simpa using B
 intro h;rw[h]at this;cases this
end
abbrev oQ:=Tba×Bool
inductive Slot where
 |tmp (t:Nat)
 |cell (id i:Nat)
 deriving DecidableEq
structure EH where
 own:List (Nat×Tba):=[]
 boxes:List (Nat×List (Nat×Tba)):=[]
 drop:Tah:=[]
def EH.ex(a:EH):Bool:=a.drop.contains 1000002
structure Head where
 v0:Nat
 iM:List (Slot×Ty×Tao oQ)
 st:St
 keep:List Tag
def Head.size(h:Head):Nat:=h.iM.length
def E7:Ty->Tao (Ty×Tba)
 |.ff (.fn T kt)=>some (kt,T)
 |_=>none
def kI(v:Nat)(ty:Ty):Tao oQ->SC
 |none=>match E7 ty with
  |some (kt,T)=>.uC (.var v) kt T
  |none=>.gH (.var v) ty
 |some (_,false)=>.own (v,0) (.var v) ty
 |some (_,true)=>.xo (v,1000) ty
def lC(v:Nat)(T:oQ):Tag:=(v,if T.2 then 1000 else 0)
def IH(v:Nat)(T:oQ):(lC v T).ex=T.2:=by obtain⟨T,_|_⟩:=T<;>rfl
def lU(ty:Ty):Tao oQ->Ty
 |none=>match E7 ty with
  |some (kt,_)=>.list kt
  |none=>ty
 |some _=>.list ty
def lv(σ:St):Slot->Tao SC
 |.tmp t=>match σ.tm t with
  |some ([],.one c)=>some c
  |_=>none
 |.cell id i=>match σ.hp id with
  |some (_,cs)=>cs[i]?
  |none=>none
def mo(σ:St)(x:Slot×Ty×Tao oQ):Tao (E×Tao Tag):=
 match lv σ x.1 with
 |some c=>
  match x.2.2 with
  |none=>match E7 x.2.1 with
   |some (kt,T)=>match c with
    |.uC e kt' T'=>if kt'=kt/\T'=T then some (e,none) else none
    |_=>none
   |none=>match asData c with
    |some (e,t)=>if t=x.2.1 then some (e,none) else none
    |none=>none
  |some T=>match c with
   |.oJ t=>if t=x.2.1 then some (.nil,none) else none
   |.own g _ t=>match σ.live g with
    |some (e,T',t')=>if t=x.2.1/\T'=T.1/\t'=x.2.1/\T.2=false/\g.ex=false then some (e,some g) else none
    |none=>none
   |.xo g t=>match σ.live g with
    |some (e,T',t')=>if t=x.2.1/\T'=T.1/\t'=x.2.1/\T.2=true/\g.ex=true then some (e,some g) else none
    |none=>none
   |_=>none
 |none=>none
def r6(σ:St):List (Slot×Ty×Tao oQ)->Tao (List (E×Tao Tag))
 |[]=>some []
 |x::r=>match mo σ x,r6 σ r with
  |some y,some ys=>some (y::ys)
  |_,_=>none
def pa(s:Slot):List (Slot×Ty×Tao oQ)->Nat->Tao (Nat×Ty×Tao oQ)
 |[],_=>none
 |x::r,j=>if x.1=s then some (j,x.2) else pa s r (j+1)
def SC.ids(n:Nat):SC->Bool
 |.own g _ _=>g.1<n
 |.qo id _=>id<n
 |.xo g _=>g.1<n
 |.wS g _ _ _=>g.1<n
 |.C0 id=>id<n
 |_=>true
def SV.ids(n:Nat):SV->Bool
 |.one c=>c.ids n
 |.agg l=>l.all (SC.ids n)
 |.ff l=>l.all fun x=>x.2.all (SC.ids n)
def acH(n:Nat)(h:Head)(σ:St):Bool:=(List.range n).all fun t=>
 match h.st.tm t with
 |none=>true
 |some (c,s)=>match pa (.tmp t) h.iM 0 with
  |some (j,ty,T)=>decide (c=[]/\s=.one (kI (h.v0+j) ty T))
  |none=>decide (σ.tm t=some (c,s))&&s.lt h.v0&&s.ids h.v0&&c.all fun x=>x.1.lt h.v0
def ss(h:Head)(id:Nat):Nat->List SC->List SC->Bool
 |_,[],[]=>true
 |i,c::r,c'::r'=>(match pa (.cell id i) h.iM 0 with
  |some (j,ty,T)=>decide (c=kI (h.v0+j) ty T)
  |none=>decide (c'=c)&&c.lt h.v0&&c.ids h.v0&&c.scalar)&&ss h id (i+1) r r'
 |_,_,_=>false
def acI(h:Head)(σ:St):Bool:=(List.range h.v0).all fun id=>
 match h.st.hp id with
 |none=>true
 |some (ro,cs)=>match σ.hp id with
  |some (ro',cs')=>ro==ro'&&ss h id 0 cs cs'
  |none=>false
def Rv(h:Head)(σ:St)(b:List (Tao Tag)):Bool:=h.keep.all fun g=>
 match h.st.live g with
 |none=>true
 |some x=>decide (σ.live g=some x)&&decide (g.1<h.v0)&&x.1.lt h.v0&& !b.contains (some g)
def Fg(n:Nat)(h:Head)(σ:St):Tao (List E):=
 match r6 σ h.iM with
 |some vs=>
  let b:=vs.map (·.2)
  if acH n h σ&&acI h σ&&Rv h σ b&&kY b&&(h.iM.all fun x=>(lU x.2.1 x.2.2).scalar&&(x.2.2.isNone||decide (0<x.2.1.cells.length))) then some (vs.map (·.1)) else none
 |none=>none
structure Ix(n:Nat)(h:Head):Prop where
 tm:∀t,n<=t->h.st.tm t=none
 hp:∀id,h.v0<=id->h.st.hp id=none
 live:∀g x,h.st.live g=some x->g∈h.keep\/∃j ty T,h.iM[j]?=some (ty,T)/\∃T',T.2=some T'/\g=lC (h.v0+j) T'/\x=(.var (h.v0+j),T'.1,T.1)
def assigned:Code->Tah
 |.region _ ops _=>ops.toList.filterMap (·.dst)
 |.seq a b=>assigned a++assigned b
 |.cond _ a b=>assigned a++assigned b
 |.block _ c| .loop c| .scope c=>assigned c
 |_=>[]
def dedup:Tah->Tah
 |[]=>[]
 |x::r=>if r.contains x then dedup r else x::dedup r
def tR(ex:Bool)(id:Nat)(b:List (Nat×Tba)):Nat->List SC->List (Slot×Ty×Tao oQ)
 |_,[]=>[]
 |i,c::r=>
  (match lk b i,c with
   |some T,.oJ t=>[(.cell id i,t,some (T,ex))]
   |some T,.own _ _ t=>[(.cell id i,t,some (T,false))]
   |some T,.xo _ t=>[(.cell id i,t,some (T,true))]
   |_,.uC _ kt T=>[(.cell id i,.ff (.fn T kt),none)]
   |_,c=>match asData c with
    |some (_,t)=>[(.cell id i,t,none)]
    |none=>[])++tR ex id b (i+1) r
def CG(b:List (Slot×Ty×Tao oQ))(v0 id:Nat):Nat->List SC->List SC
 |_,[]=>[]
 |i,c::r=>(match pa (.cell id i) b 0 with
  |some (j,ty,T)=>kI (v0+j) ty T
  |none=>c)::CG b v0 id (i+1) r
def Dd:SC->List Tag
 |.own g _ _=>[g]
 |.xo g _=>[g]
 |_=>[]
def Wn:SV->List Tag
 |.one c=>Dd c
 |.agg l=>l.flatMap Dd
 |.ff l=>l.flatMap fun x=>x.2.flatMap Dd
def tp(v0:Nat):Nat->List (Slot×Ty×Tao oQ)->List (Tag×(E×Tba×Ty))
 |_,[]=>[]
 |j,(_,ty,T)::r=>(match T with
  |some T=>[(lC (v0+j) T,(E.var (v0+j),T.1,ty))]
  |none=>[])++tp v0 (j+1) r
def F4(ex:Bool)(σ:St)(b:List (Nat×Tba))(id:Nat):List (Slot×Ty×Tao oQ):=
 match σ.hp id with
 |some (false,cs)=>tR ex id b 0 cs++cs.flatMap fun c=>match c with
  |.C0 m=>(match σ.hp m with|some (false,ms)=>tR ex m [] 0 ms|_=>[])
  |.qo m 0=>(match σ.hp m with|some (false,ms)=>tR ex m (b.filterMap fun x=>if 1000<=x.1 then some (x.1-1000,x.2) else none) 0 ms|_=>[])
  |_=>[]
 |_=>[]
def uN(n:Nat)(b:EH)(i:Tah)(σ:St)(v0:Nat):Head:=
 let A:=dedup i
 let e:=A.filterMap fun t=>
  if b.drop.contains t then none else
  match σ.tm t with
  |some ([],.one c)=>match lk b.own t,c with
   |some T,.oJ ty=>some (Slot.tmp t,ty,some (T,b.ex))
   |some T,.own _ _ ty=>some (Slot.tmp t,ty,some (T,false))
   |some T,.xo _ ty=>some (Slot.tmp t,ty,some (T,true))
   |_,c=>match asData c with
    |some (_,ty)=>some (Slot.tmp t,ty,none)
    |none=>none
  |_=>none
 let h:=b.boxes.flatMap fun x=>
  match σ.tm x.1 with
  |some ([],.one (.qo id 0))=>F4 b.ex σ x.2 id
  |some ([],.one (.C0 id))=>F4 b.ex σ x.2 id
  |_=>[]
 let iM:=e++h;let d:=(iM.filterMap fun x=>mo σ x).filterMap (·.2)
 let keep:=(((List.range n).flatMap fun t=>match σ.tm t with|some (_,s)=>Wn s|none=>[])++
  ((List.range v0).flatMap fun id=>match σ.hp id with|some (_,cs)=>cs.flatMap Dd|none=>[])).filter fun g=> !d.contains g
 let f:=tp v0 0 iM
 {v0,iM,keep,
  st:={
   tm:=fun t=>if t<n then(if A.contains t then(match pa (.tmp t) iM 0 with|some (j,ty,T)=>some ([],.one (kI (v0+j) ty T))|none=>none) else σ.tm t) else none
   hp:=fun id=>if id<v0 then(match σ.hp id with|some (ro,cs)=>some (ro,CG iM v0 id 0 cs)|none=>none) else none
   live:=fun g=>match lk f g with|some x=>some x|none=>if keep.contains g then σ.live g else none}}
def yc:∀{l:List (Slot×Ty×Tao oQ)} {v0 k:Nat} {g:Tag} {x:E×Tba×Ty},lk (tp v0 k l) g=some x->∃j e T,l[j]?=some (e,T)/\∃b,T.2=some b/\g=lC (v0+(k+j)) b/\x=(.var (v0+(k+j)),b.1,T.1)
 |[],_,_,_,_,h=>by cases h
 |(s,e,T)::r,v0,k,g,x,h=>by
  have step:∀{y},lk (tp v0 (k+1) r) g=some y->∃j c b,((s,e,T)::r)[j]?=some (c,b)/\∃d,b.2=some d/\g=lC (v0+(k+j)) d/\y=(.var (v0+(k+j)),d.1,b.1):=by intro y f;obtain⟨j,c,b,o,m⟩:=yc f;refine⟨j+1,c,b,by simpa using o,?_⟩;rw[show k+(j+1)=k+1+j by omega];exact m
  cases T with
  |none=>simp only[tp,dW]at h;exact step h
  |some T0=>
   simp only[tp,eL,dW,lk]at h;split at h
   .rename_i i;injection h with h;exact⟨0,s,(e,some T0),rfl,T0,rfl,i,h.symm⟩
   exact step h
def Lz(n:Nat)(b:EH)(A:Tah)(σ:St)(v0:Nat):Ix n (uN n b A σ v0) where
 tm t ht:=by simp only[uN];rw[if_neg (by omega)]
 hp id hid:=by have h:v0<=id:=hid;simp only[uN];rw[if_neg (by omega)]
 live g x hx:=by
  simp only[uN]at hx;split at hx
  .rename_i y e;injection hx with hx;subst hx;obtain⟨j,d,T,i,c⟩:=yc e;rw[av]at c;exact .inr ⟨j,d,T,i,c⟩
  split at hx
  .rename_i f;exact .inl (by simpa [uN]using f)
  cases hx
def fX(ρ:Nat->D)(v0:Nat)(xs:Taf):Nat->D:=fun i=>if v0<=i/\i<v0+xs.length then xs.getD (i-v0) .top else ρ i
def JX{ρ:Nat->D}{v0:Nat}{xs:Taf}{i:Nat}(h:i<v0):fX ρ v0 xs i=ρ i:=by unfold fX;rw[if_neg (by omega)]
def Qv{ρ:Nat->D}{v0:Nat}{xs:Taf}{j:Nat}{d:D}(h:xs[j]?=some d):fX ρ v0 xs (v0+j)=d:=by have b:j<xs.length:=(aO.1 h).1;unfold fX;rw[if_pos ⟨by omega,by omega⟩,show v0+j-v0=j by omega];exact gx h
def pw{s:Slot}:∀{l:List (Slot×Ty×Tao oQ)} {k j:Nat} {y:Ty×Tao oQ},pa s l k=some (j,y)->k<=j/\l[j-k]?=some (s,y)
 |[],_,_,_,h=>by cases h
 |x::r,k,j,y,h=>by
  simp only[pa]at h;split at h
  .rename_i b;obtain⟨rfl,rfl⟩:=iP h;refine⟨aU _,?_⟩;rw[Nat.sub_self,<-b];rfl
  obtain⟨d,c⟩:=pw h;refine⟨by omega,?_⟩;rw[show j-k=(j-(k+1))+1 by omega];simpa using c
def wF{σ:St}:∀{l:List (Slot×Ty×Tao oQ)} {vs:List (E×Tao Tag)},r6 σ l=some vs->vs.length=l.length/\∀(j:Nat) x y,l[j]?=some x->vs[j]?=some y->mo σ x=some y
 |[],vs,h=>by simp only[r6,aa]at h;subst h;exact⟨rfl,by intro j x y i;simp at i⟩
 |x::r,vs,h=>by
  simp only[r6]at h;split at h
  .rename_i y o m k;injection h with h;subst h;obtain⟨g,f⟩:=wF k;refine⟨by simp[g],fun j e d c b=>?_⟩;cases j with
   |zero=>simp at c b;subst c;subst b;exact m
   |succ j=>exact f j e d (by simpa using c) (by simpa using b)
  cases h
section
variable{C:Cx}{G:Gh}{w w0:Tam}{S0:gK}{σ:St}{a:Act}{n:Nat}
def ru.shrink{c:SC}{v:Tan}{v0:Nat}{r:Cx}{B:Gh}(h:ru C w G c v)(d:c.lt v0=true)(p:c.ids v0=true)(D:∀i,i<v0->r.ρ i=C.ρ i)(R:v0<=r.N)(y:∀i,i<v0->r.M i)(x:B.S=G.S)(s:∀i,i<v0->B.β i=G.β i)(q:∀g:Tag,g.1<v0->B.τ g=G.τ g):ru r w B c v:=by
 have m:∀{e:E},e.lt v0=true->den r.ρ e=den C.ρ e:=fun f=>dQ D f
 have up:∀{e:E},e.lt v0=true->e.lt r.N=true:=by
  intro e
  induction e with
  |var i=>intro f;simp only[E.lt,bk]at f⊢;omega
  |aZ|fa|BC|gI|nil=>intro _;rfl
  |cons a b pX pW=>intro f;simp only[E.lt,aT]at f⊢;exact⟨pX f.1,pW f.2⟩
  |un o e ih=>intro f;exact ih f
  |bin o a b pX pW=>intro f;simp only[E.lt,aT]at f⊢;exact⟨pX f.1,pW f.2⟩
  |ite c a b KF pX pW=>intro f;simp only[E.lt,aT]at f⊢;exact⟨⟨KF f.1.1,pX f.1.2⟩,pW f.2⟩
 cases c with
 |gH e t=>exact⟨up d,by rw[m d,x];exact h.2.1,by rw[m d];exact h.2.2⟩
 |oJ t=>exact h
 |own g e t=>
  have k:g.1<v0:=by simpa [SC.ids]using p
  obtain⟨_,_,A,z,J⟩:=h;exact⟨y _ k,up d,by rw[m d,x];exact A,by rw[m d];exact z,by rw[q g k];exact J⟩
 |clip e t=>
  obtain⟨_,A,z,b,J⟩:=h;exact⟨up d,by rw[m d,x];exact A,by rw[m d];exact z,b,by rw[m d];exact J⟩
 |qo id off=>
  have k:id<v0:=by simpa [SC.ids]using p
  exact⟨y _ k,by rw[s id k];exact h.2⟩
 |zn l i t off=>
  simp only[SC.lt,aT]at d;obtain⟨_,_,b,o,u,F,H,I⟩:=h;have L:den r.ρ (.bin .idx l i)=den C.ρ (.bin .idx l i):=m (by simp[E.lt,d]);exact⟨up d.1,up d.2,b,o,u,F,by rw[L];exact H,by rw[L,x];exact I⟩
 |zi e fs off=>
  obtain⟨_,b,l,u,O,H,F,I⟩:=h;exact⟨up d,b,l,u,by rw[m d];exact O,H,F,by rw[x];exact I⟩
 |xo g t=>
  have k:g.1<v0:=by simpa [SC.ids]using p
  exact⟨y _ k,by rw[q g k];exact h.2.1,h.2.2⟩
 |wS g i t off=>
  have k:g.1<v0:=by simpa [SC.ids]using p
  obtain⟨_,_,b,K,n,Q,P,A,z⟩:=h;have j:i.lt v0=true:=d;exact⟨y _ k,up j,b,K,n,by rw[q g k];exact Q,by rw[m j];exact P,by rw[m j];exact A,by rw[m j];exact z⟩
 |C0 id=>
  have k:id<v0:=by simpa [SC.ids]using p
  exact⟨y _ k,by rw[s id k];exact h.2⟩
 |Ha=>exact h
 |uC e kt T=>exact h.elim
def SV.EB{s:SV}{v:Tan}{v0:Nat}{B:Cx}{A:Gh}(h:wR C w G s v)(b:s.lt v0=true)(d:s.ids v0=true)(e:∀{c:SC} {u:Tan},ru C w G c u->c.lt v0=true->c.ids v0=true->ru B w A c u):wR B w A s v:=by
 cases s with
 |one c=>exact e h b d
 |agg l=>
  obtain⟨p,y,t,r⟩:=h;simp only[SV.lt,SV.ids,bY]at b d;exact⟨p,y,t,fun i c u g j=>e (r i c u g j) (b c (bQ g)) (d c (bQ g))⟩
 |ff l=>
  obtain⟨p,y,t,r⟩:=h;simp only[SV.lt,SV.ids,bY]at b d;refine⟨p,y,t,fun i x u z j=>?_⟩;have o:=bQ z;have m:=r i x u z j;unfold lR at m⊢;split
  .rename_i f;rw[if_pos f]at m;obtain⟨D,k,q,E⟩:=m;exact⟨D,k,q,fun i c u g j=>e (E i c u g j) (b x o c (bQ g)) (d x o c (bQ g))⟩
  rename_i f;rw[if_neg f]at m;obtain⟨c,k,q⟩:=m;exact⟨c,k,e q (b x o c (by rw[k];simp)) (d x o c (by rw[k];simp))⟩
def wM{h:Head}{id:Nat}:∀{k:Nat} {l l':List SC},ss h id k l l'=true->l.length=l'.length/\∀(i:Nat) c f,l[i]?=some c->l'[i]?=some f->
  (∃j e T,pa (.cell id (k+i)) h.iM 0=some (j,e,T)/\c=kI (h.v0+j) e T)\/(f=c/\c.lt h.v0=true/\c.ids h.v0=true/\c.scalar=true)
 |k,[],[],_=>⟨rfl,by intro i c f s;simp at s⟩
 |k,c::r,f::r',hf=>by
  simp only[ss,aT]at hf;obtain⟨d,t⟩:=hf;obtain⟨p,o⟩:=wM t;refine⟨by simp[p],fun i x m g b=>?_⟩;cases i with
  |zero=>
   simp at g b;subst g;subst b;split at d
   .rename_i j e T q;exact .inl ⟨j,e,T,q,by simpa using d⟩
   simp only[aT,bk]at d;exact .inr ⟨d.1.1.1,d.1.1.2,d.1.2,d.2⟩
  |succ i=>
   have:=o i x m (by simpa using g) (by simpa using b);rw[show k+(i+1)=k+1+i by omega];exact this
 |_,[],_::_,h=>by cases h
 |_,_::_,[],h=>by cases h
def aak(G:Gh)(σ:St)(b:Nat):Prop:=(∃id y,σ.hp id=some y/\b=G.β id)\/∃g y,σ.live g=some y/\(G.τ g).ownBlock=some b
def LV{h:Head}{es:List E}{ρ0:Nat->D}(L:gQ n w0 S0 C G σ a w)(d8:Ix n h)(I:Fg n h σ=some es)(e3:∀i,i<h.v0->ρ0 i=C.ρ i)(f1:∀i b,S0.qq i=some b->i<h.v0):
  es.length=h.size/\(∀(j:Nat) x e,h.iM[j]?=some x->es[j]?=some e->Has (lU x.2.1 x.2.2) (den C.ρ e))/\
  ∃G',(G'.S=G.S/\G'.β=G.β/\∀b,aak G' h.st b->aak G σ b)/\gQ n w0 S0 ⟨fX ρ0 h.v0 (es.map (den C.ρ)),h.v0+h.size,fun i=>i<h.v0+h.size⟩ G' h.st a w:=by
 unfold Fg at I;split at I
 .rename_i vs g5;simp only at I;split at I
  .rename_i p;injection I with I;simp only[aT]at p;obtain⟨⟨⟨⟨g9,i0⟩,h9⟩,h8⟩,e7⟩:=p;obtain⟨e5,g6⟩:=wF g5;have f7:es.length=h.size:=by rw[<-I,ao,e5];rfl
   have d3:∀(j:Nat) x,vs[j]?=some x->es[j]?=some x.1:=by intro j x f;rw[<-I,ab,f];rfl
   let g4:=fX ρ0 h.v0 (es.map (den C.ρ));let C':Cx:=⟨g4,h.v0+h.size,fun i=>i<h.v0+h.size⟩;let f9:Tag->Tan:=fun g=>if h.v0<=g.1 then(match vs[g.1-h.v0]? with|some (_,some g')=>G.τ g'|_=>.slice none 0 0) else G.τ g
   let G':Gh:=⟨G.S,G.β,f9⟩;have b9:∀i,i<h.v0->C'.ρ i=C.ρ i:=fun i hi=>(JX hi).trans (e3 i hi);have d1:∀g:Tag,g.1<h.v0->G'.τ g=G.τ g:=fun g hg=>if_neg (by omega)
   have V:∀(j:Nat) x,vs[j]?=some x->∀q:Nat,G'.τ (h.v0+j,q)=(match x.2 with|some g'=>G.τ g'|none=>.slice none 0 0):=by intro j x f q;show(if h.v0<=h.v0+j then _ else _)=_;rw[if_pos (by omega)];simp only[Nat.add_sub_cancel_left,f];obtain⟨e,_|g'⟩:=x<;>rfl
   have shrink:∀{c:SC} {u:Tan},ru C w G c u->c.lt h.v0=true->c.ids h.v0=true->ru C' w G' c u:=fun M J h3=>M.shrink J h3 b9 (cP _ _) (fun i hi=>az hi (cP _ _)) rfl (fun _ _=>rfl) d1
   have c9:∀(j:Nat) x,vs[j]?=some x->den C'.ρ (.var (h.v0+j))=den C.ρ x.1:=by intro j x f;show fX ρ0 h.v0 _ _=_;exact Qv (by rw[ab,d3 j x f];rfl)
   have c4:∀{j:Nat} {x},h.iM[j]?=some x->h.v0+j<h.v0+h.size:=by intro j x f;have:=(aO.1 f).1;unfold Head.size;omega
   have a1:∀{j:Nat} {x},h.iM[j]?=some x->∃y,vs[j]?=some y/\mo σ x=some y:=by
    intro j x f;have F:j<vs.length:=by rw[e5];exact(aO.1 f).1
    exact⟨vs[j],aS F,g6 j x _ f (aS F)⟩
   have b8:∀{j:Nat} {s:Slot} {O:Ty} {T:Tao oQ} {c:SC} {u:Tan},h.iM[j]?=some (s,O,T)->lv σ s=some c->ru C w G c u->ru C' w G' (kI (h.v0+j) O T) u/\
     ∀x,vs[j]?=some x->Has (lU O T) (den C.ρ x.1):=by
    intro j s O T c u F a2 hr;obtain⟨y,B,d⟩:=a1 F;have hd:=c9 j y B;have r:=c4 F;unfold mo at d;simp only[a2]at d;cases T with
    |none=>
     simp only at d;split at d
     .split at d
      .exact hr.elim
      cases d
     rename_i R;split at d
     .rename_i e t f8;split at d
      .rename_i e6;injection d with d;subst d;subst e6;obtain⟨q1,q2,q3⟩:=kZ f8 hr;simp only[kI,lU,R];refine⟨⟨by simp only[E.lt,bk];exact r,by rw[hd];exact q2,by rw[hd];exact q3⟩,fun x f=>?_⟩;rw[B]at f;injection f with f;subst f;exact q3
      cases d
     cases d
    |some K=>
     simp only at d
     have f0:0<O.cells.length:=by have:=bY.1 e7 _ (bQ F);simp at this;exact this.2
     obtain⟨K,x0⟩:=K;split at d
     .rename_i t;split at d
      .rename_i e6;injection d with d;subst d;have h0:Has (.list O) (.list []):=bO.2 ⟨[],rfl,gM _,by simp⟩;have X:u=.slice none 0 0:=hr;refine⟨?_,fun x f=>?_⟩
       .cases x0 with
        |false=>
         refine⟨r,by simp only[E.lt,bk];exact r,?_,by rw[hd];exact h0,by rw[V j _ B];exact X⟩;rw[hd,X];exact .nil none 0
        |true=>exact⟨r,by rw[V j _ B];exact X,_,_,_,X⟩
       rw[B]at f;injection f with f;subst f;exact h0
      cases d
     .rename_i g e0 t;split at d
      .rename_i e T' t' a6;split at d
       .rename_i A;obtain⟨rfl,rfl,rfl,Q,a9⟩:=A;have Q:x0=false:=Q;subst Q;injection d with d;subst d;have a3:=L.m.own _ _ _ _ a6;have e9:=a3.rep f0 a9;obtain⟨_,_,_,_,X⟩:=hr;refine⟨⟨r,by simp only[E.lt,bk];exact r,by rw[hd,X];exact e9,by rw[hd];exact a3.has,by rw[V j _ B];exact X⟩,fun x f=>?_⟩;rw[B]at f;injection f with f;subst f;exact a3.has
       cases d
      cases d
     .rename_i g t;split at d
      .rename_i e T' t' a6;split at d
       .rename_i A;obtain⟨rfl,rfl,rfl,Q,a9⟩:=A;have Q:x0=true:=Q;subst Q;injection d with d;subst d;have a3:=L.m.own _ _ _ _ a6;obtain⟨_,X,c2⟩:=hr;refine⟨⟨r,by rw[V j _ B];exact X,c2⟩,fun x f=>?_⟩;rw[B]at f;injection f with f;subst f;exact a3.has
       cases d
      cases d
     cases d
   have b7:∀(j:Nat) x e,h.iM[j]?=some x->es[j]?=some e->Has (lU x.2.1 x.2.2) (den C.ρ e):=by
    rintro j ⟨s,O,T⟩ e F k;obtain⟨y,B,d⟩:=a1 F;have e4:y.1=e:=by have:=d3 j y B;rw[k]at this;injection this with this;exact this.symm
    have c2:∃c,lv σ s=some c:=by
     unfold mo at d;cases hq:lv σ s with
     |none=>simp[hq]at d
     |some c=>exact⟨c,rfl⟩
    obtain⟨c,p⟩:=c2;by_cases f3:∃e0 a5 K,c=.uC e0 a5 K
    .obtain⟨e0,a5,K,rfl⟩:=f3
     have e1:∃id ro,σ.hp id=some (ro,[SC.uC e0 a5 K])\/∃u,ru C w G (.uC e0 a5 K) u:=by
      cases s with
      |tmp t=>
       simp only[lv]at p;split at p
       .rename_i c' d7;injection p with p;subst p;obtain⟨v,_,_,_,h4⟩:=L.t t _ _ d7;simp only[bc,bX,if_true]at h4;exact⟨0,false,.inr ⟨v,h4⟩⟩
       cases p
      |cell id i=>
       simp only[lv]at p;split at p
       .rename_i ro cs Y;obtain⟨_,_,N,_⟩:=L.m.box _ _ _ Y;cases Qa:mapOf cs with
        |none=>
         obtain⟨d4,T',_,hr⟩:=N.cells Qa;have c7:i<d4.length:=by rw[hr.1];exact(aO.1 p).1
         exact⟨0,false,.inr ⟨_,hr.2 i _ _ p (aS c7)⟩⟩
        |some z=>
         unfold mapOf at Qa;split at Qa
         .cases i with
          |zero=>simp at p;obtain⟨rfl,rfl,rfl⟩:=p;exact⟨id,ro,.inl Y⟩
          |succ i=>simp at p
         cases Qa
       cases p
     obtain⟨id,ro,Y|⟨u,X⟩⟩:=e1
     .obtain⟨_,_,N,_⟩:=L.m.box _ _ _ Y;obtain⟨_,i3,_⟩:=N;unfold mo at d;simp only[p]at d;cases T with
      |none=>
       simp only at d;split at d
       .rename_i kt T1 R;split at d
        .rename_i A;obtain⟨rfl,rfl⟩:=A;injection d with d;simp only[lU,R];rw[<-e4,<-d];exact i3
        cases d
       simp[asData]at d
      |some T1=>simp at d
     exact X.elim
    have e8:∃u,ru C w G c u:=by
     cases s with
     |tmp t=>
      simp only[lv]at p;split at p
      .rename_i c' d7;injection p with p;subst p;obtain⟨v,_,_,_,h4⟩:=L.t t _ _ d7;simp only[bc,bX,if_true]at h4;exact⟨v,h4⟩
      cases p
     |cell id i=>
      simp only[lv]at p;split at p
      .rename_i ro cs Y;obtain⟨_,_,N,_⟩:=L.m.box _ _ _ Y
       have h7:mapOf cs=none:=by
        unfold mapOf;split
        .cases i with
         |zero=>simp at p;exact absurd ⟨_,_,_,p.symm⟩ f3
         |succ i=>simp at p
        rfl
       obtain⟨d4,T',_,hr⟩:=N.cells h7;have c7:i<d4.length:=by rw[hr.1];exact(aO.1 p).1
       exact⟨_,hr.2 i c _ p (aS c7)⟩
      cases p
    obtain⟨u,X⟩:=e8;rw[<-e4];exact(b8 F p X).2 y B
   refine⟨f7,b7,G',?_⟩
   have W:∀id ro cs,h.st.hp id=some (ro,cs)->id<h.v0/\∃U,σ.hp id=some (ro,U)/\ss h id 0 cs U=true:=by
    intro id ro cs f
    have Y:id<h.v0:=by
     rcases eH id h.v0 with M|M
     .exact M
     rw[d8.hp id M]at f;cases f
    have:=bY.1 i0 id (cI.2 Y);simp only[f]at this;split at this
    .rename_i i6 U f5;simp only[aT,beq_iff_eq]at this;exact⟨Y,U,by rw[f5,this.1],this.2⟩
    cases this
   have P:∀g x,h.st.live g=some x->(g.1<h.v0/\σ.live g=some x/\x.1.lt h.v0=true/\(∀(j:Nat) y,vs[j]?=some y->y.2≠some g))\/
     (∃j s O K y,h.iM[j]?=some (s,O,some K)/\vs[j]?=some y/\g=lC (h.v0+j) K/\x=(.var (h.v0+j),K.1,O)/\(y.2=none/\y.1=.nil\/∃g',y.2=some g'/\σ.live g'=some (y.1,K.1,O)/\g'.ex=K.2)):=by
    intro g x f;rcases d8.live g x f with hk|⟨j,s,T,F,K,hT,hg,a8⟩
    .have:=bY.1 h9 g hk;simp only[f,aT,bk,eT]at this;refine .inl ⟨this.1.1.2,this.1.1.1,this.1.2,fun j y B k=>?_⟩;have f2:some g∈vs.map (·.2):=bq.2 ⟨y,bQ B,k⟩;have J:=this.2;rw[List.contains_eq_mem]at J;simp[f2]at J
    obtain⟨O,T⟩:=T;simp only at hT a8;subst hT;obtain⟨y,B,d⟩:=a1 F;refine .inr ⟨j,s,O,K,y,F,B,hg,a8,?_⟩;unfold mo at d;simp only at d;split at d
    .split at d
     .split at d
      .injection d with d;subst d;exact .inl ⟨rfl,rfl⟩
      cases d
     .rename_i g0 e0 t _;split at d
      .rename_i e T' t' hl;split at d
       .rename_i A;obtain⟨rfl,rfl,rfl,Q,a9⟩:=A;injection d with d;subst d;exact .inr ⟨g0,rfl,hl,a9.trans Q.symm⟩
       cases d
      cases d
     .rename_i g0 t _;split at d
      .rename_i e T' t' hl;split at d
       .rename_i A;obtain⟨rfl,rfl,rfl,Q,a9⟩:=A;injection d with d;subst d;exact .inr ⟨g0,rfl,hl,a9.trans Q.symm⟩
       cases d
      cases d
     cases d
    cases d
   have d0:∀g x b,h.st.live g=some x->(G'.τ g).ownBlock=some b->∃g0 x0,σ.live g0=some x0/\(G.τ g0).ownBlock=some b/\((g.1<h.v0/\g0=g)\/∃j y s O K,h.iM[j]?=some (s,O,some K)/\vs[j]?=some y/\y.2=some g0/\g=lC (h.v0+j) K):=by
    intro g x b f Z;rcases P g x f with⟨M,J,h3,_⟩|⟨j,s,O,K,y,F,B,hg,a8,NK⟩
    .rw[d1 g M]at Z;exact⟨g,x,J,Z,.inl ⟨M,rfl⟩⟩
    rw[hg]at Z;unfold lC at Z;rw[V j y B]at Z;rcases NK with⟨hn,_⟩|⟨g',U3,hl,_⟩
    .rw[hn]at Z;cases Z
    rw[U3]at Z;exact⟨g',_,hl,Z,.inr ⟨j,y,s,O,K,F,B,U3,hg⟩⟩
   refine⟨⟨rfl,rfl,?_⟩,?_,?_,L.sz,L.defers⟩
   .rintro b (⟨id,y,B,rfl⟩|⟨g,y,B,Z⟩)
    .obtain⟨_,ci,J,_⟩:=W id y.1 y.2 B;exact .inl ⟨id,_,J,rfl⟩
    obtain⟨g0,x0,l0,b0,_⟩:=d0 g y b B Z;exact .inr ⟨g0,x0,l0,b0⟩
   ·
    refine⟨L.m.below,L.m.jI,L.m.keep,?_,L.m.lq,L.m.dT,L.m.gY,?_,?_,?_,?_,?_,?_,?_,fun f6 g=>?_,L.m.wz⟩
    rotate_right
    .show yV (jn w0 S0) w G.S (if h.v0<=g.1 then(match vs[g.1-h.v0]? with|some (_,some g')=>G.τ g'|_=>.slice none 0 0) else G.τ g);split
     .split
      .exact L.m.fresh f6 _
      intro a0 n0 i5 i7;exact .inl rfl
     exact L.m.fresh f6 g
    .intro i b hi;exact⟨az (f1 i b hi) (cP _ _),(L.m.qq i b hi).2⟩
    .intro id x f;obtain⟨M,_⟩:=W id x.1 x.2 f;exact az M (cP _ _)
    .intro id ro cs f;obtain⟨M,U,J,h3⟩:=W id ro cs f;obtain⟨b1,b2,N,b5⟩:=L.m.box id ro U J;obtain⟨k1,k2⟩:=wM h3;cases Qa:mapOf U with
     |some z=>
      unfold mapOf at Qa;split at Qa
      .rename_i e0 a5 K;obtain⟨c,A⟩:=bI.1 k1;subst A;obtain⟨g1,g2,g3⟩:=N;rcases k2 0 c (.uC e0 a5 K) rfl rfl with⟨j,O,T1,c3,rfl⟩|⟨k,r,aay,a2⟩
       .obtain⟨_,F⟩:=pw c3;rw[Nat.sub_zero,av]at F;obtain⟨y,B,d⟩:=a1 F;have hd:=c9 j y B;unfold mo at d;have h6:lv σ (.cell id 0)=some (.uC e0 a5 K):=by simp only[lv,J];rfl
        simp only[h6]at d;cases T1 with
        |none=>
         simp only at d;split at d
         .rename_i kt T2 R;split at d
          .rename_i A;obtain⟨rfl,rfl⟩:=A;injection d with d;rw[<-d]at hd;simp only[kI,R];exact⟨b1,rfl,⟨by simp only[E.lt,bk];exact c4 F,by rw[hd];exact g2,by rw[hd];exact g3⟩,b5⟩
          cases d
         simp[asData]at d
        |some T1=>simp at d
       subst k;have b6:den C'.ρ e0=den C.ρ e0:=dQ b9 r
       have g7:e0.lt (h.v0+h.size)=true:=by
        have:∀{e:E},e.lt h.v0=true->e.lt (h.v0+h.size)=true:=by
         intro e
         induction e with
         |var i=>intro k;simp only[E.lt,bk]at k⊢;omega
         |aZ|fa|BC|gI|nil=>intro _;rfl
         |cons a b pX pW=>intro k;simp only[E.lt,aT]at k⊢;exact⟨pX k.1,pW k.2⟩
         |un o e ih=>intro k;exact ih k
         |bin o a b pX pW=>intro k;simp only[E.lt,aT]at k⊢;exact⟨pX k.1,pW k.2⟩
         |ite c a b KF pX pW=>intro k;simp only[E.lt,aT]at k⊢;exact⟨⟨KF k.1.1,pX k.1.2⟩,pW k.2⟩
        exact this r
       exact⟨b1,b2,⟨g7,by rw[b6];exact g2,by rw[b6];exact g3⟩,b5⟩
      cases Qa
     |none=>
     obtain⟨us,T,b3,b4⟩:=N.cells Qa
     have a4:∀(i:Nat) c,cs[i]?=some c->c.scalar=true/\∀u,us[i]?=some u->ru C' w G' c u:=by
      intro i c p;have c7:i<U.length:=by rw[<-k1];exact(aO.1 p).1
      have d2:U[i]?=some U[i]:=aS c7;rcases k2 i c _ p d2 with⟨j,O,T1,c3,rfl⟩|⟨k,r,aay,a2⟩
      .obtain⟨_,F⟩:=pw c3;rw[Nat.sub_zero]at F;rw[av]at F;have a2:=bY.1 e7 _ (bQ F);simp only[aT]at a2;refine⟨?_,fun u X=>(b8 F (by simp only[lv,J];exact d2) (b4.2 i _ u d2 X)).1⟩;cases T1 with
       |none=>
        cases R:E7 O with
        |none=>simp only[kI,lU,R]at a2⊢;exact a2.1
        |some z=>simp only[kI,R];rfl
       |some T1=>obtain⟨T1,_|_⟩:=T1<;>rfl
      refine⟨a2,fun u X=>shrink ?_ r aay⟩;have:=b4.2 i _ u d2 X;rw[k]at this;exact this
     refine⟨b1,?_,jL.mk (vs:=us) (T:=T) b3 ⟨by rw[b4.1,k1],fun i c u p X=>(a4 i c p).2 u X⟩,?_⟩
     .rw[bY];intro c p;obtain⟨i,hi⟩:=aE p;exact(a4 i c hi).1
     rw[k1];exact b5
    .intro i j x y hi F k;obtain⟨_,ci,J,_⟩:=W i x.1 x.2 hi;obtain⟨_,cj,h3,_⟩:=W j y.1 y.2 F;exact L.m.inj i j _ _ J h3 k
    .intro g e T t f;rcases P g _ f with⟨M,J,h3,_⟩|⟨j,s,O,K,y,F,B,hg,a8,NK⟩
     .have ho:=L.m.own g e T t J;have b6:den C'.ρ e=den C.ρ e:=dQ b9 h3
      have f4:e.lt (h.v0+h.size)=true:=by
       have:=(shrink (c:=.gH e .bool) (u:=.bool true));clear this;revert h3;clear f J ho b6
       induction e with
       |var i=>intro k;simp only[E.lt,bk]at k⊢;omega
       |aZ|fa|BC|gI|nil=>intro _;rfl
       |cons a b pX pW=>intro k;simp only[E.lt,aT]at k⊢;exact⟨pX k.1,pW k.2⟩
       |un o e ih=>intro k;exact ih k
       |bin o a b pX pW=>intro k;simp only[E.lt,aT]at k⊢;exact⟨pX k.1,pW k.2⟩
       |ite c a b KF pX pW=>intro k;simp only[E.lt,aT]at k⊢;exact⟨⟨KF k.1.1,pX k.1.2⟩,pW k.2⟩
      obtain⟨xs,l,q1,q2,q3,q4⟩:=ho.own;refine⟨az M (cP _ _),f4,by rw[b6];exact ho.has,xs,l,by rw[b6];exact q1,?_,?_,q4⟩
      .rw[d1 g M];exact q2
      rw[d1 g M];exact q3
     simp only[ah]at a8;obtain⟨rfl,rfl,rfl⟩:=a8;have hd:=c9 j y B;have r:=c4 F;subst hg;have a7:G'.τ (lC (h.v0+j) K)=(match y.2 with|some g'=>G.τ g'|none=>.slice none 0 0):=V j y B _;have h5:=IH (h.v0+j) K;rcases NK with⟨hn,aaw⟩|⟨g',U3,hl,hgx⟩
     .refine⟨r,by simpa [E.lt]using r,by rw[hd,aaw];exact bO.2 ⟨[],rfl,gM _,by simp⟩,[],[],by rw[hd,aaw];rfl,?_,?_,by simp⟩
      .rw[a7,hn];exact fJ w _ _ _
      rw[a7,hn];intro b Z;cases Z
     have ho:=L.m.own _ _ _ _ hl;obtain⟨xs,l,q1,q2,q3,q4⟩:=ho.own;refine⟨r,by simpa [E.lt]using r,by rw[hd];exact ho.has,xs,l,by rw[hd];exact q1,?_,?_,q4⟩
     .rw[a7,U3];exact q2
     rw[a7,U3,h5,<-hgx];exact q3
    .intro g x b f Z;obtain⟨g0,x0,M,J,_⟩:=d0 g x b f Z;exact L.m.gh g0 x0 b M J
    .intro g g' x y b f B Z i4;obtain⟨g0,x0,l0,b0,c0⟩:=d0 g x b f Z;obtain⟨g1,x1,l1,b1,c1⟩:=d0 g' y b B i4;have k:=L.m.jA g0 g1 x0 x1 b l0 l1 b0 b1;subst k;rcases c0 with⟨M,rfl⟩|⟨j,z,s,O,K,F,hz,hz2,hg⟩<;>rcases c1 with⟨J,h3⟩|⟨j',z',s',ty',T0',c6,hz',aas,U3⟩
     .exact h3
     .rcases P g0 x f with⟨_,_,_,hno⟩|⟨j0,_,_,_,_,_,_,hg0,_,_⟩
      .exact absurd aas (hno j' z' hz')
      rw[hg0]at M;simp[lC]at M;omega
     .subst h3;rcases P g0 y B with⟨_,_,_,hno⟩|⟨j0,_,_,_,_,_,_,hg0,_,_⟩
      .exact absurd hz2 (hno j z hz)
      rw[hg0]at J;simp[lC]at J;omega
     have:=rb h8 j j' g0 (by rw[ab,hz];simp[hz2]) (by rw[ab,hz'];simp[aas]);subst this;rw[F]at c6;injection c6 with c6;simp only[ah,aa]at c6;rw[hg,U3,c6.2.2]
    intro g id x y b f B Z;obtain⟨g0,x0,l0,b0,_⟩:=d0 g x b f Z;obtain⟨_,ci,J,_⟩:=W id y.1 y.2 B;exact L.m.eV g0 id x0 _ b l0 J b0
   ·
    intro t c s d6
    have g8:t<n:=by
     rcases eH t n with M|M
     .exact M
     rw[d8.tm t M]at d6;cases d6
    have:=bY.1 g9 t (cI.2 g8);simp only[d6]at this;split at this
    .rename_i j O T c3;simp only[bk]at this;obtain⟨rfl,rfl⟩:=this;obtain⟨_,F⟩:=pw c3;rw[Nat.sub_zero]at F;obtain⟨y,B,d⟩:=a1 F
     have p:∃c,σ.tm t=some ([],.one c)/\lv σ (.tmp t)=some c:=by
      unfold mo at d;cases hq:lv σ (.tmp t) with
      |none=>simp[hq]at d
      |some c=>
       refine⟨c,?_,rfl⟩;simp only[lv]at hq;split at hq
       .rename_i c' h';injection hq with hq;subst hq;exact h'
       cases hq
     obtain⟨c,i2,i1⟩:=p;obtain⟨v,M,_,_,h4⟩:=L.t t _ _ i2;simp only[bc,bX,if_true]at h4;have hr:=(b8 F i1 h4).1;refine⟨v,M,by simp,?_,by simp only[bc,bX,if_true];exact hr⟩;cases T with
     |none=>
      cases R:E7 O with
      |none=>simp only[kI,R]at hr⊢;exact hr.1
      |some z=>simp only[kI,R]at hr;exact hr.elim
     |some K=>
      obtain⟨K,_|_⟩:=K
      .exact hr.2.1
      rfl
    simp only[aT,bk]at this;obtain⟨⟨⟨M,J⟩,h3⟩,h4⟩:=this;obtain⟨v,q1,q2,q3,q4⟩:=L.t t c s M;have e2:∀x∈c,x.1.lt h.v0=true:=bY.1 h4
    have up:∀{e:E},e.lt h.v0=true->e.lt (h.v0+h.size)=true:=by
     intro e
     induction e with
     |var i=>intro k;simp only[E.lt,bk]at k⊢;omega
     |aZ|fa|BC|gI|nil=>intro _;rfl
     |cons a b pX pW=>intro k;simp only[E.lt,aT]at k⊢;exact⟨pX k.1,pW k.2⟩
     |un o e ih=>intro k;exact ih k
     |bin o a b pX pW=>intro k;simp only[E.lt,aT]at k⊢;exact⟨pX k.1,pW k.2⟩
     |ite c a b KF pX pW=>intro k;simp only[E.lt,aT]at k⊢;exact⟨⟨KF k.1.1,pX k.1.2⟩,pW k.2⟩
    have d5:∀{c:SC},c.lt h.v0=true->c.lt (h.v0+h.size)=true:=by intro c p;cases c<;>simp only[SC.lt,aT]at p⊢<;>first|exact up p|exact⟨up p.1,up p.2⟩
    have d9:bc C'.ρ c=bc C.ρ c:=by
     unfold bc;rw[dJ,bY,bY];constructor
     .intro H x f;rw[<-dQ b9 (e2 x f)];exact H x f
     intro H x f;rw[dQ b9 (e2 x f)];exact H x f
    refine⟨v,q1,fun x f=>up (e2 x f),?_,?_⟩
    .cases s with
     |one c=>exact d5 J
     |agg l=>simp only[SV.lt,bY]at J⊢;exact fun c p=>d5 (J c p)
     |ff l=>simp only[SV.lt,bY]at J⊢;exact fun x f c p=>d5 (J x f c p)
    show if bc C'.ρ c=true then _ else _
    rw[d9];split
    .rename_i A;rw[if_pos A]at q4;exact SV.EB q4 J h3 shrink
    rename_i A;rw[if_neg A]at q4;exact q4
  cases I
 cases I
def FW{h:Head}{es:List E}{ρ0:Nat->D}(l:gQ n w0 S0 C G σ a w)(g:Ix n h)(f:Fg n h σ=some es)(c:∀i,i<h.v0->ρ0 i=C.ρ i)(d:∀i b,S0.qq i=some b->i<h.v0):
  es.length=h.size/\(∀(j:Nat) x e,h.iM[j]?=some x->es[j]?=some e->Has (lU x.2.1 x.2.2) (den C.ρ e))/\
  ∃k,gQ n w0 S0 ⟨fX ρ0 h.v0 (es.map (den C.ρ)),h.v0+h.size,fun i=>i<h.v0+h.size⟩ k h.st a w:=by obtain⟨p,o,k,_,m⟩:=LV l g f c d;exact⟨p,o,k,m⟩
end
def E.wu{n m:Nat}(h:n<=m):∀{e:E},e.lt n=true->e.lt m=true:=by
 intro e
 induction e with
 |var i=>intro d;simp only[E.lt,bk]at d⊢;omega
 |aZ|fa|BC|gI|nil=>intro _;rfl
 |cons a b pX pW=>intro d;simp only[E.lt,aT]at d⊢;exact⟨pX d.1,pW d.2⟩
 |un o e ih=>intro d;exact ih d
 |bin o a b pX pW=>intro d;simp only[E.lt,aT]at d⊢;exact⟨pX d.1,pW d.2⟩
 |ite c a b KF pX pW=>intro d;simp only[E.lt,aT]at d⊢;exact⟨⟨KF d.1.1,pX d.1.2⟩,pW d.2⟩
def Ev{ρ b:Nat->D}{n:Nat}(h:∀i,i<n->b i=ρ i){c:dM}(e:(c.all fun x=>x.1.lt n)=true):bc b c=bc ρ c:=by
 unfold bc;rw[bY]at e;rw[dJ,bY,bY];constructor
 .intro H x d;rw[<-dQ h (e x d)];exact H x d
 intro H x d;rw[dQ h (e x d)];exact H x d
structure E1 where
 k:Nat
 g:Tag
 e:E
 T:Tba
 dst:Tak
 unit:Bool
def TG(n:Nat):Tak->Bool
 |some d=>decide (d<n)
 |none=>true
def VG(P:Tap)(cs:ni)(n:Nat)(σ:St)(o:Tbc):Tao E1:=
 match o.guard,o.op with
 |none,.call {callee:=.value f,args,argTypes}=>
  match gp P σ [] f 0,args.toList with
  |some (.one (.gH _ (.fn k .nil))),[x]=>
   match lk cs.l k,gp P σ [] x (argTypes.getD 0 0) with
   |some sig,some (.one (.own g _ _))=>
    match sig.ob,σ.live g with
    |some ob,some (e,T,t)=>
     if ob.wW=true/\t=.int .i64/\TG n o.dst=true then some ⟨k,g,e,T,o.dst,sig.res.isEmpty⟩ else none
    |_,_=>none
   |_,_=>none
  |_,_=>none
 |_,_=>none
def Pq(P:Tap)(cs:ni)(σ:St)(o:Tbc):Bool:=
 match o.op with
 |.call {callee:=.value f,.. }=>match gp P σ [] f 0 with
  |some (.one (.gH _ (.fn k .nil)))=>match lk cs.l k with
   |some sig=>match sig.ob with
    |some ob=>ob.wW
    |none=>false
   |none=>false
  |_=>false
 |_=>false
def MY(P:Tap)(cs:ni)(σ:St)(ops:Tad)(b:Bool):Tak:=
 if b||cs.fr !=0 then none else(List.range ops.size).find? fun i=>match ops[i]? with
  |some o=>Pq P cs σ o
  |none=>false
def O5{P:Tap}{cs:ni}{σ:St}{ops:Tad}{b:Bool}{c:Nat}(h:MY P cs σ ops b=some c):b=false/\cs.fr=0/\c<ops.size:=by
 unfold MY at h;split at h
 .cases h
 rename_i d;simp only[bW,not_or,Bool.not_eq_true,bne_iff_ne,ne_eq,fK]at d;exact⟨d.1,d.2,by simpa using List.mem_of_find?_eq_some h⟩
def XH:SC->Bool
 |.gH _ (.int _)=>true
 |.gH _ .bool=>true
 |_=>false
def Tz(x:E1)(p:Nat)(tm:Nat->Tao (dM×SV))(t:Nat):Tao (dM×SV):=
 if x.dst=some t then(if x.unit then none else some ([],.one (.own (p,0) (.var p) (.int .i64))))
 else match tm t with
  |some (c,.one s)=>if XH s then some (c,.one s) else match s with
    |.own g' _ _=>if g'=x.g/\x.unit=true/\c=[] then some ([],.one (.own (p,0) (.var p) (.int .i64))) else none
    |_=>none
  |_=>none
def E1.after(x:E1)(σ:St)(p:Nat):St:=
 ⟨Tz x p σ.tm,fun _=>none,fun y=>if y=(p,0) then some (.var p,x.T,.int .i64) else none⟩
def sX{l:Taf}(h:∀x∈l,Has (.int .i64) x):∃b:List Int,l=b.map (D.int .i64):=by
 induction l with
 |nil=>exact⟨[],rfl⟩
 |cons d l ih=>
  obtain⟨b,rfl⟩:=ih fun x c=>h x (aK _ c);obtain⟨n,rfl,_⟩:=dt.1 (h d (br ..));exact⟨n::b,rfl⟩
def Mb{w w':Tam}{b o:Nat}(h:w'.heap[b]?=w.heap[b]?):w'.cell? ⟨b,o,none⟩=w.cell? ⟨b,o,none⟩:=by simp only[World.cell?,h]
def Ot{w:Tam}{base:Nat}{T:Tba}{v:Tan}{m:Nat}{xs:Tac}(h:w.ownsRow base T 1 v m xs){b:Nat}(c:v.ownBlock=some b):b<w.heap.size:=by
 rcases h.2 with⟨rfl,_⟩|⟨g,cap,cur,rfl,_,hg,_⟩
 .cases c
 simp only[Value.ownBlock,aa]at c;subst c;exact(aP.1 hg).1
section
variable{P:Tap}{w w0:Tam}{S0:gK}{ρ:Nat->D}{p:Nat}{G:Gh}{σ:St}{a:Act}{n:Nat}
def jg.ints{C:Cx}{g:Tag}{e:E}{T:Tba}(h:jg C w 0 G g e T (.int .i64)):∃b:List Int,den C.ρ e=.list (b.map (D.int .i64))/\w.ownsRow 0 T 1 (G.τ g) b.length (b.map (Value.int .i64)):=by
 obtain⟨xs,l,m,d,_,s⟩:=h.own;have q:=h.has;rw[m]at q;obtain⟨_,f,_,t⟩:=bO.1 q;injection f with f;subst f;obtain⟨b,rfl⟩:=sX t;refine⟨b,m,?_⟩
 have u:xs=b.map (Value.int .i64):=by
  apply dD;intro i
  have k:xs.length=b.length:=by have h:xs.length=(b.map (D.int .i64)).length*1:=d.1;rw[ao,bK]at h;exact h
  by_cases o:i<b.length
  .have j:xs[i]?=some xs[i]:=aS (by omega);have r:(b.map (D.int .i64))[i]?=some (.int .i64 b[i]):=by simp[o]
   have:=s i _ 0 xs[i] (.int .i64 b[i]) r rfl (by show xs[i*1+0]?=_;rw[bK,dO];exact j);rw[j,this.cQ];simp[o]
  rw[cC (by omega),cC (by simp;omega)]
 have c:w.ownsRow 0 T 1 (G.τ g) (b.map (D.int .i64)).length xs:=d;rw[ao]at c;rw[<-u];exact c
def gQ.XA{x:E1}{u v':Tan}{ys:List Int}{w':Tam}(l:gQ n w0 S0 ⟨ρ,p,fun i=>i<p⟩ G σ a w)(a8:∀b o,S0.jG b o->¬jn w0 S0 b)(hg:∃e,σ.live x.g=some (e,x.T,.int .i64))(a9:∀d,x.dst=some d->d<n)(b7:¬S0.fr)(b6:¬S0.wz)(hh:Has (.list (.int .i64)) (.list (ys.map (D.int .i64))))(H:UM w x.T (G.τ x.g) x.unit ys u v' w'):
  ∃G',gQ n w0 S0 ⟨fC ρ p (.list (ys.map (D.int .i64))),p+1,fun i=>i<p+1⟩ G' (x.after σ p) (a.put x.dst u) w':=by
 obtain⟨e,hg⟩:=hg;have N:∀b,v'.ownBlock=some b->jn w0 S0 b:=fun b B=>l.m.gh x.g _ b hg (by rw[<-H.GY];exact B);have M:∀b,(G.τ x.g).ownBlock=some b->jn w0 S0 b:=fun b B=>l.m.gh x.g _ b hg B;have Z:∀b o,S0.jG b o->w'.heap[b]?=w.heap[b]? :=fun b o B=>H.below.block b (l.m.dT b o (l.m.jI b o B)) (fun h=>a8 b o B (M b h));have b1:∀i,i<p->(fC ρ p (.list (ys.map (D.int .i64)))) i=ρ i:=fun i hi=>fu _ _ (by omega);have W:den (fC ρ p (.list (ys.map (D.int .i64)))) (.var p)=.list (ys.map (D.int .i64)):=dZ _ _ _
 have a3:∀(S:bE),(∀b,v'.ownBlock=some b->∀o,o<ys.length->S b o)->cg w' S v' (.list (ys.map (D.int .i64))):=by
  intro S hS;rcases H.own.2 with⟨rfl,h0⟩|⟨gb,cap,cur,rfl,_,hgb,hle,_,UZ,PZ⟩
  .have:ys=[]:=au h0;subst this;exact .nil none 0
  cases hys:ys with
  |nil=>exact .nil _ _
  |cons y0 yr=>
   rw[<-hys];have a7:(ys.map (D.int .i64)).length=ys.length:=by simp
   have:=cg.list (w:=w') (S:=S) gb 0 cap 1 (ys.map (Value.int .i64)) (ys.map (D.int .i64)) (by omega) (by rw[hys];simp) (by simpa using hle) (by simp)
    (fun i hi=>by rw[av];exact hS gb rfl i (by simpa using hi))
    (fun i v hi=>by
     rw[cell_of_row w' gb (0+i) cur x.T (0,0) hgb,av];have O:(cur.toList.take (ys.length*1))[i]?=some v:=by rw[PZ];exact hi
     rw[aq]at O;split at O
     .simpa using O
     cases O)
    (fun i d I=>by simp only[ab,dn]at I;obtain⟨z,_,rfl⟩:=I;rfl)
    (fun i d j v c I J V=>by
     simp only[ab,dn]at I;obtain⟨z,hz,rfl⟩:=I;cases j with
     |succ j=>simp[D.cells]at J
     |zero=>
      simp only[D.cells,du,aa]at J;subst J;rw[bK,dO,ab,hz]at V;simp only[aV,aa]at V;subst V;exact .int _ _)
   rwa [a7]at this
 let S':bE:=fun b o=>S0.jG b o\/(v'.ownBlock=some b/\o<ys.length)
 have b2:∀b,v'.ownBlock=some b->∀o,S' b o↔o<ys.length:=fun b B o=>
  ⟨fun h=>h.elim (fun h=>absurd (N b B) (a8 b o h)) (fun h=>h.2),fun h=>.inr ⟨B,h⟩⟩
 have X:=a3 S' (fun b B o h=>(b2 b B o).2 h);let G':Gh:=⟨S',G.β,fun y=>if y=(p,0) then v' else G.τ y⟩;have Q:G'.τ (p,0)=v':=if_pos rfl;have hM:(fun i=>i<p+1) p:=ca p;have F:(E.var p).lt (p+1)=true:=by simp[E.lt]
 have a4:jg ⟨fC ρ p (.list (ys.map (D.int .i64))),p+1,fun i=>i<p+1⟩ w' 0 G' (p,0) (.var p) x.T (.int .i64):=by
  refine⟨hM,F,by rw[W];exact hh,ys.map (Value.int .i64),ys.map (D.int .i64),W,?_,?_,?_⟩
  .rw[Q,ao];exact H.own
  .intro b B o;rw[Q]at B;rw[ao];exact(b2 b B o).trans ⟨fun h=>⟨rfl,h⟩,And.right⟩
  intro i d j v c I J V;simp only[ab,dn]at I;obtain⟨z,hz,rfl⟩:=I;cases j with
  |succ j=>simp[D.cells]at J
  |zero=>
   simp only[D.cells,du,aa]at J;subst J;have e1:(Ty.int .i64).cells.length=1:=rfl;rw[e1,bK,dO,ab,hz]at V;simp only[aV,aa]at V;subst V;exact .int _ _
 have q:∀y z,(x.after σ p).live y=some z->y=(p,0)/\z=(.var p,x.T,.int .i64):=by
  intro y z f;simp only[E1.after]at f;split at f
  .rename_i h;injection f with f;exact⟨h,f.symm⟩
  cases f
 have a2:ru ⟨fC ρ p (.list (ys.map (D.int .i64))),p+1,fun i=>i<p+1⟩ w' G' (.own (p,0) (.var p) (.int .i64)) v':=
  ⟨hM,F,by rw[W];exact X,by rw[W];exact hh,Q.symm⟩
 refine⟨G',⟨⟨?_,fun b o h=>.inl h,?_,?_,l.m.lq,?_,?_,?_,?_,?_,?_,?_,?_,?_,fun h=>absurd h b7,fun h=>absurd h b6⟩,?_,by rw[Act.Ak];exact l.sz,by rw[Act.J9];exact l.defers⟩⟩
 .refine⟨H.below.os.trans l.m.below.os,H.below.tape.trans l.m.below.tape,H.below.output.trans l.m.below.output,aY l.m.below.size H.below.size,fun k hk a5=>?_⟩;rw[H.below.block k (az hk l.m.below.size) (fun h=>(M k h).elim (fun h=>absurd hk (Nat.not_lt.2 h)) a5),l.m.below.block k hk a5]
 .intro b o h;rw[Mb (Z b o h)];exact l.m.keep b o h
 .intro i b hi;obtain⟨O,R⟩:=l.m.qq i b hi;exact⟨Nat.lt_succ_of_lt O,R⟩
 .rintro b o (h|⟨h,_⟩)
  .exact az (l.m.dT b o (l.m.jI b o h)) H.below.size
  exact Ot H.own h
 .rintro b o (h|⟨h,_⟩)
  .exact .inl h
  exact .inr (N b h)
 .intro id y f;cases f
 .intro id ro cs f;cases f
 .intro i j y z f;cases f
 .intro g' e' T' t' f;obtain⟨rfl,R⟩:=q _ _ f;simp only[ah]at R;obtain⟨rfl,rfl,rfl⟩:=R;exact a4
 .intro g' z b f B;obtain⟨rfl,_⟩:=q _ _ f;rw[Q]at B;exact N b B
 .intro g1 g2 y z b O R _ _;rw[(q _ _ O).1,(q _ _ R).1]
 .intro g' id y z b _ f;cases f
 intro t c s r;simp only[E1.after,Tz]at r;split at r
 .rename_i I;split at r
  .cases r
  rename_i hu;simp only[aa,ah]at r;obtain⟨rfl,rfl⟩:=r;have A:=H.res;rw[if_neg hu]at A;subst A;have b9:t<a.tmps.size:=by rw[l.sz];exact a9 t I
  refine⟨u,by rw[I];simp[Act.put,b9],by simp,F,?_⟩;have:bc (fC ρ p (.list (ys.map (D.int .i64)))) ([]:dM)=true:=rfl;rw[if_pos this];exact a2
 rename_i I
 have U:∀v,a.tmps[t]?=some v->(a.put x.dst u).tmps[t]?=some v:=by
  intro v W;unfold Act.put;cases Yk:x.dst with
  |none=>exact W
  |some d=>
   have b8:d≠t:=fun h=>I (by rw[Yk,h]);simp only;rw[Array.getElem?_setIfInBounds_ne b8];exact W
 split at r
 .rename_i c' s' b4;obtain⟨v,O,R,h0,h3⟩:=l.t t c' _ b4;have a6:∀y∈c',y.1.lt (p+1)=true:=fun y f=>E.wu (Nat.le_succ p) (R y f);have c0:bc (fC ρ p (.list (ys.map (D.int .i64)))) c'=bc ρ c':=Ev b1 (bY.2 R);split at r
  .rename_i L;simp only[aa,ah]at r;obtain⟨rfl,rfl⟩:=r
   obtain⟨e',k',b5⟩:∃(e':E) (ty:Ty),s'=.gH e' ty/\((∃k,ty=.int k)\/ty=.bool):=by
    cases s' with
    |gH e' ty=>
     cases ty with
     |int k=>exact⟨e',_,rfl,.inl ⟨k,rfl⟩⟩
     |bool=>exact⟨e',_,rfl,.inr rfl⟩
     |_=>cases L
    |_=>cases L
   obtain⟨rfl,b3⟩:=b5;have a0:e'.lt p=true:=h0;refine⟨v,U v O,a6,E.wu (Nat.le_succ p) a0,?_⟩;rw[c0];have C:if bc ρ c'=true then wR ⟨ρ,p,fun i=>i<p⟩ w G (.one (.gH e' k')) v else v=undef:=h3
   split
   .rename_i J;rw[if_pos J]at C;obtain⟨_,q2,q3⟩:=C;have b0:den (fC ρ p (.list (ys.map (D.int .i64)))) e'=den ρ e':=dQ b1 a0;refine⟨E.wu (Nat.le_succ p) a0,?_,by rw[b0];exact q3⟩;rw[b0];rcases b3 with⟨k,rfl⟩|rfl
    .obtain⟨m,hm,_⟩:=dt.1 q3;have K:cg w G.S v (den ρ e'):=q2;have Y:den ρ e'=.int k m:=hm;rw[Y]at K⊢;rw[K.cQ];exact .int _ _
    obtain⟨m,hm⟩:=dg.1 q3;have K:cg w G.S v (den ρ e'):=q2;have Y:den ρ e'=.bool m:=hm;rw[Y]at K⊢;rw[K.gU];exact .bool _
   rename_i J;rw[if_neg J]at C;exact C
  split at r
  .rename_i g' _ _;split at r
   .rename_i J;obtain⟨rfl,hu,rfl⟩:=J;simp only[aa,ah]at r;obtain⟨rfl,rfl⟩:=r;have A:=H.res;rw[if_pos hu]at A;subst A;have:bc ρ ([]:dM)=true:=rfl;have C:=h3;rw[if_pos this]at C;obtain⟨_,_,_,_,a1⟩:=C;refine⟨v,U v O,by simp,F,?_⟩;have:bc (fC ρ p (.list (ys.map (D.int .i64)))) ([]:dM)=true:=rfl;rw[if_pos this,a1];exact a2
   cases r
  cases r
 cases r
def QH{cs:ni}{Φ:Taa}{Pre:eN}{ops:Tad}{o:Tbc}{x:E1}(h:VG P cs n σ o=some x)(O:∀k c,lk cs.l k=some c->bu P k c (Pre k) (Φ k))(V:gQ n w0 S0 ⟨ρ,p,fun i=>i<p⟩ G σ a w)(I:Pre x.k [den ρ x.e])(Y:∀k c E,lk cs.l k=some c->c.ob=some E->E.wW=true->∀b o,S0.jG b o->¬jn w0 S0 b)(a1:¬S0.fr)(a0:¬S0.wz):
  ∀(next:Act->Tae) (Q:Iv),(∀a' U G',gQ n w0 S0 ⟨fC ρ p (Φ x.k [den ρ x.e]),p+1,fun i=>i<p+1⟩ G' (x.after σ p) a' U->next a' U)->Region.wanted o (yielded ops a.tmps)=true/\o.wp P a w next Q:=by
 intro next Q hQ
 unfold VG at h;split at h
 .rename_i f R C a2 Z;split at h
  .rename_i fe k y hf B;split at h
   .rename_i c g _ _ hk hy;split at h
    .rename_i E e T t J L;split at h
     .rename_i hc;obtain⟨r,rfl,v⟩:=hc;injection h with h;subst h;have a4:=Y k c E hk J r;have s:=V.m.own g e T (.int .i64) L;obtain⟨S,hz,H⟩:=s.ints;have j:=O k c hk
      have a3:a.eval f=.func (.func k) #[] #[]:=by obtain⟨_,h2,h3⟩:=df V.t (pc:=[]) rfl hf;obtain⟨l,hl,K⟩:=lz.1 h3;rw[dy.1 K]at hl;rw[hl]at h2;obtain⟨cv,a6,M,_⟩:=h2.xf;rw[a6,au M]
      have W:a.eval y=G.τ g:=(df V.t (pc:=[]) rfl hy).2.2.2.2
      have q:R.map a.eval=#[G.τ g]:=by apply dI;rw[Array.toList_map,B];simp[W]
      have F:(execOp a.eval o).run P w=.ok (.enter k #[G.τ g]) w:=by unfold execOp;simp only[Z,resolve,a3,Deferred.ofValue,q];have:=j.enter #[G.τ g] w;simpa [invoke]using this
      refine⟨by unfold Region.wanted;rw[a2],?_⟩;unfold Oper.wp;rw[F];have z:den ρ e=.list (S.map (D.int .i64)):=hz;have N:Has (.list (.int .i64)) (.list (S.map (D.int .i64))):=by rw[<-z];exact s.has
      have A:Pre k [.list (S.map (D.int .i64))]:=by rw[<-z];exact I
      refine(j.Hp E J r w T (G.τ g) S H N A).mono ?_;rintro e' U ⟨u,v',ys,rfl,hΦ,hh,uD⟩;simp only
      obtain⟨G',X⟩:=gQ.XA (x:=⟨k,g,e,T,o.dst,c.res.isEmpty⟩) V a4 ⟨e,L⟩ (fun d hd=>by have a5:o.dst=some d:=hd;rw[a5]at v;simpa [TG]using v) a1 a0 hh uD
      refine hQ _ U G' ?_;rw[z,hΦ];exact X
     cases h
    cases h
   cases h
  cases h
 cases h
end
structure D3(P:Tap)(f:Nat)(params:Tal)(res:Ty)(Pre:Taf->Prop)(Φ:Taf->D):Prop where
 enter:∀(args:Tbd Tan) (w:Tam),(callFunc f args).run P w=.ok (.enter f args) w
 calls:∀(w:Tam) (S:bE) (vs:Tac) (ds:Taf),(∀b o,S b o->b<w.heap.size)->vs.length=ds.length->(∀(i:Nat) v d,vs[i]?=some v->ds[i]?=some d->cg w S v d)->
  dx (.V params) ds->Pre ds->
  Calls P f vs.toArray w fun e w'=>∃v F,e=.returned v/\Below w.heap.size w w'/\(∀b o,F b o->w.heap.size<=b/\b<w'.heap.size/\∃cur T,w'.heap[b]?=some (.cells cur T (0,0)))/\cg w' F v (Φ ds)/\Has res (Φ ds)
structure Iw(P:Tap)(f:Nat)(params:Tal)(res:Ty):Prop where
 enter:∀(args:Tbd Tan) (w:Tam),(callFunc f args).run P w=.ok (.enter f args) w
 calls:∀(w:Tam) (S:bE) (vs:Tac) (ds:Taf),(∀b o,S b o->b<w.heap.size/\∃cur T,w.heap[b]?=some (.cells cur T (0,0)))->vs.length=ds.length->(∀(i:Nat) v d,vs[i]?=some v->ds[i]?=some d->cg w S v d)->
  dx (.V params) ds->
  Calls P f vs.toArray w fun e w'=>∃v S' d,e=.returned v/\gw (fun b=>∃o,S b o) w w'/\(∀b o,S' b o->(∃o',S b o')\/w.heap.size<=b)/\
   (∀b o,S' b o->b<w'.heap.size/\∃cur T,w'.heap[b]?=some (.cells cur T (0,0)))/\cg w' S' v d/\Has res d
abbrev Qp:=List (Nat×(Tal×Ty))
section
variable{P:Tap}{w w0:Tam}{S0:gK}{ρ:Nat->D}{p:Nat}{G:Gh}{σ:St}{a:Act}{n:Nat}
def Iy{ops:Tad}{o:Tbc}{i:Nat}{b:Tah}{Q:Iv}(c:ops[i]?=some o)(d:o.guard=none)(h:o.wp P a w (wpOps P ops Q b) Q):wpOps P ops Q (i::b) a w:=by simp only[wpOps,c];rw[if_pos (by unfold Region.wanted;rw[d])];exact .inl h
end
def uT:Tbb->Bool
 |.const (.slice none 0 0)=>true
 |_=>false
def VV(P:Tap)(n q:Nat)(σ:St)(o:Tbc):Tao (Nat×E):=
 match o.dst,o.guard,o.op with
 |some t,none,.binOp .eql T x y _=>
  if uT y=true/\t<n then
   match fA P σ [] x T,P.underlying T with
   |some (e,.list _),some (.slice _)=>if e.lt q then some (t,e) else none
   |_,_=>none
  else none
 |_,_,_=>none
def ES(σ:St)(t:Nat)(c:SC):St:=⟨fC σ.tm t (some ([],.one c)),σ.hp,σ.live⟩
section
variable{P:Tap}{w w0:Tam}{S0:gK}{ρ:Nat->D}{p:Nat}{G:Gh}{σ:St}{a:Act}{n:Nat}
def wP{t el:Tba}(b:P.underlying t=some (.slice el))(p:Tao Addr)(m c d:Nat):(Op.equalIn (d+1) t (.slice p m c) (.slice none 0 0)).run P w=.ok p.isNone w:=by cases p<;>simp[Op.equalIn,run_underlying b]
def D8{t el:Tba}(b:P.underlying t=some (.slice el))(p:Tao Addr)(m c:Nat)(x y:Tbb):
  (do eqGuard .eql t x y (.slice p m c) (.slice none 0 0);binOp .eql t (.slice p m c) (.slice none 0 0):Sem Tan).run P w=.ok (.bool p.isNone) w:=by have e:binOp .eql t (.slice p m c) (.slice none 0 0)=(do pure (.bool (<-Op.equalIn (9999+1) t (.slice p m c) (.slice none 0 0)))):=rfl;have d:eqGuard .eql t x y (.slice p m c) (.slice none 0 0)=pure ():=rfl;rw[e,d,bw,Sem.run_pure,bZ,bw,wP b];rfl
def O0{w:Tam}{S:bE}{m c:Nat}{l:Taf}(h:cg w S (.slice none m c) (.list l)):l.length=0:=by
 generalize e:Value.slice none m c=v at h;generalize b:D.list l=d at h
 cases h<;>first
  |(cases b;done)
  |(injection b with b;subst b;rfl)
  |cases e
def gQ.Oh(j:gQ n w0 S0 ⟨ρ,p,fun i=>i<p⟩ G σ a w)(d:D){t:Nat}(B:t<n){v:Tan}{c:SC}(C:c.lt (p+1)=true)(F:ru ⟨fC ρ p d,p+1,fun i=>i<p+1⟩ w G c v):
  gQ n w0 S0 ⟨fC ρ p d,p+1,fun i=>i<p+1⟩ G (ES σ t c) (a.put (some t) v) w:=by
 have k:∀i,i<p->fC ρ p d i=ρ i:=fun i o=>fu _ _ (by omega)
 have g:dS ⟨ρ,p,fun i=>i<p⟩ w G ⟨fC ρ p d,p+1,fun i=>i<p+1⟩ w G:=
  ⟨fun e q=>⟨dQ k q,E.wu (Nat.le_succ p) q⟩,fun i o=>Nat.lt_succ_of_lt o,fun _ _ h=>h,fun _ _ _=>rfl,fun _ _=>rfl,fun _ _=>rfl⟩
 have r:=j.iv g;refine⟨r.m.congr rfl rfl,?_,by rw[Act.Ak];exact j.sz,j.defers⟩;intro l H s b;simp only[ES]at b;by_cases f:l=t
 .subst f;simp only[dZ,aa,ah]at b;obtain⟨rfl,rfl⟩:=b;refine⟨v,?_,by simp,C,?_⟩
  .have:=j.sz;simp[Act.put,this,B]
  simp only[bc,bX,if_true];exact F
 rw[fu _ _ f]at b;obtain⟨u,A,z,y,x⟩:=r.t l H s b;refine⟨u,?_,z,y,x⟩;simp only[Act.put];rw[Array.getElem?_setIfInBounds_ne (Ne.symm f)];exact A
def Re{ops:Tad}{c t:Nat}{o:Tbc}{e:E}(M:ops[c]?=some o)(h:VV P n p σ o=some (t,e))(C:gQ n w0 S0 ⟨ρ,p,fun i=>i<p⟩ G σ a w)(Q:Iv)(d:Tah)(X:(den ρ e).A.length=0->∀b:Bool,∀s,gQ n w0 S0 ⟨fC ρ p (.bool b),p+1,fun i=>i<p+1⟩ G (ES σ t (.gH (.var p) .bool)) s w->wpOps P ops Q d s w)(W:(den ρ e).A.length≠0->∀s,gQ n w0 S0 ⟨fC ρ p (.bool false),p+1,fun i=>i<p+1⟩ G (ES σ t (.gH (.fa false) .bool)) s w->wpOps P ops Q d s w):
  wpOps P ops Q (c::d) a w:=by
 unfold VV at h;split at h
 .rename_i t0 T x y Z U O D;split at h
  .rename_i f;obtain⟨f,q⟩:=f
   have z:y=.const (.slice none 0 0):=by
    unfold uT at f;split at f
    .rfl
    cases f
   subst z;split at h
   .rename_i Y u el K L;split at h
    .obtain⟨rfl,rfl⟩:=iP h;obtain⟨x1,J,I⟩:=dV C.t (pc:=[]) rfl K;obtain⟨l,N,_⟩:=bO.1 I;have j:den ρ Y=.list l:=N;have g:cg w G.S (a.eval x) (.list l):=by rw[<-j];exact J
     obtain⟨A,H,B⟩:=g.qf
     have r:(execOp a.eval o).run P w=.ok (.value (.bool A.isNone)) w:=by
      have m:(execOp a.eval o)=(do let v<-(do eqGuard .eql T x (.const (.slice none 0 0)) (a.eval x) (a.eval (.const (.slice none 0 0)));binOp .eql T (a.eval x) (a.eval (.const (.slice none 0 0))):Sem Tan);pure (.value v)):=by unfold execOp;simp only[D]
      have R:a.eval (.const (.slice none 0 0))=.slice none 0 0:=rfl;have V:=D8 (P:=P) (w:=w) L A l.length H x (.const (.slice none 0 0));rw[m,R,B,bw,V];rfl
     refine Iy M O ?_;rw[Oper.wp,r];show wpOps P ops Q d (a.put o.dst (.bool A.isNone)) w;rw[U];by_cases k:l.length=0
     .refine X (by rw[j];exact k) A.isNone _ (C.Oh _ q (by simp[SC.lt,E.lt]) ⟨by simp[E.lt],?_,?_⟩)
      .show cg w G.S _ (fC ρ p (.bool A.isNone) p);rw[dZ];exact .bool _
      show Has .bool (fC ρ p (.bool A.isNone) p);rw[dZ];exact dg.2 ⟨_,rfl⟩
     have F:A.isNone=false:=by
      cases F:A with
      |some _=>rfl
      |none=>
       exfalso;rw[F]at B;rw[B]at g;exact k (O0 g)
     rw[F];exact W (by rw[j];exact k) _ (C.Oh _ q (by simp[SC.lt,E.lt]) ⟨by simp[E.lt],.bool _,dg.2 ⟨_,rfl⟩⟩)
    cases h
   cases h
  cases h
 cases h
end
end Go.dF
