/- Part 2 of the proof of RaftGrown; no condition. -/
import Derived.Test.YtjhmkaninmgilaaS01
import Derived.Laws.MakeOwn
set_option linter.defProp false
set_option linter.unusedVariables false
set_option linter.unusedSimpArgs false
set_option maxHeartbeats 4000000
namespace Go.dG
open Go Go.RowKit
section
variable{P:Tba}{C:Cx}{w w0:Tan}{S0:gw}{G:Gh}{σ:St}{a:Act}{o:Tbd}{pc:dJ}{s:SV}{is:List Item}{Φ:Tab}{Pre:Taa}{n p:Nat}{cs:mJ}
def iY.afZ{base:Nat}{g:Tag}{e:E}{T:Tbb}{t:Ty}(h:iY C w base G g e T t)(u:0<t.cells.length){S':bG}(y:∀b o,G.S b o->S' b o)(z:∀b o,(G.τ g).ownBlock=some b->S' b o):bV w S' (G.τ g) (den C.ρ e):=by
 obtain⟨B,l,A,m,N,F⟩:=h.own;rw[A];obtain⟨H,I⟩:=m;rcases I with⟨hv,hn⟩|⟨b,cap,cur,hv,hb,hg,Mf,YM,GZ,tW⟩
 .have:l=[]:=an hn;subst this;rw[hv];exact .nil none 0
 have f:=h.has;rw[A]at f;obtain⟨M,k,_,D⟩:=bO.1 f;injection k with k;subst k;by_cases q:l=[]
 .subst q;rw[hv];exact .nil _ cap
 rw[hv];refine .list b 0 cap t.cells.length B l u q Mf H (fun i r=>?_) (fun i v r=>?_) (fun i d x=>?_) (fun i d j v c L K J=>(F i d j v c L K J).keep y (fun _ _ _=>rfl))
 .exact z b _ (by rw[hv];rfl)
 .rw[aq,cell_of_row w b i cur T (0,0) hg];rw[<-tW,aC]at r;split at r
  .simpa using r
  cases r
 exact(cZ (D d (bT x))).1
def yb(G:Gh)(σ:St):bG:=fun b o=>G.S b o\/∃g x,σ.live g=some x/\(G.τ g).ownBlock=some b
def Bz(r:eU w0 S0 C G σ w){c:SC}{e:E}{t:Ty}{l:List (Tag×Tap (E×Tbb×Ty))}{v:Tao}(h:qw σ c=some ((e,t),l))(m:qO C w G c v):
  (e.lt C.N=true/\bV w (yb G σ) v (den C.ρ e)/\Has t (den C.ρ e))/\∀y∈l,σ.live y.1=y.2/\y.2.isSome=true:=by
 have plain:(asData c).map (fun x=>(x,([]:List (Tag×Tap (E×Tbb×Ty)))))=some ((e,t),l)->(e.lt C.N=true/\bV w (yb G σ) v (den C.ρ e)/\Has t (den C.ρ e))/\∀y∈l,σ.live y.1=y.2/\y.2.isSome=true:=by intro h;simp only[cQ,ae]at h;obtain⟨x,q,rfl,rfl⟩:=h;obtain⟨B,A,z⟩:=kE q m;exact⟨⟨B,A.keep (fun _ _ h=>.inl h) (fun _ _ _=>rfl),z⟩,by simp⟩
 cases c with
 |xo g t'=>
  simp only[qw]at h;split at h
  .rename_i D T i;injection h with h;simp only[ae]at h;obtain⟨⟨rfl,rfl⟩,rfl⟩:=h;obtain⟨j,_,f⟩:=vX i;have d:=r.own _ _ _ _ j;refine⟨⟨d.lt,?_,d.has⟩,?_⟩
   .rw[m.2.1];exact d.afZ f (fun _ _ h=>.inl h) (fun b o u=>.inr ⟨g,_,j,u⟩)
   intro y k;simp only[aG]at k;subst k;exact⟨j,rfl⟩
  cases h
 |_=>exact plain h
def yH(m:eU w0 S0 C G σ w):∀{f:List SC} {es:List E} {ts:Tam} {l:List (Tag×Tap (E×Tbb×Ty))} {vs:Tad},mz σ f=some ((es,ts),l)->jK C w G f vs->
  ((E.Y es).lt C.N=true/\es.length=vs.length/\(∀(i:Nat) v e,vs[i]?=some v->es[i]?=some e->bV w (yb G σ) v (den C.ρ e))/\dr (.Y ts) (es.map (den C.ρ)))/\∀y∈l,σ.live y.1=y.2/\y.2.isSome=true
 |[],es,ts,l,vs,h,hr=>by simp only[mz,aa,ae]at h;obtain⟨⟨rfl,rfl⟩,rfl⟩:=h;have g:vs=[]:=an hr.1;subst g;exact⟨⟨rfl,rfl,by intro i v e b;simp at b,dk.2 rfl⟩,by simp⟩
 |c::f,es,ts,l,vs,h,hr=>by
  simp only[mz]at h;split at h
  .rename_i e t O K q M J I;injection h with h;simp only[ae]at h;obtain⟨⟨rfl,rfl⟩,rfl⟩:=h;cases vs with
   |nil=>have:=hr.1;simp at this
   |cons v vs=>
    have j:jK C w G f vs:=⟨by simpa using hr.1,fun i c v b g=>hr.2 (i+1) c v (by simpa using b) (by simpa using g)⟩;obtain⟨⟨H,F,k4,D⟩,B⟩:=yH m I j;obtain⟨⟨A,z,x⟩,r⟩:=Bz m J (hr.2 0 c v rfl rfl);refine⟨⟨by simp[E.Y,E.lt,A,H],by simp[F],?_,aA.2 ⟨_,_,rfl,x,D⟩⟩,fun y d=>?_⟩
    .intro i u L b k;cases i with
     |zero=>simp at b k;subst b;subst k;exact z
     |succ i=>exact k4 i u L (by simpa using b) (by simpa using k)
    rcases aQ.1 d with d|d
    .exact r y d
    exact B y d
  cases h
def GQ(f:eU w0 S0 C G σ w){s:SV}{e:E}{t:Ty}{l:List (Tag×Tap (E×Tbb×Ty))}{v:Tao}(h:pU σ s=some ((e,t),l))(b:wP C w G s v):
  (e.lt C.N=true/\bV w (yb G σ) v (den C.ρ e)/\Has t (den C.ρ e))/\∀y∈l,σ.live y.1=y.2/\y.2.isSome=true:=by
 cases s with
 |one c=>exact Bz f h b
 |agg cl=>
  simp only[pU]at h;split at h
  .rename_i F A B z;injection h with h;simp only[ae]at h;obtain⟨⟨rfl,rfl⟩,rfl⟩:=h;obtain⟨j,rfl,hs⟩:=b;obtain⟨⟨r,q,k4,m⟩,k⟩:=yH f z hs;refine⟨⟨by simpa [E.lt]using r,?_,?_⟩,k⟩
   .simp only[den,fR,U.den,D.V];refine .agg j _ (by simp[q]) fun i v d u g=>?_;simp only[ab,cQ]at g;obtain⟨e,x,rfl⟩:=g;exact k4 i v e u x
   simp only[den,fR,U.den,D.V];exact eA.2 ⟨_,rfl,m⟩
  cases h
 |fa l=>cases h
def Gd(q:eU w0 S0 C G σ w)(m:iD C w G σ.tm a){pc:dJ}(c:aV C.ρ pc=true):∀{xs:List Tbc} {g:List Tbb} {es:List (E×Ty)} {l:List (Tag×Tap (E×Tbb×Ty))},yc P σ pc xs g=some (es,l)->
  (es.length=xs.length/\∀(i:Nat) x e,xs[i]?=some x->es[i]?=some e->e.1.lt C.N=true/\bV w (yb G σ) (a.eval x) (den C.ρ e.1)/\Has e.2 (den C.ρ e.1))/\∀y∈l,σ.live y.1=y.2/\y.2.isSome=true
 |[],[],es,l,h=>by simp only[yc,aa,ae]at h;obtain⟨rfl,rfl⟩:=h;exact⟨⟨rfl,by intro i x e d;simp at d⟩,by simp⟩
 |x::xs,t::ts,es,l,h=>by
  simp only[yc]at h;split at h
  .rename_i e K F J f D;obtain⟨rfl,rfl⟩:=iE h;obtain⟨⟨B,A⟩,z⟩:=Gd q m c D;rw[eu]at f;obtain⟨I,j,f⟩:=f;obtain⟨v,u⟩:=GQ q (e:=e.1) (t:=e.2) f (cS m c j);refine⟨⟨by simp[B],fun i r H d k=>?_⟩,fun y b=>?_⟩
   .cases i with
    |zero=>simp at d k;subst d;subst k;exact v
    |succ i=>exact A i r H (by simpa using d) (by simpa using k)
   rcases aQ.1 b with b|b
   .exact u y b
   exact z y b
  cases h
 |[],_::_,_,_,h=>by cases h
 |_::_,[],_,_,h=>by cases h
def bV.bare{S S':bG}{v:Tao}{d:D}{t:Ty}(h:bV w S v d)(b:Has t d)(c:t.bare=true):bV w S' v d:=by
 cases t<;>first|(cases c;done)|skip
 .obtain⟨n,rfl,_⟩:=dm.1 b;rw[h.dj];exact .int _ _
 .obtain⟨n,rfl⟩:=dg.1 b;rw[h.gV];exact .bool _
 obtain⟨n,rfl⟩:=mP.1 b;rw[h.Ec];exact .str _
def jE.bare{w':Tan}{S S':bG}{τ:Tak}{c:bC}{v:Tao}{d:D}(h:jE w' 0 S τ c v d)(z:c.bare=true)(I:∀j T,c.2=some (j,T)->∀b,(τ j).ownBlock=some b->∀o,S' b o↔S b o):jE w' 0 S' τ c v d:=by
 obtain⟨t,_|⟨j,T⟩⟩:=c
 .exact⟨h.1.bare h.2 z,h.2⟩
 obtain⟨rfl,⟨x,M,B,l,A,L,K,J⟩⟩:=h;refine⟨rfl,x,M,B,l,A,L,fun b k o=>(I j T rfl b k o).trans (K b k o),fun i d q v c y r H=>?_⟩;rw[A]at x;obtain⟨N,f,_,m⟩:=bO.1 x;injection f with f;subst f;obtain⟨F,E⟩:=cZ (m d (bT y));have g:q<t.cells.length:=by rw[<-F];exact(aD.1 r).1
 obtain⟨O,e,u⟩:=E q _ (aR g);rw[r]at e;injection e with e;subst e;exact(J i d q v c y r H).bare u (bU.1 z _ (aF g))
def gZ.bare{w':Tan}{S S':bG}{τ:Tak}{res:List (Bool×List bC)}{v:Tao}{d:D}(h:gZ w' 0 S τ res v d)(M:(res.all fun c=>c.2.all bC.bare)=true)(L:∀j b,j∈cJ res->(τ j).ownBlock=some b->∀o,S' b o↔S b o):gZ w' 0 S' τ res v d:=by
 have g:∀c∈res,∀y∈c.2,∀j T,y.2=some (j,T)->j∈cJ res:=by intro c t y q j T r;unfold cJ;exact cU.2 ⟨c,t,bE.2 ⟨y,q,by rw[r];rfl⟩⟩
 have k:∀c∈res,∀v d,fY w' 0 S τ c v d->fY w' 0 S' τ c v d:=by
  intro c t v d h;have z:=bU.1 M c t;unfold fY at h⊢;split
  .rename_i l;rw[if_pos l]at h;obtain⟨B,K,J,I,H,F,A⟩:=h;refine⟨B,K,J,I,H,F,fun i x u y f E q=>?_⟩;have e:=bT f;exact(A i x u y f E q).bare (bU.1 z x e) (fun j T r b m o=>L j b (g c t x e j T r) m o)
  rename_i l;rw[if_neg l]at h;obtain⟨x,f,A⟩:=h;have e:x∈c.2:=by rw[f];simp
  exact⟨x,f,A.bare (bU.1 z x e) (fun j T r b m o=>L j b (g c t x e j T r) m o)⟩
 rcases h with⟨c,rfl,h⟩|⟨uf,B,K,J,I,H,F,A⟩
 .exact .inl ⟨c,rfl,k c (by simp) v d h⟩
 exact .inr ⟨uf,B,K,J,I,H,F,fun i x u y f E q=>k x (bT f) u y (A i x u y f E q)⟩
def CV{b β:Type}[DecidableEq b] :∀(l r:List (b×β)) (x:b),lk (l++r) x=match lk l x with|some v=>some v|none=>lk r x
 |[],r,x=>rfl
 |(k,v)::l,r,x=>by
  simp only[eE,lk];split
  .rfl
  exact CV l r x
def H8{l r:List (Tag×Tap (E×Tbb×Ty))}(e:∀y∈l,σ.live y.1=y.2)(c:∀y∈l,∀z∈r,y.1≠z.1):fj σ.live (l++r)=fj σ.live r:=by
 funext g;unfold fj;rw[CV];cases h:lk l g with
 |none=>rfl
 |some v=>
  have b:=iw h
  have d:lk r g=none:=by
   cases hr:lk r g with
   |none=>rfl
   |some u=>exact absurd (show((g,v):Tag×Tap (E×Tbb×Ty)).1=((g,u):Tag×Tap (E×Tbb×Ty)).1 from rfl) (c (g,v) b (g,u) (iw hr))
  rw[d];exact(e _ b).symm
def B0{ops:Tae}{e:iZ}(hs:gG n w0 S0 C G σ a w)(hp:¬C.M p)(a3:p<C.N)(hg:guardOf ops σ o=some [])(h:Jc P cs σ p o=some e)(b0:∀k c,lk cs.l k=some c->bn P k c (Pre k) (Φ k))(b9:∀it∈e.items,eR C Φ Pre it)(b7:e.tN.2.lt C.N=true)(a7:∀d,o.dst=some d->d<n)(b6:¬S0.fr)(b5:¬S0.wz):
  fM P n w0 S0 C (e.app σ) p ops a w o:=by
 unfold Jc at h;split at h
 .rename_i f r U ho;split at h
  .rename_i fe k es l hf c5;split at h
   .rename_i c a0;split at h
    .rename_i b1;obtain⟨b4,b3,d1,b2,T⟩:=b1;injection h with h;subst h;intro K Q hK;obtain⟨hw,hc⟩:=gj hs.t hg;rw[hw,if_pos (show aV C.ρ []=true from rfl)];obtain⟨f1,f2,f3⟩:=cS hs.t (pc:=[]) rfl hf;obtain⟨fl,c2,c3⟩:=lI.1 f3;have a6:=dk.1 c3;subst a6;obtain⟨d0,c1,R,d2⟩:=(c2▸f2).xf;have a9:d0=[]:=an (by simpa using R);subst a9;obtain⟨⟨k1,k2⟩,F⟩:=Gd hs.m hs.t (pc:=[]) rfl c5;have q:=b0 _ _ a0;have a8:(den C.ρ (.Y (es.map (·.1)))).V=es.map fun x=>den C.ρ x.1:=by rw[fR];simp[D.V]
     have a1:(execOp a.eval o).run P w=.ok (.enter k (r.toList.map a.eval).toArray) w:=by
      have e1:(r.toList.map a.eval).toArray=r.map a.eval:=by apply dC;simp
      unfold execOp;simp only[ho,resolve,c1,Deferred.ofValue,e1];have:=q.enter (r.map a.eval) w;simpa [invoke]using this
     unfold Oper.wp;rw[a1]
     have O:∀b o,yb G σ b o->b<w.heap.size:=by
      rintro b o (h|⟨g,x,hl,hb⟩)
      .exact hs.m.dP b o h
      exact((hs.m.own g x.1 x.2.1 x.2.2 hl).gu b hb).2
     have H:∀(i:Nat) v d,(r.toList.map a.eval)[i]?=some v->(es.map fun x=>den C.ρ x.1)[i]?=some d->bV w (yb G σ) v d:=by intro i v d hv hd;simp only[ab,cQ]at hv hd;obtain⟨x,A,rfl⟩:=hv;obtain⟨y,B,rfl⟩:=hd;exact(k2 i x y A B).2.1
     have a5:dr (.Y c.params) (es.map fun x=>den C.ρ x.1):=by
      rw[<-b3];refine jd (by simp) fun j u x hj A=>?_;simp only[ab,cQ]at hj A;obtain⟨y,B,rfl⟩:=hj;obtain⟨y',L,rfl⟩:=A;rw[B]at L;injection L with L;subst L;have b8:j<r.toList.length:=by rw[<-k1];exact(aD.1 B).1
      exact(k2 j _ y (aR b8) B).2.2
     obtain⟨_,_,Y,a2⟩:=b9 _ (aG.2 rfl);have J:=a2 rfl;rw[a8]at Y J;refine(q.calls (by simpa using b4) w (yb G σ) _ _ O (by simp[k1]) H a5 J).mono ?_;rintro e' w' ⟨v,S',τ',rfl,yT,hS,Du,T4,mM,TY,ag8,_⟩;simp only;rw[<-Y]at mM;let S1:bG:=fun b o=>G.S b o\/(S' b o/\w.heap.size<=b);let V:Gh:={S:=S1,β:=G.β,τ:=fun g=>if g.1=p then τ' g.2 else G.τ g};have X:∀j,V.τ (p,j)=τ' j:=fun j=>if_pos rfl;have hM:(C.add p).M p:=.inr rfl
     have I:gZ w' 0 V.S τ' c.res v ((C.add p).ρ p):=gZ.bare mM T fun j b hj hb o=>by
      have c0:=TY j b hj hb;constructor
      .rintro(h|h)
       .have:=hs.m.dP b o h;omega
       exact h.1
      intro h;exact .inr ⟨h,c0⟩
     have E:=uJ (C:=C.add p) (G:=V) I hM a3 X
     have Z:fj σ.live (l++gC p c.res)=fj σ.live (gC p c.res):=H8 (fun y B=>(F y B).1) (fun y B z hz he=>by
      obtain⟨h1,h2⟩:=F y B;cases hy2:y.2 with
      |none=>rw[hy2]at h2;cases h2
      |some x=>rw[hy2]at h1;exact gi hs.m hp h1 (by rw[he];exact(E z hz).1))
     obtain⟨a4,hm⟩:=hs.m.called hp (τ':=τ') yT (fun b o h=>.inl h) (S':=S1)
      (by
       rintro b o (h|h)
       .have:=hs.m.dP b o h;have:=yT.size;omega
       exact Du b o h.1)
      (by
       rintro b o (h|h)
       .exact .inl h
       exact .inr h.2) (fj σ.live (gC p c.res)) V rfl
      (by
       intro g x A;unfold fj at A;split at A
       .rename_i y B;obtain⟨q1,q2,e1,T1,t1,q3,q4⟩:=E _ (iw B);simp only at q1 q3 q4;rw[q3]at A;injection A with A;subst A;refine .inr ⟨q1,q4.Ho (fun b hb=>TY g.2 b q2 ?_)⟩;have e:V.τ g=τ' g.2:=if_pos q1;rw[<-e];exact hb
       exact .inl ⟨gi hs.m hp A,A⟩)
      (by
       intro j1 j2 x y b A B c9 c7
       have W:∀j x,fj σ.live (gC p c.res) (p,j)=some x->j∈cJ c.res:=by
        intro j x A;unfold fj at A;split at A
        .rename_i y B;exact(E _ (iw B)).2.1
        exact absurd rfl (gi hs.m hp A)
       exact ag8 j1 j2 b (W j1 x A) (W j2 y B) c9 c7) (fun c4=>absurd c4 b6) b5
     exact hK _ _ _ (hs.step (o:=o) (e:=⟨o.dst,([],nu true p c.res),[],l++gC p c.res,[],[.call p k (.Y (es.map (·.1))) []]⟩) a4 (hm.congr (dY _) Z) rfl b7 hc
      (by intro _;simp only[aV,bW,if_true];exact AG (C:=C.add p) (G:=V) I hM a3 X _) a7)
    cases h
   cases h
  cases h
 cases h
end
section
variable{P:Tba}{C:Cx}{w w0:Tan}{S0:gw}{G:Gh}{σ:St}{a:Act}{o:Tbd}{pc:dJ}{s:SV}{is:List Item}{Φ:Tab}{Pre:Taa}{n p:Nat}{cs:mJ}
def yh(G:Gh)(ids:Tai)(b o:Nat):Prop:=G.S b o\/∃id∈ids,b=G.β id
def FQ(r:eU w0 S0 C G σ w){id:Nat}{ro:Bool}{cs:List SC}(j:σ.hp id=some (ro,cs))(g:mapOf cs=none){ds:Tah}(k:ds.length=cs.length){ids:Tai}(t:id∈ids)(h:∀(i:Nat) c v d,cs[i]?=some c->qO C w G c v->ds[i]?=some d->bV w (yh G ids) v d):bV w (yh G ids) (.pointer (some ⟨G.β id,0,none⟩)) (.ptr ds):=by
 obtain⟨_,_,e,_⟩:=r.box _ _ _ j;obtain⟨q,T,u,m⟩:=e.cells g;refine .ptr (G.β id) q ds (by rw[k];exact m.1) (fun i _=>.inr ⟨id,t,rfl⟩) (fun i v f=>?_) (fun i v d f l=>?_)
 .rw[cell_of_row w _ i _ T (0,0) u];simpa using f
 have b:i<cs.length:=by rw[<-k];exact(aD.1 l).1
 exact h i _ v d (aR b) (m.2 i _ v (aR b) f) l
def yG:∀{cs:List SC} {es:List E} {ts:Tam},gM cs=some (es,ts)->es.length=cs.length/\ts.length=cs.length/\∀(i:Nat) c,cs[i]?=some c->∃e t,es[i]?=some e/\ts[i]?=some t/\asData c=some (e,t)
 |[],es,ts,h=>by simp only[gM,aa,ae]at h;obtain⟨rfl,rfl⟩:=h;exact⟨rfl,rfl,by intro i c b;simp at b⟩
 |c::r,es,ts,h=>by
  simp only[gM]at h;split at h
  .rename_i e t x d v u;obtain⟨rfl,rfl⟩:=iE h;obtain⟨k,j,g⟩:=yG u;refine⟨by simp[k],by simp[j],fun i z b=>?_⟩;cases i with
   |zero=>simp at b;subst b;exact⟨e,t,rfl,rfl,v⟩
   |succ i=>
    obtain⟨y,f,q,m,l⟩:=g i z (by simpa using b);exact⟨y,f,by simpa using q,by simpa using m,l⟩
  cases h
def CX(M:eU w0 S0 C G σ w):∀{cs:List SC} {es:List E} {ts:Tam} {ids:Tai},tU σ cs=some (es,ts,ids)->es.length=cs.length/\ts.length=cs.length/\(∀id∈ids,∃x,σ.hp id=some x)/\
  ∀(i:Nat) c,cs[i]?=some c->∃e t,es[i]?=some e/\ts[i]?=some t/\(∀v,qO C w G c v->∀b,(∀j∈ids,j∈b)->bV w (yh G b) v (den C.ρ e)/\Has t (den C.ρ e))
 |[],es,ts,ids,h=>by simp only[tU,aa,ae]at h;obtain⟨rfl,rfl,rfl⟩:=h;exact⟨rfl,rfl,by simp,by intro i c l;simp at l⟩
 |c::r,es,ts,ids,h=>by
  simp only[tU]at h;split at h
  .rename_i a1 a0 b h1;obtain⟨Z,Y,X,W⟩:=CX M h1;split at h
   .rename_i e t J;obtain⟨rfl,rfl,rfl⟩:=LY h;refine⟨by simp[Z],by simp[Y],X,fun i Q l=>?_⟩;cases i with
    |zero=>
     simp at l;subst l;refine⟨e,t,rfl,rfl,fun v z b _=>?_⟩;obtain⟨_,g,k⟩:=kE J z;exact⟨g.keep (fun _ _ h=>.inl h) (fun _ _ _=>rfl),k⟩
    |succ i=>
     obtain⟨N,K,y,g,k⟩:=W i Q (by simpa using l);exact⟨N,K,by simpa using y,by simpa using g,k⟩
   split at h
   .rename_i id _;split at h
    .rename_i ro O B;split at h
     .rename_i ds us F;obtain⟨rfl,rfl,rfl⟩:=LY h;refine⟨by simp[Z],by simp[Y],fun j q=>?_,fun i Q l=>?_⟩
      .rcases aH.1 q with rfl|q
       .exact⟨_,B⟩
       exact X j q
      cases i with
      |zero=>
       simp at l;subst l;obtain⟨V,S,R⟩:=yG F;refine⟨_,_,rfl,rfl,fun v z m f=>?_⟩;obtain⟨_,rfl⟩:=z;have H:den C.ρ (.un .qg (.Y ds))=.ptr (ds.map (den C.ρ)):=by simp only[den,U.den,fR,D.V]
       rw[H];refine⟨FQ M B (iS F) (by simp[V]) (f id (by simp)) (fun i c v d hc z J=>?_),ia.2 ⟨_,rfl,jd (by simp[V,S]) (fun j u x q hx=>?_)⟩⟩
       .obtain⟨e,t,y,_,k⟩:=R i c hc;simp only[ab,y,aS,aa]at J;subst J;exact(kE k z).2.1.keep (fun _ _ h=>.inl h) (fun _ _ _=>rfl)
       have A:j<O.length:=by rw[<-S];exact(aD.1 q).1
       obtain⟨e,t,y,g,k⟩:=R j _ (aR A);rw[q]at g;injection g with g;subst g;simp only[ab,y,aS,aa]at hx;subst hx;obtain⟨_,_,I,_⟩:=M.box _ _ _ B;obtain⟨vs,T,b3,b4⟩:=I.cells (iS F);have L:j<vs.length:=by rw[b4.1];exact A
       exact(kE k (b4.2 j _ _ (aR A) (aR L))).2.2
      |succ i=>
       obtain⟨N,K,y,g,k⟩:=W i Q (by simpa using l);exact⟨N,K,by simpa using y,by simpa using g,fun v z m f=>k v z m (fun j q=>f j (by simp[q]))⟩
     cases h
    cases h
   cases h
  cases h
def wC{cs:List SC}{x:List E×Tam×Tai}(h:tU σ cs=some x):mapOf cs=none:=by
 unfold mapOf;split
 .simp[tU,asData]at h
 rfl
def Sh(hs:gG n w0 S0 C G σ a w)(B:aV C.ρ pc=true){x:Tbc}{t:Tbb}{e:E}{ty:Ty}{ids:Tai}(h:KC P σ pc x t=some (e,ty,ids)):(∀id∈ids,∃z,σ.hp id=some z)/\
  ∀b,(∀j∈ids,j∈b)->bV w (yh G b) (a.eval x) (den C.ρ e)/\Has ty (den C.ρ e):=by
 unfold KC at h;split at h
 .rename_i e' Y I;obtain⟨rfl,rfl,rfl⟩:=LY h;obtain⟨_,q,r⟩:=dR hs.t B I;exact⟨by simp,fun b _=>⟨q.keep (fun _ _ h=>.inl h) (fun _ _ _=>rfl),r⟩⟩
 split at h
 .rename_i id hx;split at h
  .rename_i ro N l;split at h
   .rename_i V ts A M;obtain⟨rfl,rfl,rfl⟩:=LY h;obtain⟨R,Q,Z,O⟩:=CX hs.m M;obtain⟨_,L⟩:=cS hs.t B hx;refine⟨fun j f=>?_,fun b g=>?_⟩
    .rcases aH.1 f with rfl|f
     .exact⟨_,l⟩
     exact Z j f
    have F:den C.ρ (.un .qg (.Y V))=.ptr (V.map (den C.ρ)):=by simp only[den,U.den,fR,D.V]
    rw[F,L];obtain⟨_,_,H,_⟩:=hs.m.box _ _ _ l;obtain⟨X,T,b3,W⟩:=H.cells (wC M);refine⟨FQ hs.m l (wC M) (by simp[R]) (g id (by simp)) (fun i c v d hc L I=>?_),ia.2 ⟨_,rfl,jd (by simp[R,Q]) (fun j u y f S=>?_)⟩⟩
    .obtain⟨e,t,J,_,r⟩:=O i c hc;simp only[ab,J,aS,aa]at I;subst I;exact(r v L b (fun j f=>g j (by simp[f]))).1
    have k:j<N.length:=by rw[<-Q];exact(aD.1 f).1
    obtain⟨e,t,J,q,r⟩:=O j _ (aR k);rw[f]at q;injection q with q;subst q;simp only[ab,J,aS,aa]at S;subst S;have K:j<X.length:=by rw[W.1];exact k
    exact(r _ (W.2 j _ _ (aR k) (aR K)) A (fun _ h=>h)).2
   cases h
  cases h
 cases h
def Ge(hs:gG n w0 S0 C G σ a w)(f:aV C.ρ pc=true):∀{l:List Tbc} {ts:List Tbb} {es:List (E×Ty)} {ids:Tai},yd P σ pc l ts=some (es,ids)->
  es.length=l.length/\(∀id∈ids,∃z,σ.hp id=some z)/\∀(i:Nat) x e,l[i]?=some x->es[i]?=some e->∀b,(∀j∈ids,j∈b)->bV w (yh G b) (a.eval x) (den C.ρ e.1)/\Has e.2 (den C.ρ e.1)
 |[],[],es,ids,h=>by simp only[yd,aa,ae]at h;obtain⟨rfl,rfl⟩:=h;exact⟨rfl,by simp,by intro i x e k;simp at k⟩
 |y::l,t::ts,es,ids,h=>by
  simp only[yd]at h;split at h
  .rename_i e I J F b D B;obtain⟨rfl,rfl⟩:=iE h;obtain⟨r,q⟩:=Sh hs f D;obtain⟨A,v,u⟩:=Ge hs f B;refine⟨by simp[A],fun j g=>(aQ.1 g).elim (r j) (v j),fun i x H k m c d=>?_⟩;cases i with
   |zero=>simp at k m;subst k;subst m;exact q c (fun j g=>d j (az _ g))
   |succ i=>exact u i x H (by simpa using k) (by simpa using m) c (fun j g=>d j (bA _ g))
  cases h
 |[],_::_,_,_,h=>by cases h
 |_::_,[],_,_,h=>by cases h
def B5{ops:Tae}{k:Nat}{e:E}{A:dI}{rd:Tai}(hs:gG n w0 S0 C G σ a w)(hp:¬C.M p)(b4:p<C.N)(hg:guardOf ops σ o=some pc)(h:oJ P cs σ pc o=some (k,e,A,rd))(c4:∀k A,lk cs.l k=some A->bn P k A (Pre k) (Φ k))(d5:eR C Φ Pre (.call p k e pc))(b5:(nu pc.isEmpty p A.res).lt C.N=true)(Z:∀d,o.dst=some d->d<n)(H:List Item)(d4:¬S0.fr)(d3:¬S0.wz):
  fM P n w0 S0 C ((⟨o.dst,(pc,nu pc.isEmpty p A.res),[],if pc.isEmpty then gC p A.res else [],rd,H⟩:iZ).app σ) p ops a w o:=by
 intro K Q hK;obtain⟨hw,hc⟩:=gj hs.t hg;rw[hw];have c0:aV C.ρ pc=false->pc.isEmpty=false:=by intro h;cases pc<;>first|rfl|(simp[aV]at h)
 cases yN:aV C.ρ pc with
 |false=>
  simp only[ai,if_false]
  have hm:eU w0 S0 (C.add p) G ((⟨o.dst,(pc,nu pc.isEmpty p A.res),[],if pc.isEmpty then gC p A.res else [],rd,H⟩:iZ).app σ) w:=
   (hs.m.pg p).congr (dY _) (by simp only[iZ.app,c0 yN,ai,if_false];exact dY _)
  exact hK _ _ _ (hs.step (o:=o) (e:=⟨o.dst,(pc,nu pc.isEmpty p A.res),[],if pc.isEmpty then gC p A.res else [],rd,H⟩) (dO.pg C w G p) hm rfl b5 hc
   (by intro _;simp only[yN,ai,if_false]) Z)
 |true=>
 simp only[if_true];unfold oJ at h;split at h
 .rename_i f F a7 ho;split at h
  .rename_i fe k' es ids hf e0;split at h
   .rename_i c b1;split at h
    .rename_i c5;obtain⟨d1,d0,e5,c9,a4,d2⟩:=c5;obtain⟨rfl,hE,rfl,rfl⟩:=Yz h;obtain⟨f1,f2,f3⟩:=cS hs.t (pc:=[]) rfl hf;obtain⟨fl,d7,d8⟩:=lI.1 f3;have b9:fl=[]:=dk.1 d8;subst b9;obtain⟨e4,d6,a3,_⟩:=(d7▸f2).xf;have c3:e4=[]:=an a3;subst c3;obtain⟨k1,kh,k2⟩:=Ge hs yN e0;have B:=c4 _ _ b1
     have c2:(den C.ρ e).V=es.map fun x=>den C.ρ x.1:=by rw[<-hE,fR];simp only[D.V,List.map_map];rfl
     have b2:(execOp a.eval o).run P w=.ok (.enter k' (F.toList.map a.eval).toArray) w:=by
      have e1:(F.toList.map a.eval).toArray=F.map a.eval:=by apply dC;simp
      unfold execOp;simp only[ho,resolve,d6,Deferred.ofValue,e1];have:=B.enter (F.map a.eval) w;simpa [invoke]using this
     unfold Oper.wp;rw[b2]
     have a6:∀b o,yh G ids b o->b<w.heap.size:=by
      rintro b o (hb|⟨id,hid,rfl⟩)
      .exact hs.m.dP b o hb
      obtain⟨z,hz⟩:=kh id hid;exact hs.m.kS hz
     have J:∀(i:Nat) v d,(F.toList.map a.eval)[i]?=some v->(es.map fun x=>den C.ρ x.1)[i]?=some d->bV w (yh G ids) v d:=by intro i v d hv hd;simp only[ab,cQ]at hv hd;obtain⟨x,I,rfl⟩:=hv;obtain⟨y,O,rfl⟩:=hd;exact(k2 i x y I O ids (fun _ h=>h)).1
     have b8:dr (.Y c.params) (es.map fun x=>den C.ρ x.1):=by
      rw[<-d0];refine jd (by simp) fun j u x L I=>?_;simp only[ab,cQ]at L I;obtain⟨y,O,rfl⟩:=L;obtain⟨y',V,rfl⟩:=I;rw[O]at V;injection V with V;subst V;have b6:j<F.toList.length:=by rw[<-k1];exact(aD.1 O).1
      exact(k2 j _ y (aR b6) O ids (fun _ h=>h)).2
     obtain⟨_,_,b0,b3⟩:=d5;have T:=b3 yN;rw[c2]at b0 T;refine(B.calls (by simpa using d1) w (yh G ids) _ _ a6 (by simp[k1]) J b8 T).mono ?_;rintro e' w' ⟨v,S1,Yy,rfl,yT,hS1,adA,ahq,TW,Ap,N2,_⟩;simp only;rw[<-b0]at TW;obtain⟨S',W⟩:∃S':bG,∀b o,S' b o↔S1 b o/\(G.S b o\/w.heap.size<=b):=⟨fun b o=>S1 b o/\(G.S b o\/w.heap.size<=b),fun _ _=>dt⟩
     have a0:gZ w' 0 S' Yy c.res v (C.ρ p):=TW.bare a4 (fun j b L hb o=>by rw[W];exact⟨fun h=>h.1,fun h=>⟨h,.inr (Ap j b L hb)⟩⟩)
     have hS:∀b o,G.S b o->S' b o:=fun b o h=>(W b o).2 ⟨hS1 b o (.inl h),.inl h⟩;have c7:∀b o,S' b o->b<w'.heap.size:=fun b o h=>adA b o ((W b o).1 h).1;have a5:∀b o,S' b o->G.S b o\/w.heap.size<=b:=fun b o h=>((W b o).1 h).2;obtain⟨r,X⟩:∃r,r=pn c.res Yy:=⟨_,rfl⟩;have a2:∀j,j∈cJ c.res->r j=Yy j:=fun j L=>by rw[X];exact if_pos L
     have Y:=a0.aaA;rw[<-X]at Y;have a1:∀j b,j∈cJ c.res->(r j).ownBlock=some b->w.heap.size<=b:=fun j b L hb=>Ap j b L (by rw[<-a2 j L];exact hb);have c1:∀j k b,j∈cJ c.res->k∈cJ c.res->(r j).ownBlock=some b->(r k).ownBlock=some b->j=k:=fun j k b L hk h1 h2=>N2 j k b L hk (by rw[<-a2 j L];exact h1) (by rw[<-a2 k hk];exact h2);let G':Gh:={S:=S',β:=G.β,τ:=fun g=>if g.1=p then r g.2 else G.τ g};have a9:∀j,G'.τ (p,j)=r j:=fun j=>if_pos rfl;have hM:(C.add p).M p:=.inr rfl;have R:gZ w' 0 G'.S r c.res v ((C.add p).ρ p):=Y;have U:=uJ (C:=C.add p) (G:=G') R hM b4 a9
     obtain⟨b7,hm⟩:=hs.m.called hp (τ':=r) yT hS c7 a5 (fj σ.live (if pc.isEmpty then gC p c.res else [])) G' rfl
      (by
       intro g x I;unfold fj at I;split at I
       .rename_i y O;have q:=iw O;cases Me:pc.isEmpty with
        |false=>rw[Me]at q;simp at q
        |true=>
        rw[Me]at q;simp only[if_true]at q;obtain⟨q1,q2,e1,T1,t1,q3,q4⟩:=U _ q;simp only at q1 q3 q4;rw[q3]at I;injection I with I;subst I;refine .inr ⟨q1,q4.Ho (fun b hb=>a1 g.2 b q2 ?_)⟩;have e:G'.τ g=r g.2:=if_pos q1;rw[<-e];exact hb
       exact .inl ⟨gi hs.m hp I,I⟩)
      (by
       intro j1 j2 x y b I O e3 e2
       have a8:∀j x,fj σ.live (if pc.isEmpty then gC p c.res else []) (p,j)=some x->j∈cJ c.res:=by
        intro j x I;unfold fj at I;split at I
        .rename_i y O;have q:=iw O;cases Me:pc.isEmpty with
         |false=>rw[Me]at q;simp at q
         |true=>
         rw[Me]at q;simp only[if_true]at q;exact(U _ q).2.1
        exact absurd rfl (gi hs.m hp I)
       exact c1 j1 j2 b (a8 j1 x I) (a8 j2 y O) e3 e2)
      (fun d9=>absurd d9 d4) d3
     exact hK _ _ _ (hs.step (o:=o) (e:=⟨o.dst,(pc,nu pc.isEmpty p c.res),[],if pc.isEmpty then gC p c.res else [],ids,H⟩) b7 (hm.congr (dY _) rfl) rfl b5 hc
      (by intro _;simp only[yN,if_true];exact AG (C:=C.add p) (G:=G') R hM b4 a9 _ (by simpa using d2)) Z)
    cases h
   cases h
  cases h
 cases h
end
def wA{b:Type}(l:List b):∀(n i j:Nat),i<n->j<l.length->(List.replicate n l).flatten[i*l.length+j]?=l[j]?
 |0,i,j,h,_=>by omega
 |n+1,0,j,_,hj=>by simp only[List.replicate_succ,eG,Nat.zero_mul,aq];rw[ak hj]
 |n+1,i+1,j,h,hj=>by simp only[List.replicate_succ,eG];rw[ay (by rw[cq];omega)];have:=wA l n i j (by omega) hj;rw[<-this];congr 1;rw[cq];omega
def je(b:Bool)(size:Nat):∀(n:Nat) (es:List E),(qn b size es n).length=n
 |0,_=>rfl
 |n+1,es=>by simp[qn,je b size n]
def nU(b:Bool)(size:Nat):∀(n i:Nat) (es:List E),i<n->(qn b size es n)[i]?=some (if b then .un .agg (.Y ((es.drop (i*size)).take size)) else(es.drop (i*size)).headD .nil)
 |0,i,_,h=>by omega
 |n+1,0,es,_=>by simp[qn]
 |n+1,i+1,es,h=>by simp only[qn,df];rw[nU b size n i _ (by omega)];rw[List.drop_drop,cq,Nat.one_mul,Nat.add_comm size]
def y9{P:Tba}(w:Tan)(t e:Tbb)(len:Nat)(b:Tbe (Nat×Tao))(cells:Tbe Tao)(d:TypeInfo)(z:Tao)(k:P.underlying t=some (.slice e))(j:P.info? e=some d)(l:d.zero=some z)(g:¬len*d.size>2 ^ 24)(h:Instr.fill (fun i=>some (i*d.size,d.size)) ((Array.range (len*d.size)).map (z.cells[· % z.cells.size]!)) b.toList=some cells):
  (Instr.buildSlice t len b).run P w=.ok (.slice (some ⟨w.heap.size,0,none⟩) len len) (w.alloc (.cells cells e)):=by
 by_cases c:len*d.size=0
 .have q:∀f:Tak,(Array.range (len*d.size)).map f=#[]:=fun f=>by rw[c];simp
  rw[q]at h;have m:∀f:Tak,(Array.range 0).map f=#[]:=fun f=>by simp
  simp[Instr.buildSlice,run_underlying k,sizeOf,typeInfo,j,newRow,c];rw[m,h];simp
 exact run_buildSlice w t e len b cells d z k j l g c h
section
variable{P:Tba}{C:Cx}{w w0:Tan}{S0:gw}{G:Gh}{σ:St}{a:Act}{o:Tbd}{pc:dJ}{s:SV}{is:List Item}{Φ:Tab}{Pre:Taa}{n p:Nat}{cs:mJ}
def CK{e:E}{T:Tbb}{t:Ty}{len:Nat}(ht:iD C w G σ.tm a)(b9:aV C.ρ pc=true)(h:qQ P σ pc o=some (e,T,t,len)):
  ∃(xs:Tad) (l:Tah),(execOp a.eval o).run P w=.ok (.value (.slice (some ⟨w.heap.size,0,none⟩) len len)) (w.alloc (.cells xs.toArray T))/\e.lt C.N=true/\den C.ρ e=.list l/\l.length=len/\mG t len/\
   0<t.cells.length/\xs.length=len*t.cells.length/\(∀d∈l,Has t d)/\
   (∀(i:Nat) d (j:Nat) v c,l[i]?=some d->d.cells[j]?=some c->xs[i*t.cells.length+j]?=some v->bV w G.S v c)/\∀cl,qk P σ pc o=some cl->jK C w G cl xs:=by
 unfold qQ at h;split at h
 .rename_i tt lu a0 ho;split at h
  .rename_i el hu;split at h
   .rename_i f u ts ps b4 a8 c1 b0;split at h
    .rename_i zs A
     obtain⟨z,hz,A⟩:∃z,f.zero=some z/\lW ts z.cells.toList=some zs:=by
      cases hq:f.zero with
      |none=>simp[hq]at A
      |some z=>exact⟨z,rfl,by simpa [hq]using A⟩
     split at h
     .rename_i c3;obtain⟨c4,a3,b1,b7,X⟩:=c3;split at h
      .rename_i c5 J;split at h
       .rename_i K us c2;split at h
        .rename_i a2;have a7:=qx (C:=C) (w:=w) (G:=G) A;have a6:z.cells.size=zs.length:=by have:=a7.1;simpa using this
         have a4:jK C w G ((List.range (lu*f.size)).map fun j=>zs.getD (j % zs.length) (.od .nil)) ((List.range (lu*f.size)).map fun j=>z.cells[j % z.cells.size]!):=by
          refine⟨by simp,fun i c v r L=>?_⟩;have k:i<lu*f.size:=by have:=(aD.1 r).1;simpa using this
          simp only[ab,cN k,aS,aa]at r L;have hm:i % zs.length<zs.length:=Nat.mod_lt _ (by omega);subst r;subst L;rw[a6];have e1:zs.getD (i % zs.length) (.od .nil)=zs[i % zs.length]:=by simp[List.getD,hm]
          have b2:i % zs.length<z.cells.size:=by omega
          have e2:z.cells[i % zs.length]! =z.cells.toList[i % zs.length]'(by simpa using b2):=by simp[getElem!_pos,b2]
          rw[e1,e2];exact a7.2 _ _ _ (aR hm) (aR _)
         obtain⟨k1,k2⟩:=uK ht b9 _ _ _ b0;obtain⟨xs,h1,h2⟩:=xF _ _ _ _ _ _ J a4 k1 k2;obtain⟨m1,m2,m3,m4,m5⟩:=lV c2 h2
         have V:∀cl,qk P σ pc o=some cl->jK C w G cl xs:=by
          intro cl m;have hb:(f.zero.bind fun z=>lW ts z.cells.toList)=some zs:=by rw[hz];exact A
          unfold qk at m;simp only[ho,hu,b4,c1,b0,hb]at m;rw[J]at m;injection m with m;rw[<-m];exact h2
         have a1:xs.length=lu*f.size:=by rw[<-m3,a2.1];simp[a3]
         have Q:∀{T},el=T->(execOp a.eval o).run P w=.ok (.value (.slice (some ⟨w.heap.size,0,none⟩) lu lu)) (w.alloc (.cells xs.toArray T)):=by
          rintro T rfl
          have:=y9 (P:=P) w tt el lu (a0.map fun(i,x)=>(i,a.eval x)) xs.toArray f z hu b4 hz (by rw[show(2:Nat) ^ 24=16777216 from rfl];omega)
           (by
            rw[fI];have e1:(Array.range (lu*f.size)).map (fun x=>z.cells[x % z.cells.size]!)=((List.range (lu*f.size)).map fun j=>z.cells[j % z.cells.size]!).toArray:=by apply dC;simp
            rw[e1];exact h1)
          unfold execOp;simp only[ho,bz];rw[this];rfl
         have R:lu<=maxLen:=by
          have:lu<=lu*f.size:=Nat.le_mul_of_pos_right _ b1;have h9:(16777216:Nat)<=maxLen:=by decide
          omega
         have W:K.length=lu*f.size:=by rw[m2,a1]
         have H:∀e∈K,e.lt C.N=true:=(rG K).1 m1
         have O:∀(i j:Nat) (ty:Ty) (x:E),i<lu->j<f.size->u.cells[j]?=some ty->K[i*f.size+j]?=some x->Has ty (den C.ρ x):=by intro i j ty x k hj a8 g;have b8:=dh m5 (i*f.size+j) ty (by rw[Ty.dT,a2.1,<-a3,wA _ _ _ _ k (by omega)];exact a8);obtain⟨d,q,c0⟩:=b8;simp only[ab,g,aS,aa]at q;subst q;exact c0
         have b6:∀{i j:Nat},i<lu->j<f.size->i*f.size+j<lu*f.size:=by intro i j k hj;have:(i+1)*f.size<=lu*f.size:=aw _ k;rw[cq]at this;omega
         split at h
         .rename_i fs Z;obtain⟨rfl,rfl,rfl,rfl⟩:=Yz h;have m:(Ty.agg (.Y fs.V)).cells=fs.V:=by simp[Ty.cells,Ty.dT]
          have I:fs.V.length=f.size:=a3
          have elem:∀i,i<lu->den C.ρ (.un .agg (.Y ((K.drop (i*f.size)).take f.size)))=.agg (((K.drop (i*f.size)).take f.size).map (den C.ρ)):=by intro i _;simp only[den,fR,U.den,D.V]
          refine⟨xs,_,Q rfl,?_,fR _ _,by simp[je],⟨R,by rw[Ty.LR];exact X⟩,by rw[m];omega,by rw[m,I];exact a1,?_,?_,V⟩
          .rw[rG];intro e he;obtain⟨i,k⟩:=au he;have b:i<lu:=by have:=(aD.1 k).1;rwa [je]at this
           rw[nU _ _ _ _ _ b]at k;simp only[if_true,aa]at k;subst k;simp only[E.lt];rw[rG];exact fun e he=>H e (dx (cV he))
          .intro d q;obtain⟨i,k⟩:=au q;simp only[ab,cQ]at k;obtain⟨x,g,rfl⟩:=k;have b:i<lu:=by have:=(aD.1 g).1;rwa [je]at this
           rw[nU _ _ _ _ _ b]at g;simp only[if_true,aa]at g;subst g;rw[elem i b];have M:(i+1)*f.size<=lu*f.size:=aw _ b;rw[cq]at M;refine eA.2 ⟨_,rfl,jd (by simp[W];omega) fun j ty x hj g=>?_⟩;have b3:j<f.size:=by rw[<-I];exact(aD.1 hj).1
           simp only[ab,cQ,aC,if_pos b3,aL]at g;obtain⟨y,hy,rfl⟩:=g;exact O i j ty y b b3 hj hy
          intro i d j v c q r L;simp only[ab,cQ]at q;obtain⟨x,g,rfl⟩:=q;have b:i<lu:=by have:=(aD.1 g).1;rwa [je]at this
          rw[nU _ _ _ _ _ b]at g;simp only[if_true,aa]at g;subst g;rw[elem i b]at r;simp only[D.cells,ab,cQ,aC]at r;obtain⟨y,hy,rfl⟩:=r;split at hy
          .rw[aL]at hy;rw[m,I]at L;exact m4 _ v y L hy
          cases hy
         .rename_i u _ _ Z;split at h
          .rename_i F;obtain⟨rfl,rfl,rfl,rfl⟩:=Yz h
           have a9:u.scalar=true:=by
            rcases a2.2 with h|h
            .rw[Z]at h;cases h
            exact h
           have B:u.cells=[u]:=by cases u<;>first|rfl|cases a9
           have elem:∀i x,i<lu->(qn false 1 K lu)[i]?=some x->K[i]?=some x:=by
            intro i x k g;rw[nU _ _ _ _ _ k]at g;simp only[ai,if_false,aa,bL]at g;have b:i<K.length:=by rw[W,F];omega
            rw[<-g,aR b,bJ b];rfl
           have a5:∀d,Has u d->d.cells=[d]:=by intro d q;have:=(cZ q);rw[B]at this;cases d<;>first|rfl|(rename_i l;exfalso;cases u<;>simp[Ty.scalar]at a9<;>simp[dm,dg,mP,bO,ia,kX,lI]at q)
           have Y:∀i x,i<lu->K[i]?=some x->Has u (den C.ρ x):=by intro i x k g;exact O i 0 u x k (by omega) (by rw[B];rfl) (by rw[F,bL,dL];exact g)
           refine⟨xs,_,Q rfl,?_,fR _ _,by simp[je],⟨R,X⟩,by rw[B];simp,by rw[B];simpa [F]using a1,?_,?_,V⟩
           .rw[rG];intro e he;obtain⟨i,k⟩:=au he;have b:i<lu:=by have:=(aD.1 k).1;rwa [je]at this
            exact H e (bT (elem i e b k))
           .intro d q;obtain⟨i,k⟩:=au q;simp only[ab,cQ]at k;obtain⟨x,g,rfl⟩:=k;have b:i<lu:=by have:=(aD.1 g).1;rwa [je]at this
            exact Y i x b (elem i x b g)
           intro i d j v c q r L;simp only[ab,cQ]at q;obtain⟨x,g,rfl⟩:=q;have b:i<lu:=by have:=(aD.1 g).1;rwa [je]at this
           have b5:=elem i x b g;rw[a5 _ (Y i x b b5)]at r;cases j with
           |succ j=>simp at r
           |zero=>
            simp at r;subst r;rw[B]at L;simp only[bu,fC,aq,bL,dL]at L;exact m4 i v x L b5
          cases h
         cases h
        cases h
       cases h
      cases h
     cases h
    cases h
   cases h
  cases h
 cases h
def yk{ops:Tae}{e:E}{T:Tbb}{t:Ty}{len:Nat}(hs:gG n w0 S0 C G σ a w)(hp:¬C.M p)(hg:guardOf ops σ o=some pc)(h:qQ P σ pc o=some (e,T,t,len))(own:Bool)(a3:own=true->pc=[])(a6:e.lt C.N=true)(J:∀d,o.dst=some d->d<n)(b8:S0.fr->vd P cs σ pc o=true)(b7:¬S0.wz):
  fM P n w0 S0 C ((⟨o.dst,(pc,if own then .one (.own (p,0) e t) else .one (.gz e (.list t))),[],if own then [((p,0),some (e,T,t))] else [],[],[]⟩:iZ).app σ) p ops a w o:=by
 intro K Q hK;obtain⟨hw,hc⟩:=gj hs.t hg;have a5:(if own then SV.one (.own (p,0) e t) else SV.one (.gz e (.list t))).lt C.N=true:=by cases own<;>simpa [SV.lt,SC.lt]using a6
 rw[hw];cases yN:aV C.ρ pc with
 |false=>
  simp only[ai,if_false]
  have ho:own=false:=by
   cases own with
   |false=>rfl
   |true=>have:=a3 rfl;subst this;simp[aV]at yN
  subst ho
  exact hK _ _ _ (hs.step (o:=o) (e:=⟨o.dst,(pc,.one (.gz e (.list t))),[],[],[],[]⟩) (dO.pg C w G p) ((hs.m.pg p).congr (dY _) (dY _)) rfl (by simpa [SV.lt,SC.lt]using a6) hc
   (by intro _;simp only[yN,ai,if_false]) J)
 |true=>
  simp only[if_true];obtain⟨D,l,a1,B,L,a7,I,H,F,b4,hr,a8⟩:=CK hs.t yN h;unfold Oper.wp;rw[a1];let G':Gh:={S:=fun b o=>G.S b o\/(b=w.heap.size/\o<D.length),β:=G.β,τ:=fun g=>if g.1=p then .slice (some ⟨w.heap.size,0,none⟩) len len else G.τ g};have z:∀b o,G.S b o->(w.alloc (.cells D.toArray T)).cell? ⟨b,o,none⟩=w.cell? ⟨b,o,none⟩:=fun b o b6=>World.cell?_alloc_lt w _ _ (hs.m.dP b o b6);have A:Has (.list t) (den C.ρ e):=by rw[L];exact bO.2 ⟨l,rfl,by rw[a7];exact I,b4⟩
  have a4:iY (C.add p) (w.alloc (.cells D.toArray T)) w.heap.size G' (p,0) e T t:=by
   refine⟨.inr rfl,B,A,D,l,L,?_,?_,?_⟩
   .show(w.alloc _).ownsRow _ _ _ (if p=p then _ else _) _ _;rw[if_pos rfl,a7];exact⟨F,.inr ⟨w.heap.size,len,D.toArray,rfl,aM _,heap_alloc_new w _,aM _,I.1,by simpa using F,by simp[<-F]⟩⟩
   .intro b hb o;have c0:b=w.heap.size:=by simp[G',Value.ownBlock]at hb;exact hb.symm
    constructor
    .rintro(h|⟨_,h⟩)
     .have:=hs.m.dP b o h;omega
     exact⟨rfl,h⟩
    intro ho;exact .inr ⟨c0,ho.2⟩
   intro i d j v c O h2 h3;exact(hr i d j v c O h2 h3).keep (fun _ _ h=>.inl h) z
  obtain⟨b0,hm⟩:=hs.m.called hp (S':=G'.S) (τ':=fun _=>.slice (some ⟨w.heap.size,0,none⟩) len len) ((Below.refl _ _).alloc (aM _) _) (fun _ _ h=>.inl h)
   (by
    rintro b o (h|⟨rfl,_⟩)
    .have:=hs.m.dP b o h;simp;omega
    simp)
   (by
    rintro b o (h|⟨rfl,_⟩)
    .exact .inl h
    exact .inr (aM _))
   (fj σ.live (if own then [((p,0),some (e,T,t))] else [])) G' rfl
   (by
    intro g x f;cases own with
    |false=>simp only[ai,if_false,dY]at f;exact .inl ⟨gi hs.m hp f,f⟩
    |true=>
     simp only[if_true,fj,lk]at f;by_cases X:g=(p,0)
     .rw[if_pos X]at f;simp only[aa]at f;subst f;subst X;exact .inr ⟨rfl,a4⟩
     rw[if_neg X]at f;exact .inl ⟨gi hs.m hp f,f⟩)
   (by
    intro j k x y b f hy _ _
    have Y:∀j x,fj σ.live (if own then [((p,0),some (e,T,t))] else []) (p,j)=some x->j=0:=by
     intro j x f;cases own with
     |false=>simp only[ai,if_false,dY]at f;exact absurd rfl (gi hs.m hp f)
     |true=>
      simp only[if_true,fj,lk]at f;by_cases X:(p,j)=(p,0)
      .simpa using X
      rw[if_neg X]at f;exact absurd rfl (gi hs.m hp f)
    rw[Y j x f,Y k y hy])
   (fun b2 _=>by
    have O:=b8 b2
    obtain⟨W,b9,b3⟩:∃W,qk P σ pc o=some W/\(W.all Ee)=true:=by
     unfold qQ at h;split at h
     .rename_i ho;unfold vd at O;simp only[ho]at O;cases hl:qk P σ pc o with
      |none=>rw[hl]at O;cases O
      |some W=>rw[hl]at O;exact⟨W,rfl,O⟩
     cases h
    have a2:=a8 W b9
    have U:∀u∈D,mi (zj (jg w0 S0) w G.S) u:=by
     intro u V;obtain⟨i,hi⟩:=au V;have b1:i<W.length:=by rw[<-a2.1];exact(aD.1 hi).1
     exact sj (C:=C) (bU.1 b3 _ (aF b1)) (hs.m.fresh b2) (a2.2 i _ u (aR b1) hi)
    intro a0 n0 c1 c2;by_cases a9:len=0
    .exact .inl a9
    have R:0<D.length:=by rw[F];exact Nat.mul_pos (by omega) H
    refine .inr ⟨w.heap.size,0,rfl,fun b=>zj (jg w0 S0) w G.S b\/b=w.heap.size,?_,.inr rfl⟩;rintro b (hb|rfl)
    .obtain⟨h3,⟨o1,h4⟩,⟨b5,T0,h7⟩,h5⟩:=zj.set _ _ _ b hb;refine⟨h3,⟨o1,.inl h4⟩,⟨b5,T0,(Below.heap_alloc w _ _ (hs.m.dP _ _ h4)).trans h7⟩,fun o2 u q V=>?_⟩;rcases q with q|⟨rfl,_⟩
     .exact(h5 o2 u q (by rw[<-z b o2 q];exact V)).mono fun _ h=>.inl h
     have:=hs.m.dP _ _ h4;omega
    refine⟨.inl hs.m.tn,⟨0,.inr ⟨rfl,R⟩⟩,⟨_,_,heap_alloc_new w _⟩,fun o2 u q V=>?_⟩;rcases q with q|⟨_,c3⟩
    .have:=hs.m.dP _ _ q;omega
    have h6:(w.alloc (.cells D.toArray T)).heap[w.heap.size]?=some (.cells D.toArray T (0,0)):=heap_alloc_new w _;rw[cell_of_row _ _ o2 _ T (0,0) h6]at V;simp only[da]at V;exact(U u (bT V)).mono fun _ h=>.inl h) b7
  refine hK _ _ _ (hs.step (o:=o) (e:=⟨o.dst,(pc,if own then .one (.own (p,0) e t) else .one (.gz e (.list t))),[],if own then [((p,0),some (e,T,t))] else [],[],[]⟩) b0 (hm.congr (dY _) rfl) rfl a5 hc ?_ J);intro _;simp only[yN,if_true];have r:=a4.rep H;have Z:G'.τ (p,0)=.slice (some ⟨w.heap.size,0,none⟩) len len:=if_pos rfl;rw[Z]at r;cases own with
  |true=>exact⟨.inr rfl,B,r,A,Z.symm⟩
  |false=>exact⟨B,r,A⟩
def Ii{e:E}{T:Tbb}{t:Ty}{len:Nat}(R:iD C w G σ.tm a)(h:xb P σ o=some (e,T,t,len)):
  ∃(xs:Tad) (l:Tah),(execOp a.eval o).run P w=.ok (.value (.slice (some ⟨w.heap.size,0,none⟩) len len)) (w.alloc (.cells xs.toArray T))/\e.lt C.N=true/\den C.ρ e=.list l/\l.length=len/\mG t len/\
   0<t.cells.length/\xs.length=len*t.cells.length/\(∀d∈l,Has t d)/\
   (∀(i:Nat) d (j:Nat) v c,l[i]?=some d->d.cells[j]?=some c->xs[i*t.cells.length+j]?=some v->bV w G.S v c):=by
 unfold xb at h;split at h
 .rename_i e' T' t' n' V;obtain⟨rfl,rfl,rfl,rfl⟩:=Yz h;obtain⟨xs,l,r,b,I,h4,h5,h6,h7,Z,K,_⟩:=CK R (pc:=[]) rfl V;exact⟨xs,l,r,b,I,h4,h5,h6,h7,Z,K⟩
 unfold Ti at h;split at h
 .rename_i L u n x m U;split at h
  .rename_i el O;split at h
   .rename_i y k F Q;split at h
    .rename_i X;obtain⟨rfl,J,B,A,z,Y⟩:=X;have z:=QD z;obtain⟨rfl,rfl,rfl,rfl⟩:=Yz h
     have f:=run_make (P:=P) (w:=w) L el y (.int k 0) O F z u x n n (by omega) (aJ _) (by have:(y.bytes:Int)*n<=8*1000:=Int.mul_le_mul (by omega) B (by omega) (by omega);omega) (by omega)
     have g:∀q:Nat,den C.ρ (.Y (List.replicate q (E.aU k 0)))=.list (List.replicate q (D.int k 0)):=fun q=>by rw[fR];simp[den]
     have h0:kL k 0:=by cases k<;>exact⟨by decide,by decide⟩
     refine⟨List.replicate n.toNat (.int k 0),List.replicate n.toNat (.int k 0),?_,?_,g _,by simp,⟨?_,?_⟩,by simp[Ty.cells],by simp[Ty.cells],?_,?_⟩
     .have e1:madeCells (Value.int k 0).cells (n.toNat*y.size)=(List.replicate n.toNat (Value.int k 0)).toArray:=by
       rw[A,bL];unfold madeCells;apply dC;rw[fI];apply List.ext_getElem
       .simp
       intro i r b;simp[Value.cells,Nat.mod_one]
      rw[<-e1];unfold execOp;simp only[U,bz];rw[show a.eval (.const (.int u n))=.int u n from rfl,show a.eval (.const (.int x n))=.int x n from rfl,f];rfl
     .rw[rG];intro e W;rw[ft W];rfl
     .have K:(16777216:Nat)<=maxLen:=by decide
      omega
     .have:(Ty.int k).bytes<=8:=by cases k<;>decide
      have:n.toNat*(Ty.int k).bytes<=1000*8:=Nat.mul_le_mul (by omega) this;omega
     .intro d H;rw[ft H];exact⟨0,rfl,h0⟩
     intro i d j v c r b I;have H:=ft (bT r);subst H;have M:=ft (bT I);subst M;cases j with
     |zero=>simp[D.cells]at b;subst b;exact .int _ _
     |succ j=>simp[D.cells]at b
    cases h
   cases h
  cases h
 cases h
def Ek{ops:Tae}{e:iZ}(hs:gG n w0 S0 C G σ a w)(W:¬C.M p)(hg:guardOf ops σ o=some [])(h:Qo P σ p o=some e)(J:∀d,o.dst=some d->d<n)(Z:¬S0.fr)(Y:¬S0.wz):
  fM P n w0 S0 C (e.app σ) p ops a w o:=by
 unfold Qo at h;split at h
 .rename_i N T t len hl;injection h with h;subst h;intro K Q hK;obtain⟨hw,hc⟩:=gj hs.t hg;rw[hw,if_pos (show aV C.ρ []=true from rfl)];obtain⟨R,l,D,I,u,E,q,a1,z,L,hr⟩:=Ii hs.t hl;unfold Oper.wp;rw[D];let O:Gh:={S:=G.S,β:=G.β,τ:=fun g=>if g.1=p then .slice (some ⟨w.heap.size,0,none⟩) len len else G.τ g};have A:∀b o,G.S b o->(w.alloc (.cells R.toArray T)).cell? ⟨b,o,none⟩=w.cell? ⟨b,o,none⟩:=fun b o V=>World.cell?_alloc_lt w _ _ (hs.m.dP b o V);have H:Has (.list t) (den C.ρ N):=by rw[u];exact bO.2 ⟨l,rfl,by rw[E];exact q,L⟩
  have X:iY (C.add p) (w.alloc (.cells R.toArray T)) w.heap.size O (p,1000) N T t:=by
   refine⟨.inr rfl,I,H,R,l,u,?_,?_,?_⟩
   .show(w.alloc _).ownsRow _ _ _ (if p=p then _ else _) _ _;rw[if_pos rfl,E];exact⟨z,.inr ⟨w.heap.size,len,R.toArray,rfl,aM _,heap_alloc_new w _,aM _,q.1,by simpa using z,by simp[<-z]⟩⟩
   .intro b hb o;have a2:b=w.heap.size:=by simp[O,Value.ownBlock]at hb;exact hb.symm
    constructor
    .intro h;have:=hs.m.dP b o h;omega
    intro ho;exact Bool.noConfusion ho.1
   intro i d j v c h1 h2 h3;exact(hr i d j v c h1 h2 h3).keep (fun _ _ h=>h) A
  have r:∀j x,fj σ.live [((p,1000),some (N,T,t))] (p,j)=some x->j=1000:=by
   intro j x f;simp only[fj,lk]at f;by_cases B:(p,j)=(p,1000)
   .simpa using B
   rw[if_neg B]at f;exact absurd rfl (gi hs.m W f)
  obtain⟨F,hm⟩:=hs.m.called W (S':=O.S) (τ':=fun _=>.slice (some ⟨w.heap.size,0,none⟩) len len) ((Below.refl _ _).alloc (aM _) _) (fun _ _ h=>h)
   (by intro b o h;have:=hs.m.dP b o h;simp;omega)
   (fun b o h=>.inl h)
   (fj σ.live [((p,1000),some (N,T,t))]) O rfl
   (by
    intro g x f;simp only[fj,lk]at f;by_cases B:g=(p,1000)
    .rw[if_pos B]at f;simp only[aa]at f;subst f;subst B;exact .inr ⟨rfl,X⟩
    rw[if_neg B]at f;exact .inl ⟨gi hs.m W f,f⟩)
   (by intro j k x y b f hy _ _;rw[r j x f,r k y hy])
   (fun a0=>absurd a0 Z) Y
  refine hK _ _ _ (hs.step (o:=o) (e:=⟨o.dst,([],.one (.xo (p,1000) t)),[],[((p,1000),some (N,T,t))],[],[]⟩) F (hm.congr (dY _) rfl) rfl rfl hc ?_ J);intro _;simp only[aV,bW,if_true];have U:O.τ (p,1000)=.slice (some ⟨w.heap.size,0,none⟩) len len:=if_pos rfl;exact⟨.inr rfl,U.symm,_,_,_,rfl⟩
 cases h
def xI{ops:Tae}{e:iZ}(hs:gG n w0 S0 C G σ a w)(c:rH P cs ops σ p o=some e)(B:¬C.M p)(H:p<C.N)(z:∀k sig,lk cs.l k=some sig->bn P k sig (Pre k) (Φ k))(r:e.tN.2.lt C.N=true)(u:∀it∈e.items,eR C Φ Pre it)(i:∀d,o.dst=some d->d<n)(v:S0.fr->∀pc,guardOf ops σ o=some pc->vd P cs σ pc o=true)(E:S0.wz->Hs o.op<3)(Y:Hf P cs S0 Φ Pre):fM P n w0 S0 C (e.app σ) p ops a w o:=by
 unfold rH at c;split at c
 .cases c
 rename_i pc q;split at c
 .split at c
  .rename_i l D;split at c
   .rename_i I;obtain⟨rfl,F⟩:=I;injection c with c;subst c;exact Gl hs B q D F i
   cases c
  cases c
 .split at c
  .rename_i id l D;split at c
   .rename_i I;obtain⟨rfl,F,hd⟩:=I;injection c with c;subst c;exact B3 hs q D F hd
   cases c
  cases c
 .split at c
  .rename_i X t fz U;injection c with c;subst c;exact Ic hs q U (by simpa [SV.lt,SC.lt]using r) i
  cases c
 .rename_i Q;have m:¬S0.wz:=fun K=>by have:=E K;omega
  split at c
  .rename_i k X sig I;injection c with c;subst c;exact Em hs B H q I z (u _ (by simp)) r i _ (fun j=>v j _ q) m
  split at c
  .rename_i x A;split at c
   .rename_i y;subst y;injection c with c;subst c;refine px hs B H q rfl A z (u _ (by simp[oD.Dq])) r i (fun j=>?_) m;have W:=v j _ q;unfold iG at A;split at A
    .rename_i f Z J ho;split at A
     .rename_i fe k' U;split at A
      .rename_i sig L;split at A
       .rename_i ob O;unfold vd at W
        have h2:Cg cs o.dst k'=some sig:=by unfold Cg;rw[L];simp[O]
        simp only[ho,U,h2,O,aP]at W;simp at W
       cases A
      cases A
     cases A
    cases A
   cases c
  split at c
  .rename_i k X sig rd D;split at c
   .rename_i I;have a0:=I;injection c with c;subst c;exact B5 hs B H q D z (u _ (by simp)) r i _ (fun j=>by have:=Y.1 j;omega) m
   cases c
  cases c
 .rename_i Q;have m:¬S0.wz:=fun K=>by have:=E K;omega
  split at c
  .rename_i e1 e2 T t b V;split at c
   .rename_i y;subst y;injection c with c;subst c;exact y8 hs B q V (u _ (by simp)) (u _ (by simp)) i _ (fun j=>v j _ q) m
   cases c
  split at c
  .rename_i g e1 e2 T t b V;split at c
   .rename_i y;subst y;injection c with c;subst c;exact BE hs B q V (u _ (by simp)) i _ (fun j=>v j _ q) m
   cases c
  cases c
 .rename_i Q;have m:¬S0.wz:=fun K=>by have:=E K;omega
  split at c
  .rename_i X T t len D;split at c
   .rename_i S;injection c with c;subst c;have:=yk (p:=p) hs B q D true (fun _=>by simpa using S) (by simpa [SV.lt,SC.lt]using r) i (fun j=>v j _ q) m;simpa using this
   injection c with c;subst c;have:=yk (p:=p) hs B q D false (fun h=>by cases h) (by simpa [SV.lt,SC.lt]using r) i (fun j=>v j _ q) m;simpa using this
  cases c
 split at c
 .rename_i s is rd R;injection c with c;subst c;exact B4 hs q R r u i Y.prog
 cases c
def PV{ops:Tae}{e:iZ}(hs:gG n w0 S0 C G σ a w)(c:Cu P cs ops σ p o=some e)(t:¬C.M p)(r:p<C.N)(h:∀k q,lk cs.l k=some q->bn P k q (Pre k) (Φ k))(f:e.tN.2.lt C.N=true)(m:∀x∈e.items,eR C Φ Pre x)(b:∀d,o.dst=some d->d<n)(j:¬S0.fr)(i:¬S0.wz)(z:Hf P cs S0 Φ Pre):fM P n w0 S0 C (e.app σ) p ops a w o:=by
 unfold Cu at c;split at c
 .rename_i k g A;have v:guardOf ops σ o=some []:=by unfold guardOf;rw[g]
  unfold My at c;split at c
  .exact BC hs g c
  .exact El hs g c f b
  .exact BD hs g c m f b
  .exact Ek hs t v c b j i
  exact B0 hs t r v c h m f b j i
 exact xI hs c t r h f m b (fun u=>absurd u j) (fun y=>absurd y i) z
def zo(P:Tba)(cs:mJ)(σ:St)(o:Tbd):Tap dI:=
 match o.op with
 |.call {callee:=.value f,.. }=>
  match fT P σ [] f 0 with
  |some (.one (.gz _ (.fn k .nil)))=>lk cs.l k
  |_=>none
 |_=>none
def Mq(cs:mJ)(o:Tbd):Tap (Nat×dI×Ty):=
 match o.op,o.guard with
 |.call {callee:=.value (.func k),.. },none=>match lk cs.et k with
  |some sg=>sg.nn.map fun y=>(k,y)
  |none=>none
 |_,_=>none
def YE(P:Tba)(σ:St)(o:Tbd)(y:Nat×dI×Ty):Tap oD:=
 match iG P ⟨[(y.1,y.2.1)],[],0,[],[]⟩ σ [] o with
 |some x=>if x.k=y.1/\x.ob.new=true/\x.ob.cC=[]/\x.ids=[]/\x.own=[] then some x else none
 |none=>none
def Kj(p:Nat):E:=.un .zU (.un (.cell 0) (.var p))
def xZ(x:oD)(t:Ty)(p:Nat)(dst:Tal):Bool->iZ
 |true=>{x.Dq p dst with items:=[.I9 [(Kj p,false)] true,.call p x.k x.args []]}
 |false=>⟨dst,([],.one (.gz .gv t)),[],[],[],[.I9 [(Kj p,true)] true,.call p x.k x.args []]⟩
def jW(d:Tap Bool)(P:Tba)(cs:mJ)(ops:Tae)(σ:St)(p:Nat)(o:Tbd):Tap iZ:=
 match d,Mq cs o with
 |none,_=>xg P cs ops σ p o
 |some b,some y=>if cs.fr !=0 then none else match y.2.2 with
  |.ptr fs=>(YE P σ o y).map fun x=>xZ x (.ptr fs) p o.dst b
  |_=>none
 |some true,none=>if cs.fr !=0 then none else match guardOf ops σ o with
  |some pc=>match iG P cs σ pc o with
   |some x=>some {x.Dq p o.dst with items:=[.I9 pc true,.call p x.k x.args []]}
   |none=>none
  |none=>none
 |some false,none=>match guardOf ops σ o,zo P cs σ o with
  |some pc,some sig=>some ⟨o.dst,(pc,uz false p (.un (.cell 0) (.var p)) sig.res),[],[],[],[.I9 pc false]⟩
  |_,_=>none
def OU{y:Nat×dI×Ty}{x:oD}(h:YE P σ o y=some x):iG P ⟨[(y.1,y.2.1)],[],0,[],[]⟩ σ [] o=some x/\x.k=y.1/\x.ob.new=true/\x.ob.cC=[]/\x.ids=[]/\x.own=[]:=by
 unfold YE at h;split at h
 .rename_i d b;split at h
  .rename_i c;injection h with h;subst h;exact⟨b,c⟩
  cases h
 cases h
def Ro{y:Nat×dI×Ty}(h:Mq cs o=some y):o.guard=none/\(∃args argTypes,o.op=.call {callee:=.value (.func y.1),args,argTypes})/\∃b,lk cs.et y.1=some b/\b.nn=some y.2:=by
 unfold Mq at h;split at h
 .rename_i k args argTypes e f;split at h
  .rename_i b c;simp only[cQ]at h;obtain⟨z,d,rfl⟩:=h;exact⟨f,⟨_,_,e⟩,b,c,d⟩
  cases h
 cases h
def OV{c β:Type}[DecidableEq c]{a k:c}{b v:β}(h:lk [(a,b)] k=some v):k=a/\v=b:=by
 simp only[lk]at h;split at h
 .injection h with h;exact⟨by assumption,h.symm⟩
 cases h
def Ib{ops:Tae}{y:Nat×dI×Ty}{x:oD}{fs:Ty}{b:Bool}(hs:gG n w0 S0 C G σ a w)(hp:¬C.M p)(b7:p<C.N)(hy:Mq cs o=some y)(hx:YE P σ o y=some x)(a6:(xZ x (.ptr fs) p o.dst b).tN.2.lt C.N=true)(O:∀it∈(xZ x (.ptr fs) p o.dst b).items,eR C Φ Pre it)(J:∀d,o.dst=some d->d<n)(d2:Hf P cs S0 Φ Pre)(a4:¬S0.fr)(a3:¬S0.wz):
  fM P n w0 S0 C ((xZ x (.ptr fs) p o.dst b).app σ) p ops a w o:=by
 obtain⟨c5,⟨q,Y,ho⟩,sg,b6,b9⟩:=Ro hy;obtain⟨f,hk,a5,c,H,a2⟩:=OU hx;have hN:=d2.nn _ _ _ _ b6 b9;have hg:guardOf ops σ o=some []:=by unfold guardOf;rw[c5]
 have b4:aV C.ρ [(Kj p,!b)]=true:=by
  cases b with
  |true=>exact O (.I9 [(Kj p,false)] true) (by simp[xZ])
  |false=>exact O (.I9 [(Kj p,true)] true) (by simp[xZ])
 have A:eR C Φ Pre (.call p x.k x.args []):=O _ (by cases b<;>simp[xZ])
 have B:((Φ x.k (den C.ρ x.args).V).V.getD 0 .top).iL= !b:=by obtain⟨_,_,h3,_⟩:=A;have h4:C.ρ p=Φ x.k (den C.ρ x.args).V:=h3;rw[<-h4];simpa [aV,Kj,den,U.den,D.Z]using b4
 cases b with
 |true=>
  refine px (cs:=⟨[(y.1,y.2.1)],[],0,[],[]⟩) (Φ:=Φ) (Pre:=fun k ds=>Pre k ds/\((Φ k ds).V.getD 0 .top).iL=false) hs hp b7 hg rfl f ?_ ?_ a6 J a4 a3
  .intro k' d5 hl;obtain⟨rfl,rfl⟩:=OV hl;exact hN.new
  obtain⟨c1,c2,c3,c4⟩:=A;exact⟨c1,c2,c3,fun hc=>⟨c4 hc,B⟩⟩
 |false=>
  intro K Q hK;obtain⟨hw,hc⟩:=gj hs.t hg;rw[hw,if_pos (show aV C.ρ []=true from rfl)];unfold iG at f;simp only[ho]at f;split at f
  .rename_i fe k' hf;split at f
   .rename_i d7 Z;obtain⟨rfl,rfl⟩:=OV Z;split at f
    .rename_i ob b8;split at f
     .rename_i es I d1;split at f
      .rename_i d3 l v;split at f
       .rename_i b3;injection f with f;subst f;simp only at c H a2 B hk a5;obtain⟨b5,_,_,_,_,_,_,d6,_,_⟩:=b3;obtain⟨f1,f2,f3⟩:=cS hs.t (pc:=[]) rfl hf;obtain⟨fl,c9,d0⟩:=lI.1 f3;have a9:fl=[]:=dk.1 d0;subst a9;obtain⟨d4,c7,W,_⟩:=(c9▸f2).xf;have b2:d4=[]:=an W;subst b2
        have R:I=[]:=by
         cases I with
         |nil=>rfl
         |cons i r=>
          have:=CW (σ:=σ) (ob:=ob) (ids:=i::r) (i:=0) (id:=i) rfl;rw[H]at this;cases this
        subst R
        have b0:d3=[]:=by rw[H,c]at v;simp only[tT,aa,ae]at v;exact v.1.symm
        subst b0;obtain⟨X,V⟩:=vU (k:=0) (β:=G.β) hs.t (pc:=[]) rfl d1 (fun i id T=>by simp at T)
        have b1:(den C.ρ (.Y (es.map (·.1)++([]:List (List E)).flatten))).V=(es.map fun x=>den C.ρ x.1)++([]:List (Tah)).flatten:=by rw[fR];simp only[D.V,bX,List.map_map,List.flatten_nil,List.map_nil,aX];rfl
        obtain⟨_,_,_,a1⟩:=A;have F:=a1 rfl;rw[b1]at F B
        have c0:Cz w G.S ob G.β (fun _=>.nilIface) (q.toList.map a.eval) (es.map fun x=>den C.ρ x.1) []:=by
         refine⟨hs.m.dP,X,by rw[c];rfl,?_,?_,?_,?_,?_⟩
         .intro o rc cells T;rw[c]at T;simp at T
         .intro i j T;rw[c]at T;simp at T
         .intro j k b L;unfold Ob.jz at L;rw[c]at L;simp at L
         .intro j o b L;unfold Ob.jz at L;rw[c]at L;simp at L
         intro hh;rw[c]at hh;simp at hh
        have a8:dr (.Y y.2.1.params) ((es.map fun x=>den C.ρ x.1)++([]:List (Tah)).flatten):=by rw[<-b5,c];simpa using V
        have a0:(execOp a.eval o).run P w=.ok (.enter y.1 (q.toList.map a.eval).toArray) w:=by
         have e1:(q.toList.map a.eval).toArray=q.map a.eval:=by apply dC;simp
         unfold execOp;simp only[ho,resolve,c7,Deferred.ofValue,e1];have:=hN.new.enter (q.map a.eval) w;simpa [invoke]using this
        unfold Oper.wp;rw[a0];refine(hN.nil ob b8 w G.S G.β (fun _=>.nilIface) _ _ _ c0 a8 F B).mono ?_;rintro e' w' ⟨rfl,yT⟩;simp only
        obtain⟨a7,hm⟩:=hs.m.called hp (S':=G.S) (τ':=fun _=>.nilIface) yT (fun _ _ h=>h) (fun b o hb=>ar (hs.m.dP b o hb) yT.size) (fun _ _ h=>.inl h) σ.live _ rfl
         (fun g z hz=>.inl ⟨fun e=>hp (by rw[<-e];exact(hs.m.own g z.1 z.2.1 z.2.2 hz).m),hz⟩) (fun j k z u b hz=>absurd ((hs.m.own (p,j) z.1 z.2.1 z.2.2 hz).m) hp) (fun h=>absurd h a4) a3
        refine hK _ _ _ (hs.step (o:=o) (e:=xZ _ (.ptr fs) p o.dst false) a7 (hm.congr (dY _) (dY _)) rfl a6 (by intro x hx;cases hx) ?_ J);intro _;refine(if_pos (show aV C.ρ ([]:dJ)=true from rfl)).mpr ?_;exact⟨rfl,.gv,kX.2 (.inl rfl)⟩
       cases f
      cases f
     cases f
    cases f
   cases f
  cases f
def xH{d:Tap Bool}{ops:Tae}{e:iZ}(hs:gG n w0 S0 C G σ a w)(c:jW d P cs ops σ p o=some e)(A:¬C.M p)(r:p<C.N)(j:∀k v,lk cs.l k=some v->bn P k v (Pre k) (Φ k))(q:e.tN.2.lt C.N=true)(i:∀L∈e.items,eR C Φ Pre L)(h:∀d,o.dst=some d->d<n)(g:Hf P cs S0 Φ Pre):fM P n w0 S0 C (e.app σ) p ops a w o:=by
 unfold jW at c;split at c
 .unfold xg at c;split at c
  .rename_i D;exact PV hs c A r j q i h (fun f=>by have:=g.1 f;omega) (fun f=>by have:=g.2 f;omega) g
  .rename_i D;split at c
   .rename_i pc B;split at c
    .rename_i F;exact xI hs c A r j q i h (fun _ J u=>by rw[B]at u;injection u with u;subst u;exact F) (fun f=>by have:=g.2 f;omega) g
    cases c
   cases c
  rename_i U H;split at c
  .rename_i S;exact xI hs c A r j q i h (fun f=>absurd (g.1 f) H) (fun _=>S) g
  cases c
 .rename_i b y O;split at c
  .cases c
  rename_i D;have I:cs.fr=0:=by simpa using D
  split at c
  .rename_i X T;simp only[cQ]at c;obtain⟨x,E,rfl⟩:=c;exact Ib hs A r O E q i h g (fun f=>by have:=g.1 f;omega) (fun f=>by have:=g.2 f;omega)
  cases c
 .split at c
  .cases c
  rename_i D;have I:cs.fr=0:=by simpa using D
  split at c
  .rename_i pc B;split at c
   .rename_i x E;injection c with c;subst c;exact px hs A r B (i (.I9 pc true) (by simp)) E j (i _ (by simp)) q h (fun f=>by have:=g.1 f;omega) (fun f=>by have:=g.2 f;omega)
   cases c
  cases c
 split at c
 .rename_i pc v B E;injection c with c;subst c;intro K Q W;obtain⟨R,V⟩:=gj hs.t B;have z:aV C.ρ pc=false:=i (.I9 pc false) (by simp);rw[R,z];simp only[ai,if_false];refine W _ _ _ (hs.step (o:=o) (dO.pg C w G p) ((hs.m.pg p).congr (dY _) (dY _)) rfl q V (by intro _;simp only[z,ai,if_false]) h)
 cases c
end
section
variable{P:Tba}{σ σ':St}{o:Tbd}{pc:dJ}
def gQ(P:Tba)(σ σ':St)(xs:List Tbc):Prop:=∀x∈xs,∀(q:dJ) (a:Tbb),fT P σ' q x a=fT P σ q x a
def RF{t:Nat}(h:σ'.tm t=σ.tm t)(q:dJ)(hint:Tbb):fT P σ' q (.tmp t) hint=fT P σ q (.tmp t) hint:=by simp only[fT,BQ,h]
def tu{xs:List Tbc}(h:∀t,Operand.tmp t∈xs->σ'.tm t=σ.tm t):gQ P σ σ' xs:=by
 intro x b q a;cases x with
 |tmp t=>exact RF (h t b) q a
 |const v=>cases v<;>simp only[fT,BQ]
 |global g=>simp only[fT,BQ]
 |func f=>simp only[fT,BQ]
def gQ.d{xs:List Tbc}(h:gQ P σ σ' xs){x:Tbc}(a:x∈xs)(q:dJ)(hint:Tbb):fk P σ' q x hint=fk P σ q x hint:=by unfold fk;rw[h x a]
def yK:∀{xs:List Tbc} {ts:List Tbb},gQ P σ σ' xs->ye P σ' pc xs ts=ye P σ pc xs ts
 |[],[],_=>rfl
 |[],_::_,_=>rfl
 |_::_,[],_=>rfl
 |x::xs,t::ts,h=>by simp only[ye];rw[h.d (aZ ..),yK (fun y a=>h y (ao _ a))]
def ke(a:Nat->Tbb):∀{xs:List (Nat×Tbc)},gQ P σ σ' (xs.map (·.2))->ma P σ' pc a xs=ma P σ pc a xs
 |[],_=>rfl
 |(i,x)::xs,h=>by simp only[ma];rw[h x (by simp),ke a (fun y b=>h y (by simp only[ct];exact ao _ b))]
def su:∀{xs:List Tbc} {es:List (E×Ty)} {b:List (Nat×List SC)},gQ P σ σ' xs->rB P σ pc xs=some (es,b)->(∀x∈b,σ'.hp x.1=σ.hp x.1)->rB P σ' pc xs=some (es,b)
 |[],es,b,_,h,_=>h
 |x::xs,es,b,hs,h,hhp=>by
  simp only[rB]at h⊢;rw[hs x (aZ ..)];have a:gQ P σ σ' xs:=fun y c=>hs y (ao _ c);split at h
  .rename_i id k j g d;split at h
   .rename_i n l f;split at h
    .rename_i q m i;obtain⟨rfl,rfl⟩:=iE h;rw[su a d (fun y c=>hhp y (ao _ c))];simp only[g];rw[hhp (id,l) (by simp)];simp only[f,i]
    cases h
   cases h
  .rename_i e p k j g d;obtain⟨rfl,rfl⟩:=iE h;rw[su a d hhp];simp only[g]
  cases h
def B8{pl:Pl}{r:Tai}(hs:gQ P σ σ' o.op.operands.toList)(h:qt P σ pc o=some (pl,r))(D:∀id∈r,σ'.hp id=σ.hp id):qt P σ' pc o=some (pl,r):=by
 have e:∀{x:Tap Pl} {y:Tap Pl},y=x->x.map (·,([]:Tai))=some (pl,r)->y.map (·,([]:Tai))=some (pl,r):=fun b n=>b▸n;unfold qt at h⊢;split at h
 .rename_i t x a;rw[a]at hs
  try simp only[a]
  unfold DH at h⊢;simp only[a]at h⊢;rw[hs x (by simp[Op.operands])];split at h
  .cases h
  rename_i M;rw[if_neg M];split at h
  .rename_i id L l
   try simp only[l]
   split at h
   .rename_i I S A
    have v:r=[id]:=by
     split at h
     .cases h
     split at h
     .split at h
      .split at h
       .injection h with h;simp only[ae]at h;exact h.2.symm
       cases h
      cases h
     split at h
     .injection h with h;simp only[ae]at h;exact h.2.symm
     cases h
    rw[D id (by rw[v];simp),A];exact h
   cases h
  .rename_i l;try simp only[l]
   exact h
  .rename_i l;try simp only[l]
   exact h
  .rename_i l;try simp only[l]
   exact h
  cases h
 .rename_i x a;rw[a]at hs;try simp only[a]
  refine e ?_ h;unfold Ac;simp only[a];rw[hs x (by simp[Op.operands])]
 .rename_i x a;rw[a]at hs;try simp only[a]
  refine e ?_ h;unfold Ac;simp only[a];rw[hs x (by simp[Op.operands])]
 .rename_i c x y a;rw[a]at hs;try simp only[a]
  refine e ?_ h;unfold DF;simp only[a];rw[hs.d (x:=c) (by simp[Op.operands])];have b:=fun q hint=>hs.d (x:=x) (by simp[Op.operands]) q hint;have n:=fun q hint=>hs.d (x:=y) (by simp[Op.operands]) q hint;simp only[b,n]
 .rename_i op H x y U a;rw[a]at hs;try simp only[a]
  refine e ?_ h;unfold DI vT Jn;simp only[a];rw[hs.d (x:=x) (by simp[Op.operands]),hs.d (x:=y) (by simp[Op.operands]),hs x (by simp[Op.operands])]
 .rename_i op H x a;rw[a]at hs;try simp only[a]
  refine e ?_ h;have b:=fun q hint=>hs.d (x:=x) (by simp[Op.operands]) q hint;unfold Mm;simp only[a];cases op<;>simp only[b]
 .rename_i s d x a;rw[a]at hs;try simp only[a]
  refine e ?_ h;unfold Mm;simp only[a];rw[hs.d (x:=x) (by simp[Op.operands])]
 .rename_i x j a;rw[a]at hs;try simp only[a]
  refine e ?_ h;unfold tC;simp only[a];rw[hs x (by simp[Op.operands])]
 .rename_i t x f a;rw[a]at hs;try simp only[a]
  refine e ?_ h;unfold oX;simp only[a];rw[hs x (by simp[Op.operands])]
 .rename_i t x f a;rw[a]at hs;try simp only[a]
  refine e ?_ h;unfold zp;simp only[a];rw[hs x (by simp[Op.operands])]
 .rename_i t x i a;rw[a]at hs;try simp only[a]
  refine e ?_ h;have b:=fun q hint=>hs x (by simp[Op.operands]) q hint;have n:=fun q hint=>hs.d (x:=x) (by simp[Op.operands]) q hint;have B:=fun q hint=>hs.d (x:=i) (by simp[Op.operands]) q hint
  have R:nd P σ' pc o=nd P σ pc o:=by unfold nd;simp only[a];rw[n,B]
  have O:kI P σ' pc o=kI P σ pc o:=by unfold kI;simp only[a];rw[b,B]
  have Q:lR P σ' pc o=lR P σ pc o:=by
   unfold lR;simp only[a];split
   .rename_i F;injection F with K J V;subst K;subst J;rw[b]
   rfl
  unfold oW;rw[R,Q,O]
 .rename_i x a;rw[a]at hs;try simp only[a]
  refine e ?_ h;unfold Jm;simp only[a];rw[hs x (by simp[Op.operands])]
 .rename_i t x E C a;rw[a]at hs;try simp only[a]
  refine e ?_ h;unfold zn;simp only[a];have b:=fun q hint=>hs.d (x:=x) (by simp[Op.operands]) q hint;have n:=fun y (p:y∈E.toArray) q hint=>hs.d (x:=y) (by simp[Op.operands]at p⊢;simp[p]) q hint;have B:=fun y (p:y∈C.toArray) q hint=>hs.d (x:=y) (by simp[Op.operands]at p⊢;simp[p]) q hint;cases E with
  |none=>cases C with
   |none=>simp only[b]
   |some y=>simp only[b,B y (by simp)]
  |some z=>cases C with
   |none=>simp only[b,n z (by simp)]
   |some y=>simp only[b,B y (by simp),n z (by simp)]
 .rename_i t x E C mx G a;rw[a]at hs;try simp only[a]
  cases mx with
  |none=>exact absurd rfl G
  |some m=>
   refine e ?_ h;unfold vS;simp only[a];have b:=fun q hint=>hs.d (x:=x) (by simp[Op.operands]) q hint;have B:=fun y (p:y∈C.toArray) q hint=>hs.d (x:=y) (by simp[Op.operands]at p⊢;simp[p]) q hint;have N:=fun q hint=>hs.d (x:=m) (by simp[Op.operands]) q hint;cases E with
   |some z=>rfl
   |none=>cases C with
    |none=>rfl
    |some y=>simp only[b,B y (by simp),N]
 .rename_i t u a;rw[a]at hs;try simp only[a]
  refine e ?_ h;unfold zq;simp only[a];have b:=fun hint=>ke (P:=P) (σ:=σ) (σ':=σ') (pc:=pc) hint (xs:=u.toList) (by simpa [Op.operands]using hs);simp only[b]
 .rename_i T m x ok a;rw[a]at hs;try simp only[a]
  unfold DG at h⊢;simp only[a]at h⊢;cases ok with
  |true=>cases h
  |false=>
   simp only at h⊢;rw[hs m (by simp[Op.operands]),hs.d (x:=x) (by simp[Op.operands])];split at h
   .rename_i id X W b n
    try simp only[b,n]
    split at h
    .rename_i I S A
     have v:r=[id]:=by
      split at h
      .split at h
       .injection h with h;simp only[ae]at h;exact h.2.symm
       cases h
      cases h
     rw[D id (by rw[v];simp),A];exact h
    cases h
   cases h
 .rename_i k g a;rw[a]at hs;have b:∀x∈k.toList,∀q hint,fk P σ' q x hint=fk P σ q x hint:=fun x l q hint=>hs.d (by simp[Op.operands,Call.operands];simpa using l) q hint;refine e ?_ h;unfold Cj;simp only[a];split
  .rename_i x t w _;rw[b x (by rw[w];simp)]
  rfl
 .rename_i k g a;rw[a]at hs;have b:∀x∈k.toList,∀q hint,fk P σ' q x hint=fk P σ q x hint:=fun x l q hint=>hs.d (by simp[Op.operands,Call.operands];simpa using l) q hint;refine e ?_ h;unfold Cj;simp only[a];split
  .rename_i x y w;rw[b x (by rw[w];simp),b y (by rw[w];simp)]
  rfl
 .rename_i k g a;rw[a]at hs;have b:∀x∈k.toList,∀q hint,fk P σ' q x hint=fk P σ q x hint:=fun x l q hint=>hs.d (by simp[Op.operands,Call.operands];simpa using l) q hint;refine e ?_ h;unfold Cj;simp only[a];split
  .rename_i x y w;rw[b x (by rw[w];simp),b y (by rw[w];simp)]
  rfl
 cases h
def mf{ops:Tae}(h:∀t,t∈o.looksAt ops->σ'.tm t=σ.tm t):guardOf ops σ' o=guardOf ops σ o:=by
 unfold guardOf;split
 .rfl
 rename_i j a c;split
 .rename_i t b;rw[h t (by unfold Oper.looksAt;rw[c];simp only[b];simp)]
 rfl
def B6{r:bC}{c:SC}{e:E}{l:kM}(h:ju σ r c=some (e,l))(i:∀j g,(j,some g)∈l->σ'.live g=σ.live g):ju σ' r c=some (e,l):=by
 obtain⟨t,_|⟨f,T⟩⟩:=r
 .exact h
 simp only[ju]at h⊢;split at h
 .exact h
 .rename_i g p k;split at h
  .rename_i m n b a;split at h
   .rename_i d;obtain⟨rfl,rfl⟩:=iE h;rw[i f g (by simp),a];simp only[d,and_self,if_true]
   cases h
  cases h
 .rename_i g k;split at h
  .rename_i m n b a;split at h
   .rename_i d;obtain⟨rfl,rfl⟩:=iE h;rw[i f g (by simp),a];simp only[d,and_self,if_true]
   cases h
  cases h
 cases h
def sw:∀{a:List bC} {cs:List SC} {es:List E} {l:kM},gg σ a cs=some (es,l)->(∀j g,(j,some g)∈l->σ'.live g=σ.live g)->gg σ' a cs=some (es,l)
 |[],[],es,l,h,_=>h
 |[],_::_,_,_,h,_=>by cases h
 |_::_,[],_,_,h,_=>by cases h
 |r::a,c::cs,es,l,h,hl=>by
  simp only[gg]at h⊢;split at h
  .rename_i e d;obtain⟨rfl,rfl⟩:=iE h;rw[B6 e (fun j g b=>hl j g (az _ b)),sw d (fun j g b=>hl j g (bA _ b))]
  cases h
def yn:∀{rcs:List (List bC)} {ids:Tai} {a:List (List E)} {l:kM},tT σ rcs ids=some (a,l)->(∀id∈ids,σ'.hp id=σ.hp id)->(∀j g,(j,some g)∈l->σ'.live g=σ.live g)->tT σ' rcs ids=some (a,l)
 |[],[],_,_,h,_,_=>h
 |[],_::_,_,_,h,_,_=>by cases h
 |_::_,[],_,_,h,_,_=>by cases h
 |rc::r,id::ids,a,l,h,hh,hl=>by
  simp only[tT]at h⊢;rw[hh id (by simp)];split at h
  .split at h
   .rename_i e d;obtain⟨rfl,rfl⟩:=iE h;rw[sw e (fun j g b=>hl j g (az _ b)),yn d (fun id c=>hh id (by simp[c])) (fun j g b=>hl j g (bA _ b))]
   cases h
  cases h
def r7:∀{a:List Bool} {xs:List Tbc} {ts:List Tbb},gQ P σ σ' xs->kO P σ' pc a xs ts=kO P σ pc a xs ts
 |[],[],[],_=>rfl
 |false::a,x::l,t::ts,hs=>by simp only[kO];rw[hs.d (by simp),r7 (fun y c=>hs y (by simp[c]))]
 |true::a,x::l,t::ts,hs=>by simp only[kO];rw[hs x (by simp),r7 (fun y c=>hs y (by simp[c]))]
 |[],[],_::_,_=>by simp[kO]
 |[],_::_,ts,_=>by cases ts<;>simp[kO]
 |b::_,[],ts,_=>by cases b<;>cases ts<;>simp[kO]
 |b::_,_::_,[],_=>by cases b<;>simp[kO]
def r8:∀{cs:List SC} {es:List E} {ts:Tam} {ids:Tai},tU σ cs=some (es,ts,ids)->(∀id∈ids,σ'.hp id=σ.hp id)->tU σ' cs=some (es,ts,ids)
 |[],es,ts,ids,h,_=>h
 |c::r,es,ts,ids,h,hh=>by
  simp only[tU]at h⊢;split at h
  .rename_i j g d f;split at h
   .rename_i e t p;obtain⟨rfl,rfl,rfl⟩:=LY h;rw[r8 f hh]
   split at h
   .rename_i id n;split at h
    .rename_i m k a;split at h
     .rename_i q l b;obtain⟨rfl,rfl,rfl⟩:=LY h;rw[r8 f (fun id i=>hh id (by simp[i]))];simp only[hh id (by simp),a,b]
     cases h
    cases h
   cases h
  cases h
def IZ{x:Tbc}{t:Tbb}{e:E}{ty:Ty}{ids:Tai}(hs:gQ P σ σ' [x])(h:KC P σ pc x t=some (e,ty,ids))(c:∀id∈ids,σ'.hp id=σ.hp id):KC P σ' pc x t=some (e,ty,ids):=by
 unfold KC at h⊢;rw[hs.d (by simp),hs x (by simp)];split at h
 .exact h
 split at h
 .rename_i id m;split at h
  .rename_i l j a;split at h
   .rename_i n k b f;obtain⟨rfl,rfl,rfl⟩:=LY h;rw[c id (by simp),a];simp only;rw[r8 f (fun i g=>c i (by simp[g]))]
   cases h
  cases h
 cases h
def yJ:∀{xs:List Tbc} {ts:List Tbb} {es:List (E×Ty)} {ids:Tai},gQ P σ σ' xs->yd P σ pc xs ts=some (es,ids)->(∀id∈ids,σ'.hp id=σ.hp id)->yd P σ' pc xs ts=some (es,ids)
 |[],[],es,ids,_,h,_=>h
 |x::l,t::ts,es,ids,hs,h,hh=>by
  simp only[yd]at h⊢;split at h
  .rename_i e j k g c f d;obtain⟨rfl,rfl⟩:=iE h;rw[IZ (fun y a=>hs y (by simp at a;simp[a])) f (fun i b=>hh i (az _ b)),yJ (fun y a=>hs y (by simp[a])) d (fun i b=>hh i (bA _ b))]
  cases h
 |[],_::_,_,_,_,h,_=>by cases h
 |_::_,[],_,_,_,h,_=>by cases h
def Ca{cs:mJ}{k:Nat}{e:E}{b:dI}{g:Tai}(hs:gQ P σ σ' o.op.operands.toList)(h:oJ P cs σ pc o=some (k,e,b,g))(p:∀id∈g,σ'.hp id=σ.hp id):oJ P cs σ' pc o=some (k,e,b,g):=by
 unfold oJ at h⊢;split at h
 .rename_i f m a i
  try simp only[i]
  rw[hs f (by rw[i];simp[Op.operands,Call.operands])];split at h
  .rename_i t s u ids q j;split at h
   .rename_i l c;split at h
    .rename_i d;obtain⟨rfl,r,rfl,rfl⟩:=Yz h;simp only[q];rw[yJ (fun x n=>hs x (by rw[i];simp[Op.operands,Call.operands];right;simpa using n)) j p];simp only[c];rw[if_pos d,r]
    cases h
   cases h
  cases h
 cases h
def Ey{cs:mJ}{k:Nat}{e:E}{i:dI}{m:Tai}(hs:gQ P σ σ' o.op.operands.toList)(h:oJ P cs σ pc o=some (k,e,i,m)):iG P cs σ' [] o=none:=by
 unfold oJ at h;split at h
 .rename_i f l a j;split at h
  .rename_i r q s ids n p;split at h
   .rename_i b c;split at h
    .rename_i g;unfold iG;simp only[j];rw[hs f (by rw[j];simp[Op.operands,Call.operands])];simp only[n,c];have d:=g.1;cases hq:b.ob with
     |none=>rfl
     |some ob=>rw[hq]at d;cases d
    cases h
   cases h
  cases h
 cases h
def Gz{ob:Ob}{ids:Tai}(b:∀id∈nw σ ob ids,σ'.hp id=σ.hp id):nw σ' ob ids=nw σ ob ids:=by
 have d:∀id r,ids=id::r->σ'.hp id=σ.hp id:=by
  intro id r c;refine b id ?_;subst c;unfold nw;split
  .split
   .rename_i e a;simp only[dD]at a;obtain⟨rfl,rfl⟩:=a;split<;>simp
   simp
  simp
 unfold nw;split
 .split
  .rw[d _ _ rfl]
  rfl
 rfl
def Bn:∀{rcs:List (List bC)} {ids:Tai} {lk:Tal},(∀id∈ids,σ'.hp id=σ.hp id)->yS σ' rcs ids lk=yS σ rcs ids lk
 |[],_,_,_=>by simp[yS]
 |_::_,[],_,_=>by simp[yS]
 |rc::r,id::ids,none,_=>by simp[yS]
 |rc::r,id::ids,some l,h=>by simp only[yS];rw[h id (by simp),Bn (rcs:=r) (ids:=ids) (fun i a=>h i (by simp[a]))]
def pB{cs:mJ}{x:oD}(hs:gQ P σ σ' o.op.operands.toList)(h:iG P cs σ pc o=some x)(k:∀id∈x.ids,σ'.hp id=σ.hp id)(r:∀j g,(j,some g)∈x.own->σ'.live g=σ.live g):
  iG P cs σ' pc o=some x:=by
 unfold iG at h⊢;split at h
 .rename_i f n b i
  try simp only[i]
  rw[hs f (by rw[i];simp[Op.operands,Call.operands])];split at h
  .rename_i w v s
   try simp only[s]
   split at h
   .rename_i p c
    try simp only[c]
    split at h
    .rename_i u e
     try simp only[e]
     rw[r7 (fun x q=>hs x (by rw[i];simp[Op.operands,Call.operands];right;simpa using q))];split at h
     .rename_i y ids m
      try simp only[m]
      split at h
      .rename_i t l a;split at h
       .rename_i d;injection h with h;subst h;rw[Gz k,yn a k r];simp only;rw[Bn k];exact if_pos d
       cases h
      cases h
     cases h
    cases h
   cases h
  cases h
 cases h
def zb(hs:gQ P σ σ' o.op.operands.toList):nf P σ' o=nf P σ o:=by
 unfold nf;split
 .rename_i b c e;split
  .rename_i s x j g a f
   have i:s∈o.op.operands.toList:=by rw[e];simp[Op.operands,Call.operands];have:s∈b.toList:=by rw[a];simp
                                     simpa using this
   have h:x∈o.op.operands.toList:=by rw[e];simp[Op.operands,Call.operands];have:x∈b.toList:=by rw[a];simp
                                     simpa using this
   rw[hs s i,hs.d h]
  rfl
 rfl
def qM{cs:mJ}{ops:Tae}{p:Nat}{e:iZ}(a:rH P cs ops σ p o=some e)(F:∀t,t∈o.looksAt ops->σ'.tm t=σ.tm t)(w:∀id∈e.rd,σ'.hp id=σ.hp id)(q:∀x∈e.live,x.2=none->σ'.live x.1=σ.live x.1):rH P cs ops σ' p o=some e:=by
 have hs:gQ P σ σ' o.op.operands.toList:=tu fun t ht=>F t (by unfold Oper.looksAt;exact az _ (bE.2 ⟨.tmp t,ht,rfl⟩))
 unfold rH at a⊢;rw[mf F];split at a
 .cases a
 rename_i pc hg
 try simp only[hg]
 split at a
 .rename_i r
  have:zS P σ' pc o=zS P σ pc o:=by
   unfold zS;split
   .rfl
   .rename_i t x h;rw[hs x (by rw[h];simp[Op.operands])]
   rfl
  try simp only[r]
  rw[this];exact a
 .rename_i r
  try simp only[r]
  split at a
  .rename_i id l i
   have M:id∈e.rd:=by
    split at a
    .injection a with a;subst a;simp
    cases a
   have:vF P σ' pc o=some (id,l):=by
    unfold vF at i⊢;split at i
    .rename_i t x y h
     try simp only[h]
     rw[hs x (by rw[h];simp[Op.operands]),hs y (by rw[h];simp[Op.operands])];split at i
     .rename_i a4 a3 a7 sz J X W
      try simp only[J,X,W]
      split at i
      .rename_i a2 R;split at i
       .rename_i V;obtain⟨rfl,rfl⟩:=iE i;rw[w _ M,R];exact if_pos V
       cases i
      cases i
     cases i
    cases i
   rw[this];exact a
  cases a
 .rename_i r
  try simp only[r]
  split at a
  .rename_i Z t fz B;injection a with a;subst a
   have:Mn P σ' pc o=some (Z,t,fz):=by
    unfold Mn at B⊢;split at B
    .rename_i f first E h
     try simp only[h]
     split at B
     .rename_i S;rw[if_pos S];split at B
      .rename_i es a5 D;obtain⟨J,X,W⟩:=LY B;subst W;rw[su (fun x A=>hs x (by rw[h];simp[Op.operands];right;simpa using A)) D (fun x A=>w x.1 (by simp only[bf];exact⟨x,A,rfl⟩))];simp only[J,X]
      cases B
     cases B
    cases B
   rw[this]
  cases a
 .rename_i r
  try simp only[r]
  have:xc P cs σ' pc o=xc P cs σ pc o:=by
   unfold xc;split
   .rename_i f z n h;rw[hs f (by rw[h];simp[Op.operands,Call.operands]),yK (fun x A=>hs x (by rw[h];simp[Op.operands,Call.operands];right;simpa using A))]
   rfl
  rw[this];split at a
  .exact a
  split at a
  .rename_i x A
   have:iG P cs σ' [] o=some x:=by
    split at a
    .injection a with a;subst a;refine pB hs A w (fun j g hm=>q (g,none) ?_ rfl);exact az _ (az _ (bE.2 ⟨(j,some g),hm,rfl⟩))
    cases a
   rw[this];exact a
  split at a
  .rename_i k Z a1 Y i
   have H:∀id∈Y,σ'.hp id=σ.hp id:=by
    split at a
    .injection a with a;subst a;exact fun id hi=>w id hi
    cases a
   rw[Ey hs i,Ca hs i H];exact a
  cases a
 .rename_i r
  try simp only[r]
  rw[zb hs];split at a
  .exact a
  split at a
  .rename_i g e1 e2 T t b c
   have O:∀g',g=some g'->σ'.live g'=σ.live g':=by
    rintro g' rfl;split at a
    .injection a with a;subst a;exact q (g',none) (by simp) rfl
    cases a
   have:rR P σ' pc o=some (g,e1,e2,T,t,b):=by
    unfold rR at c⊢;split at c
    .rename_i z n h
     try simp only[h]
     split at c
     .rename_i s x tt a0 m I
      try simp only[m,I]
      have m1:s∈o.op.operands.toList:=by rw[h];simp[Op.operands,Call.operands];have:s∈z.toList:=by rw[m];simp
                                         simpa using this
      have m2:x∈o.op.operands.toList:=by rw[h];simp[Op.operands,Call.operands];have:x∈z.toList:=by rw[m];simp
                                         simpa using this
      rw[hs s m1,hs.d m2];split at c
      .rename_i el sv ex u hu L A
       try simp only[hu,L,A]
       split at c
       .rename_i ie u' Q K
        try simp only[Q,K]
        split at c
        .rename_i V;rw[if_pos V];split at c
         .rename_i v;exact c
         .rename_i g0 e0 v;split at c
          .rename_i a6 T' v' i;split at c
           .rename_i U;obtain⟨rfl,rfl,rfl,rfl,rfl,rfl⟩:=zP6 c
            try simp only[]
            rw[O g0 rfl,i];simp only[U,and_self,if_true]
           cases c
          cases c
         cases c
        cases c
       cases c
      cases c
     cases c
    cases c
   rw[this];exact a
  cases a
 .rename_i r
  try simp only[r]
  have:qQ P σ' pc o=qQ P σ pc o:=by
   unfold qQ;split
   .rename_i t len C h;have J:=fun G=>ke (P:=P) (σ:=σ) (σ':=σ') (pc:=pc) G (xs:=C.toList) (by rw[h]at hs;simpa [Op.operands]using hs);simp only[J]
   rfl
  rw[this];exact a
 split at a
 .rename_i s is Y N;injection a with a;subst a;rw[B8 hs N w]
 cases a
def oZ{g:Tag}{t:Ty}(h:σ'.live g=σ.live g):vn σ' g t=vn σ g t:=by unfold vn;rw[h]
def Gk{cs:mJ}(hs:gQ P σ σ' o.op.operands.toList):Jb P cs σ' o=Jb P cs σ o:=by
 unfold Jb;split
 .rename_i t x y g;rw[hs x (by rw[g];simp[Op.operands])]
 .rename_i t x i g;rw[hs x (by rw[g];simp[Op.operands])]
 .rename_i d c g;split
  .rename_i x t m n
   have k:x∈o.op.operands.toList:=by rw[g];simp[Op.operands,Call.operands];have:x∈d.toList:=by rw[m];simp
                                     simpa using this
   rw[hs x k]
  rfl
 .rfl
 .rfl
 .rename_i f d c g
  have:(d.toList.zip c.toList).any (Cv P σ')=(d.toList.zip c.toList).any (Cv P σ):=by
   have j:∀x∈d.toList.zip c.toList,Cv P σ' x=Cv P σ x:=by intro x e;have l:x.1∈d.toList:=(List.of_mem_zip (a:=x.1) (b:=x.2) e).1;unfold Cv;rw[hs x.1 (by rw[g];simp[Op.operands,Call.operands];right;simpa using l)]
   rw[cT,fp,fp];exact⟨fun⟨x,e,h⟩=>⟨x,e,j x e▸h⟩,fun⟨x,e,h⟩=>⟨x,e,(j x e).symm▸h⟩⟩
  rw[this]
 rfl
def ue{c:SC}{y:(E×Ty)×List (Tag×Tap (E×Tbb×Ty))}(h:qw σ c=some y)(b:∀z∈y.2,σ'.live z.1=σ.live z.1):qw σ' c=some y:=by
 cases c with
 |xo g t=>
  simp only[qw]at h⊢;split at h
  .rename_i e T a;injection h with h;subst h;rw[oZ (b _ (aG.2 rfl)),a]
  cases h
 |_=>exact h
def sV:∀{b:List SC} {y:(List E×Tam)×List (Tag×Tap (E×Tbb×Ty))},mz σ b=some y->(∀z∈y.2,σ'.live z.1=σ.live z.1)->mz σ' b=some y
 |[],y,h,_=>h
 |c::b,y,h,hl=>by
  simp only[mz]at h⊢;split at h
  .rename_i e t l j g i f d;injection h with h;subst h;rw[ue f (fun z a=>hl z (az _ a)),sV d (fun z a=>hl z (bA _ a))]
  cases h
def BK{s:SV}{y:(E×Ty)×List (Tag×Tap (E×Tbb×Ty))}(h:pU σ s=some y)(a:∀z∈y.2,σ'.live z.1=σ.live z.1):pU σ' s=some y:=by
 cases s with
 |one c=>exact ue h a
 |agg cl=>
  simp only[pU]at h⊢;split at h
  .rename_i f d e b;injection h with h;subst h;rw[sV b a]
  cases h
 |fa l=>cases h
def yI:∀{xs:List Tbc} {ts:List Tbb} {y:List (E×Ty)×List (Tag×Tap (E×Tbb×Ty))},gQ P σ σ' xs->yc P σ pc xs ts=some y->(∀z∈y.2,σ'.live z.1=σ.live z.1)->yc P σ' pc xs ts=some y
 |[],[],y,_,h,_=>h
 |x::xs,t::ts,y,hs,h,hl=>by
  simp only[yc]at h⊢;split at h
  .rename_i e l j i b f;injection h with h;subst h;rw[hs x (by simp)];rw[eu]at b;obtain⟨g,d,c⟩:=b;rw[d,cg,BK c (fun z a=>hl z (az _ a)),yI (fun z a=>hs z (by simp[a])) f (fun z a=>hl z (bA _ a))]
  cases h
 |[],_::_,_,_,h,_=>by cases h
 |_::_,[],_,_,h,_=>by cases h
def IW{cs:mJ}{p k:Nat}{e:iZ}(hs:gQ P σ σ' o.op.operands.toList)(a:My P cs σ p o k=some e)(M:∀id∈e.rd,σ'.hp id=σ.hp id)(b:∀x∈e.live,σ'.live x.1=σ.live x.1):My P cs σ' p o k=some e:=by
 unfold My at a⊢;split at a
 .unfold Dy at a⊢;split at a
  .rename_i t x y c
   try simp only[c]
   rw[hs x (by rw[c];simp[Op.operands]),hs y (by rw[c];simp[Op.operands])];split at a
   .rename_i g i u H U V n D R Q
    try simp only[D,R,Q]
    split at a
    .rename_i F T j;split at a
     .rename_i A;simp only[cQ]at a;obtain⟨s,O,rfl⟩:=a;rw[oZ (b _ (aG.2 rfl)),j];simp only[if_pos A,O,aS]
     cases a
    cases a
   cases a
  cases a
 .unfold Qp at a⊢;split at a
  .rename_i m h c
   try simp only[c]
   split at a
   .rename_i x t E K
    try simp only[E,K]
    have I:x∈o.op.operands.toList:=by rw[c];simp[Op.operands,Call.operands];have:x∈m.toList:=by rw[E];simp
                                      simpa using this
    rw[hs x I];split at a
    .rename_i g u B r
     try simp only[B,r]
     split at a
     .rename_i F T j;injection a with a;subst a;rw[oZ (b _ (aG.2 rfl)),j]
     cases a
    cases a
   cases a
  cases a
 .unfold Dz at a⊢;split at a
  .rename_i t x i c
   try simp only[c]
   rw[hs x (by rw[c];simp[Op.operands]),hs.d (x:=i) (by rw[c];simp[Op.operands])];split at a
   .rename_i g u X k B r L
    try simp only[B,r,L]
    split at a
    .rename_i F T j;split at a
     .rename_i A;injection a with a;subst a;rw[oZ (b _ (aG.2 rfl)),j];exact if_pos A
     cases a
    cases a
   cases a
  cases a
 .unfold Qo at a⊢
  have S:qQ P σ' [] o=qQ P σ [] o:=by
   unfold qQ;split
   .rename_i t len q c;have D:=fun w=>ke (P:=P) (σ:=σ) (σ':=σ') (pc:=[]) w (xs:=q.toList) (by rw[c]at hs;simpa [Op.operands]using hs);simp only[D]
   rfl
  have:xb P σ' o=xb P σ o:=by unfold xb;rw[S]
  rw[this];exact a
 unfold Jc at a⊢;split at a
 .rename_i f m h c
  try simp only[c]
  rw[hs f (by rw[c];simp[Op.operands,Call.operands])];split at a
  .rename_i Y W U l N C;split at a
   .rename_i G v;split at a
    .rename_i A;injection a with a;subst a;rw[yI (fun x r=>hs x (by rw[c];simp[Op.operands,Call.operands];right;simpa using r)) C (fun z J=>b z (az _ J))];simp only[N,v];exact if_pos A
    cases a
   cases a
  cases a
 cases a
def GO{cs:mJ}{ops:Tae}{p:Nat}{e:iZ}(d:Cu P cs ops σ p o=some e)(b:∀t,t∈o.looksAt ops->σ'.tm t=σ.tm t)(c:∀id∈e.rd,σ'.hp id=σ.hp id)(a:∀x∈e.live,σ'.live x.1=σ.live x.1):Cu P cs ops σ' p o=some e:=by
 have hs:gQ P σ σ' o.op.operands.toList:=tu fun t g=>b t (by unfold Oper.looksAt;exact az _ (bE.2 ⟨.tmp t,g,rfl⟩))
 unfold Cu at d⊢;rw[Gk hs];split at d
 .exact IW hs d c a
 exact qM d b c (fun x f _=>a x f)
def ED(hs:gQ P σ σ' o.op.operands.toList):qk P σ' pc o=qk P σ pc o:=by
 unfold qk;split
 .rename_i t len a c;have d:=fun b=>ke (P:=P) (σ:=σ) (σ':=σ') (pc:=pc) b (xs:=a.toList) (by rw[c]at hs;simpa [Op.operands]using hs);simp only[d]
 rfl
def IN{cs:mJ}(hs:gQ P σ σ' o.op.operands.toList):vd P cs σ' pc o=vd P cs σ pc o:=by
 unfold vd;split
 .rename_i f b a c;rw[hs f (by rw[c];simp[Op.operands,Call.operands])]
 .rename_i b a c;split
  .rename_i x y _ t d h
   have g:x∈o.op.operands.toList:=by rw[c];simp[Op.operands,Call.operands];have:x∈b.toList:=by rw[d];simp
                                     simpa using this
   have e:y∈o.op.operands.toList:=by rw[c];simp[Op.operands,Call.operands];have:y∈b.toList:=by rw[d];simp
                                     simpa using this
   rw[hs x g,hs y e]
  rfl
 .rw[ED hs]
 rfl
def EK{cs:mJ}{ops:Tae}{p:Nat}{e:iZ}(c:xg P cs ops σ p o=some e)(b:∀t,t∈o.looksAt ops->σ'.tm t=σ.tm t)(d:∀id∈e.rd,σ'.hp id=σ.hp id)(a:∀x∈e.live,σ'.live x.1=σ.live x.1):xg P cs ops σ' p o=some e:=by
 have hs:gQ P σ σ' o.op.operands.toList:=tu fun t h=>b t (by unfold Oper.looksAt;exact az _ (bE.2 ⟨.tmp t,h,rfl⟩))
 unfold xg at c⊢;split at c
 .rename_i j;exact GO c b d a
 .rename_i j;rw[mf b];split at c
  .rename_i pc i
   try simp only[i]
   rw[IN hs];split at c
   .rename_i g;rw[if_pos g];exact qM c b d (fun x f _=>a x f)
   cases c
  cases c
 split at c
 .rename_i g;rw[if_pos g];exact qM c b d (fun x f _=>a x f)
 cases c
def B7{cs:mJ}(hs:gQ P σ σ' o.op.operands.toList):zo P cs σ' o=zo P cs σ o:=by
 unfold zo;split
 .rename_i f b a c;rw[hs f (by rw[c];simp[Op.operands,Call.operands])]
 rfl
def wG{d:Tap Bool}{cs:mJ}{ops:Tae}{p:Nat}{e:iZ}(a:jW d P cs ops σ p o=some e)(f:∀t,t∈o.looksAt ops->σ'.tm t=σ.tm t)(i:∀id∈e.rd,σ'.hp id=σ.hp id)(c:∀x∈e.live,σ'.live x.1=σ.live x.1):jW d P cs ops σ' p o=some e:=by
 have hs:gQ P σ σ' o.op.operands.toList:=tu fun t q=>f t (by unfold Oper.looksAt;exact az _ (bE.2 ⟨.tmp t,q,rfl⟩))
 unfold jW at a⊢;split at a
 .exact EK a f i c
 .rename_i b y s;split at a
  .cases a
  rename_i m;rw[if_neg m];split at a
  .simp only[cQ]at a⊢;obtain⟨x,l,rfl⟩:=a;refine⟨x,?_,rfl⟩;obtain⟨r,n⟩:=OU l;unfold YE;rw[pB hs r (fun id h=>by rw[n.2.2.2.1]at h;simp at h) (fun j g k=>by rw[n.2.2.2.2]at k;simp at k)];simp only;rw[if_pos n]
  cases a
 .split at a
  .cases a
  rename_i m;rw[if_neg m,mf f];split at a
  .rename_i pc u;split at a
   .rename_i x l;injection a with a;subst a
    have:iG P cs σ' pc o=some x:=by refine pB hs l i (fun j g k=>c (g,none) ?_);exact az _ (az _ (bE.2 ⟨(j,some g),k,rfl⟩))
    simp only[this]
   cases a
  cases a
 rw[mf f,B7 hs];exact a
end
inductive rr (P:Tba) (cs:mJ) (ops:Tae) (p0 N:Nat):List (Nat×iZ)->St->St->Prop
 |nil (σ:St):rr P cs ops p0 N [] σ σ
 |cons {i:Nat} {o:Tbd} {e:iZ} {r:List (Nat×iZ)} {σ σ':St} (ho:ops[i]?=some o) (he:∃d,jW d P cs ops σ (p0+i) o=some e) (P8:e.tN.2.lt N=true) (hr:rr P cs ops p0 N r (e.app σ) σ'):
  rr P cs ops p0 N ((i,e)::r) σ σ'
section
variable{P:Tba}{cs:mJ}{ops:Tae}{p0 N:Nat}
def indep(ops:Tae)(x y:Nat×iZ):Bool:=
 (match ops[x.1]?,ops[y.1]? with
  |some ox,some oy=>ox.apart ops oy
  |_,_=>false)&&
 (x.2.dst==((ops[x.1]?).bind (·.dst)))&&(y.2.dst==((ops[y.1]?).bind (·.dst)))&&
 (x.2.hp.all fun a=>(y.2.hp.all fun b=>a.1 !=b.1)&&y.2.rd.all fun b=>a.1 !=b)&&(y.2.hp.all fun b=>x.2.rd.all fun a=>b.1 !=a)&&
 (x.2.live.all fun a=>y.2.live.all fun b=>a.1 !=b.1)
def Bf{c β:Type}[DecidableEq c](h:c->β)(l m:List (c×β))(d:∀a∈l,∀b∈m,a.1≠b.1):fj (fj h l) m=fj (fj h m) l:=by
 funext x;unfold fj;cases h1:lk m x with
 |none=>cases h2:lk l x<;>rfl
 |some v=>
  cases h2:lk l x with
  |none=>rfl
  |some u=>exact absurd rfl (d (x,u) (iw h2) (x,v) (iw h1))
def qy{b β:Type}[DecidableEq b](h:b->β)(l:List (b×β))(x:b)(c:∀a∈l,a.1≠x):fj h l x=h x:=by
 unfold fj;cases h1:lk l x with
 |none=>rfl
 |some v=>exact absurd rfl (c _ (iw h1))
def rr.swap{x y:Nat×iZ}{r:List (Nat×iZ)}{σ σ':St}(K:indep ops x y=true)(h:rr P cs ops p0 N (x::y::r) σ σ'):rr P cs ops p0 N (y::x::r) σ σ':=by
 obtain⟨i,ex⟩:=x;obtain⟨j,ey⟩:=y;cases h with
 |cons hox p ag3 hr=>
  cases hr with
  |cons hoy o ag2 hr=>
   rename_i D B;unfold indep at K;simp only[hox,hoy,cg,aP,beq_iff_eq]at K;obtain⟨⟨⟨⟨⟨M,A⟩,v⟩,L⟩,u⟩,J⟩:=K;obtain⟨W,V,U⟩:=Oper.apart_spec M
   have k:∀a∈ex.hp,(∀b∈ey.hp,a.1≠b.1)/\∀b∈ey.rd,a.1≠b:=by intro a c;have:=bU.1 L a c;simp only[aP,bU,bne_iff_ne]at this;exact this
   have m:∀b∈ey.hp,∀a∈ex.rd,b.1≠a:=by intro b g a c;have:=bU.1 (bU.1 u b g) a c;simpa using this
   have f:∀a∈ex.live,∀b∈ey.live,a.1≠b.1:=by intro a c b g;have:=bU.1 (bU.1 J a c) b g;simpa using this
   have F:∀t,t∈B.looksAt ops->(ex.app σ).tm t=σ.tm t:=by
    intro t s;unfold iZ.app;rw[A];cases hd:D.dst with
    |none=>rfl
    |some d=>exact fh _ _ (fun e=>W d hd (e▸s))
   have E:∀t,t∈D.looksAt ops->(ey.app σ).tm t=σ.tm t:=by
    intro t s;unfold iZ.app;rw[v];cases hd:B.dst with
    |none=>rfl
    |some d=>exact fh _ _ (fun e=>U d hd (e▸s))
   obtain⟨Q,o⟩:=o;obtain⟨R,p⟩:=p
   have S:jW Q P cs ops σ (p0+j) B=some ey:=wG o (fun t s=>(F t s).symm)
    (fun id l=>(qy _ _ _ (fun a c=>(k a c).2 id l)).symm) (fun z H=>(qy _ _ _ (fun a c=>f a c z H)).symm)
   have T:jW R P cs ops (ey.app σ) (p0+i) D=some ex:=wG p E
    (fun id l=>qy _ _ _ (fun b g=>m b g id l)) (fun z H=>qy _ _ _ (fun b g=>(f z H b g).symm))
   have q:ex.app (ey.app σ)=ey.app (ex.app σ):=by
    unfold iZ.app;rw[A,v];simp only[St.mk.injEq];refine⟨?_,Bf _ _ _ (fun b g a c=>((k a c).1 b g).symm),Bf _ _ _ (fun b g a c=>(f a c b g).symm)⟩;cases hd:D.dst with
    |none=>rfl
    |some d=>
     cases hd':B.dst with
     |none=>rfl
     |some d'=>
      have I:d≠d':=fun e=>V d hd (e▸hd');funext t;simp only[fy];by_cases O:t=d
      .subst O;simp[I]
      simp[O]
   exact .cons hoy ⟨Q,S⟩ ag2 (.cons hox ⟨R,T⟩ ag3 (q▸hr))
def rr.pull{x:Nat×iZ}:∀{l r:List (Nat×iZ)} {σ σ':St},(∀y∈l,indep ops y x=true)->rr P cs ops p0 N (l++x::r) σ σ'->rr P cs ops p0 N (x::(l++r)) σ σ'
 |[],_,_,_,_,h=>h
 |y::l,r,σ,σ',hi,h=>by
  cases h with
  |cons ho he P8 hr=>
   have b:=rr.pull (l:=l) (fun z c=>hi z (ao _ c)) hr;exact rr.swap (hi _ (aZ ..)) (.cons ho he P8 b)
variable{C:Cx}{G:Gh}{w w0:Tan}{S0:gw}{σ:St}{a:Act}{n:Nat}{Φ:Tab}{Pre:Taa}
def dO.Jy(C:Cx)(w:Tan)(G:Gh){M':Taj}(h:∀i,C.M i->M' i):dO C w G {C with M:=M'} w G:=
 ⟨fun _ h=>⟨rfl,h⟩,h,fun _ _ h=>h,fun _ _ _=>rfl,fun _ _=>rfl,fun _ _=>rfl⟩
def eU.hY{d:Cx}(h:eU w0 S0 C G σ w)(c:dO C w G d w G):eU w0 S0 d G σ w where
 below:=h.below
 jB:=h.jB
 keep:=h.keep
 qc i b hi:=⟨c.M _ (h.qc i b hi).1,(h.qc i b hi).2⟩
 kN:=h.kN
 dP:=h.dP
 gL:=h.gL
 mC id x hx:=c.M _ (h.mC id x hx)
 box id ro cs hx:=by obtain⟨l,k,j,f⟩:=h.box id ro cs hx;exact⟨l,k,j.later c rfl,f⟩
 inj:=h.inj
 own g e T t hx:=(h.own g e T t hx).later c (fun _ _=>rfl) (fun _ _ _ h=>h)
 fS:=h.fS
 jr:=h.jr
 eO:=h.eO
 fresh:=h.fresh
 wz:=h.wz
def gG.hY{c:Cx}(h:gG n w0 S0 C G σ a w)(b:dO C w G c w G):gG n w0 S0 c G σ a w:=
 ⟨h.m.hY b,h.t.later b,h.sz,h.defers⟩
structure oz(P:Tba)(cs:mJ)(ops:Tae)(p0 n:Nat)(S0:gw)(C:Cx)(Φ:Tab)(Pre:Taa)(r:List (Nat×iZ)):Prop where
 YO:∀k sig,lk cs.l k=some sig->bn P k sig (Pre k) (Φ k)
 items:∀x∈r,∀it∈x.2.items,eR C Φ Pre it
 pos:∀x∈r,p0+x.1<C.N
 dst:∀(i:Nat) o d,ops[i]?=some o->o.dst=some d->d<n
 fr:Hf P cs S0 Φ Pre
def oz.tail{x:Nat×iZ}{r:List (Nat×iZ)}(h:oz P cs ops p0 n S0 C Φ Pre (x::r)):oz P cs ops p0 n S0 C Φ Pre r:=
 ⟨h.YO,fun y b=>h.items y (ao _ b),fun y b=>h.pos y (ao _ b),h.dst,h.fr⟩
def eR.add{p:Nat}{it:Item}(h:eR C Φ Pre it):eR (C.add p) Φ Pre it:=by cases it<;>exact h
def oz.add{p:Nat}{r:List (Nat×iZ)}(h:oz P cs ops p0 n S0 C Φ Pre r):oz P cs ops p0 n S0 (C.add p) Φ Pre r:=
 ⟨h.YO,fun x d c b=>(h.items x d c b).add,h.pos,h.dst,h.fr⟩
def Bc{Q:O3}:∀{r:List (Nat×iZ)} {σ σ':St} {C:Cx} {G:Gh} {a:Act} {w:Tan},rr P cs ops p0 C.N r σ σ'->oz P cs ops p0 n S0 C Φ Pre r->gG n w0 S0 C G σ a w->
  (r.map (·.1)).Nodup->(∀x∈r,¬C.M (p0+x.1))->
  (∀g w' p m,(∀i,m i->C.M i\/∃x∈r,i=p0+x.1)->gG n w0 S0 {C with M:=m} p σ' g w'->Q .normal g w')->wpOps P ops Q (r.map (·.1)) a w
 |[],σ,σ',C,G,a,w,h,_,hs,_,_,hQ=>by cases h;exact hQ a w G C.M (fun i B=>.inl B) hs
 |(i,e)::r,σ,σ',C,G,a,w,h,EV,hs,Vq,hM,hQ=>by
  cases h with
  |cons ho he P8 hr=>
   rename_i o;simp only[ct,List.nodup_cons]at Vq;have z:¬C.M (p0+i):=hM (i,e) (aZ ..);have c:=xH hs he.choose_spec z (EV.pos (i,e) (aZ ..)) EV.YO P8 (EV.items (i,e) (aZ ..)) (fun d D=>EV.dst i o d ho D) EV.fr
   have f:∀g w' p,gG n w0 S0 (C.add (p0+i)) p (e.app σ) g w'->wpOps P ops Q (r.map (·.1)) g w':=by
    intro g w' p t;refine Bc (C:=C.add (p0+i)) hr EV.tail.add t Vq.2 ?_ ?_
    .rintro x l (hm|hm)
     .exact hM x (ao _ l) hm
     have:x.1=i:=by omega
     exact Vq.1 (bf.2 ⟨x,l,this⟩)
    intro v q y m u k;refine hQ v q y m (fun j A=>?_) k;rcases u j A with(h1|h1)|⟨x,l,h1⟩
    .exact .inl h1
    .exact .inr ⟨(i,e),aZ ..,h1⟩
    exact .inr ⟨x,ao _ l,h1⟩
   have b:=c (wpOps P ops Q (r.map (·.1))) Q f;simp only[ct,wpOps,ho];split
   .rename_i s;rw[if_pos s]at b;exact .inl b
   rename_i s;rw[if_neg s]at b;exact b
def ko{Q:O3}(c:Tai):∀{r:List (Nat×iZ)} {σ σ':St} {C:Cx} {G:Gh} {a:Act} {w:Tan},rr P cs ops p0 C.N r σ σ'->oz P cs ops p0 n S0 C Φ Pre r->gG n w0 S0 C G σ a w->
  (r.map (·.1)).Nodup->(∀x∈r,¬C.M (p0+x.1))->
  (∀k w' q p,(∀i,p i->C.M i\/∃x∈r,i=p0+x.1)->gG n w0 S0 {C with M:=p} q σ' k w'->wpOps P ops Q c k w')->wpOps P ops Q (r.map (·.1)++c) a w
 |[],σ,σ',C,G,a,w,h,_,hs,_,_,hQ=>by cases h;exact hQ a w G C.M (fun i D=>.inl D) hs
 |(i,e)::r,σ,σ',C,G,a,w,h,EV,hs,Vq,hM,hQ=>by
  cases h with
  |cons ho he P8 hr=>
   rename_i o;simp only[ct,List.nodup_cons]at Vq;have A:¬C.M (p0+i):=hM (i,e) (aZ ..);have f:=xH hs he.choose_spec A (EV.pos (i,e) (aZ ..)) EV.YO P8 (EV.items (i,e) (aZ ..)) (fun d E=>EV.dst i o d ho E) EV.fr
   have g:∀k w' q,gG n w0 S0 (C.add (p0+i)) q (e.app σ) k w'->wpOps P ops Q (r.map (·.1)++c) k w':=by
    intro k w' q u;refine ko c (C:=C.add (p0+i)) hr EV.tail.add u Vq.2 ?_ ?_
    .rintro x m (hm|hm)
     .exact hM x (ao _ m) hm
     have:x.1=i:=by omega
     exact Vq.1 (bf.2 ⟨x,m,this⟩)
    intro y s z p v l;refine hQ y s z p (fun j B=>?_) l;rcases v j B with(h1|h1)|⟨x,m,h1⟩
    .exact .inl h1
    .exact .inr ⟨(i,e),aZ ..,h1⟩
    exact .inr ⟨x,ao _ m,h1⟩
   have b:=f (wpOps P ops Q (r.map (·.1)++c)) Q g;simp only[ct,eE,wpOps,ho];split
   .rename_i t;rw[if_pos t]at b;exact .inl b
   rename_i t;rw[if_neg t]at b;exact b
def fwd(ops:Tae)(i:Nat):Nat->Nat->Tai->Tai
 |0,_,acc=>acc
 |n+1,j,acc=>match ops[j]? with
  |some o=>if o.after.any fun e=>Region.binds .any e&&(e.on==i||acc.contains e.on) then fwd ops i n (j+1) (j::acc) else fwd ops i n (j+1) acc
  |none=>acc
def Qt(ops:Tae)(_:Nat)(i j:Nat):Bool:=(fwd ops i (ops.size-i) i []).contains j
def qo(ops:Tae):List (Nat×iZ)->Bool
 |[]=>true
 |x::r=>(r.all fun y=>indep ops x y||Qt ops ops.size x.1 y.1)&&qo ops r
def xm(ops:Tae)(b:Tbe Bool):Prop:=
 ∀(j:Nat) o,ops[j]?=some o->b.getD j false=true->∀e∈o.after,Region.binds .any e=true->b.getD e.on false=true
def uN{i:Nat}:∀(n j:Nat) (acc:Tai),(∀k∈acc,∀b:Tbe Bool,xm ops b->(∀o,ops[k]?=some o->∀e∈o.after,Region.binds .any e=true->b.getD e.on false=true)->b.getD i false=true)->
  ∀k∈fwd ops i n j acc,∀b:Tbe Bool,xm ops b->(∀o,ops[k]?=some o->∀e∈o.after,Region.binds .any e=true->b.getD e.on false=true)->b.getD i false=true
 |0,_,_,h=>h
 |n+1,j,acc,h=>by
  unfold fwd;split
  .rename_i o u;split
   .rename_i x;refine uN n (j+1) (j::acc) ?_;intro k l;rcases aH.1 l with rfl|l
    .intro b f d;obtain⟨e,v,s⟩:=Array.any_eq_true'.1 x;simp only[aP,bI,beq_iff_eq]at s;obtain⟨p,c⟩:=s;have r:=d o u e v p;rcases c with rfl|c
     .exact r
     exact h e.on (by simpa using c) b f (fun t g y m q=>f e.on t g r y m q)
    exact h k l
   exact uN n (j+1) acc h
  exact h
def Ip{b:Tbe Bool}(d:xm ops b)(f i j:Nat)(h:Qt ops f i j=true)(c:∀o,ops[j]?=some o->∀e∈o.after,Region.binds .any e=true->b.getD e.on false=true):b.getD i false=true:=
 uN _ _ [] (by simp) j (by simpa [Qt]using h) b d c
def yy:∀{l r:List (Nat×iZ)} {x:Nat×iZ},qo ops (l++x::r)=true->∀y∈l,indep ops y x=true\/Qt ops ops.size y.1 x.1=true
 |[],_,_,_,y,b=>by simp at b
 |z::l,r,x,h,y,b=>by
  simp only[eE,qo,aP]at h;rcases aH.1 b with rfl|b
  .have:=bU.1 h.1 x (by simp);simpa using this
  exact yy h.2 y b
def yz:∀{l r:List (Nat×iZ)} {x:Nat×iZ},qo ops (l++x::r)=true->qo ops (l++r)=true
 |[],r,x,h=>by simp only[eL,qo,aP]at h;exact h.2
 |z::l,r,x,h=>by simp only[eE,qo,aP]at h⊢;refine⟨?_,yz h.2⟩;rw[bU]at h⊢;intro y b;exact h.1 y (by rcases aQ.1 b with h|h<;>simp[h])
def H6{Q:O3}:∀(k:Nat) {r:List (Nat×iZ)} {σ σ':St} {C:Cx} {G:Gh} {a:Act} {w:Tan} {b:Tbe Bool},rr P cs ops p0 C.N r σ σ'->oz P cs ops p0 n S0 C Φ Pre r->gG n w0 S0 C G σ a w->
  (r.map (·.1)).Nodup->(∀x∈r,¬C.M (p0+x.1))->qo ops r=true->b.size=ops.size->xm ops b->r.length<=k->(∀i,i<ops.size->(b.getD i false=false↔i∈r.map (·.1)))->
  (∀x∈r,x.1<ops.size)->(r≠[]->Region.ready .any ops b≠[])->
  (∀(c:Tbe Bool) (r':List (Nat×iZ)),c.size=ops.size->xm ops c->(∀i,i<ops.size->(c.getD i false=false↔i∈r'.map (·.1)))->r'≠[]->(∀x∈r',x.1<ops.size)->Region.ready .any ops c≠[])->
  (∀a' w' G' M',(∀i,M' i->C.M i\/∃x∈r,i=p0+x.1)->gG n w0 S0 {C with M:=M'} G' σ' a' w'->Q .normal a' w')->wpAny P .any ops Q k b a w:=by
 intro k
 induction k with
 |zero=>
  intro r σ σ' C G a w b h f hs a3 hM v a0 Z F g W z u hQ;have hr:r=[]:=an (by omega);subst hr;cases h;refine⟨?_,hQ a w G C.M (fun i hi=>.inl hi) hs⟩;rw[eZ];intro j E;obtain⟨h0,o,K,_⟩:=mem_ready.1 E;have X:j<ops.size:=(aI.1 K).1
  have H:b.getD j false=false:=by
   have Y:j<b.size:=by omega
   simp[Y]at h0⊢;exact h0
  have:=(g j X).1 H;simp at this
 |succ k ih=>
  intro r σ σ' C G a w b h f hs a3 hM v a0 Z F g W z u hQ;refine⟨fun h0=>?_,fun i hi=>?_⟩
  .by_cases hr:r=[]
   .subst hr;cases h;exact hQ a w G C.M (fun i hi=>.inl hi) hs
   exact absurd h0 (z hr)
  obtain⟨h0,o,K,J⟩:=mem_ready.1 hi;have b3:i<ops.size:=(aI.1 K).1
  have H:b.getD i false=false:=by
   have Y:i<b.size:=by omega
   simp[Y]at h0⊢;exact h0
  have a4:=(g i b3).1 H;obtain⟨x,hx,S⟩:=bf.1 a4;obtain⟨l,r2,hr⟩:=List.append_of_mem hx;subst hr
  have a5:∀y∈l,indep ops y x=true:=by
   intro y t;rcases yy v y t with h|h
   .exact h
   exfalso;rw[S]at h;have a9:=Ip Z _ _ _ h (fun o' q=>by rw[K]at q;injection q with q;subst q;exact J);have b0:=W y (by simp[t]);have:=(g y.1 b0).2 (bf.2 ⟨y,by simp[t],rfl⟩);rw[a9]at this;cases this
  have U:=rr.pull a5 h;obtain⟨xi,e⟩:=x;simp only at S;subst S
  have s:∀y∈l++r2,y∈l++(xi,e)::r2:=by intro y t;rcases aQ.1 t with h|h<;>simp[h]
  have D:xi∉(l++r2).map (·.1)/\((l++r2).map (·.1)).Nodup:=by
   have:(((xi,e)::(l++r2)).map (·.1)).Nodup:=by refine(List.Perm.nodup_iff ?_).1 a3;exact(List.perm_middle).map _
   simpa using this
  cases U with
  |cons q he ag4 hr'=>
   rename_i o';rw[K]at q;injection q with q;subst q;have hp:¬C.M (p0+xi):=hM (xi,e) (by simp);have a2:oz P cs ops p0 n S0 C Φ Pre (l++r2):=⟨f.YO,fun y t=>f.items y (s y t),fun y t=>f.pos y (s y t),f.dst,f.fr⟩;have T:=xH hs he.choose_spec hp (f.pos (xi,e) (by simp)) f.YO ag4 (f.items (xi,e) (by simp)) (fun d hd=>f.dst xi o d K hd) f.fr;have I:(b.setIfInBounds xi true).size=ops.size:=by simp[a0]
   have O:∀j,j<ops.size->(b.setIfInBounds xi true).getD j false=(if j=xi then true else b.getD j false):=by
    intro j E;by_cases m:j=xi
    .subst m;have:j<b.size:=by omega
     simp[this]
    rw[if_neg m];exact getD_set_ne false (Ne.symm m)
   have R:xm ops (b.setIfInBounds xi true):=by
    intro j o' B E e' a6 a7;have X:j<ops.size:=(aI.1 B).1;rw[O j X]at E;by_cases m:j=xi
    .subst m;rw[K]at B;injection B with B;subst B;exact getD_set_true (J e' a6 a7)
    rw[if_neg m]at E;exact getD_set_true (Z j o' B E e' a6 a7)
   have A:∀j,j<ops.size->((b.setIfInBounds xi true).getD j false=false↔j∈(l++r2).map (·.1)):=by
    intro j E;rw[O j E];by_cases m:j=xi
    .subst m;simp only[if_true];exact⟨fun h=>(by cases h),fun h=>absurd h D.1⟩
    rw[if_neg m,g j E];simp[m]
   have L:∀y∈l++r2,y.1<ops.size:=fun y t=>W y (s y t)
   have V:∀a' w' G',gG n w0 S0 (C.add (p0+xi)) G' (e.app σ) a' w'->wpAny P .any ops Q k (b.setIfInBounds xi true) a' w':=by
    intro a' w' G' b1;refine ih (C:=C.add (p0+xi)) hr' a2.add b1 D.2 ?_ (yz v) I R (by simp at F⊢;omega) A L (fun b2=>u _ _ I R A b2 L) u ?_
    .rintro y t (hm|hm)
     .exact hM y (s y t) hm
     have:y.1=xi:=by omega
     exact D.1 (bf.2 ⟨y,t,this⟩)
    intro b5 a8 b6 M' b4 a1;refine hQ b5 a8 b6 M' (fun j E=>?_) a1;rcases b4 j E with(H|H)|⟨y,t,H⟩
    .exact .inl H
    .exact .inr ⟨(xi,e),by simp,H⟩
    exact .inr ⟨y,s y t,H⟩
   have p:=T (wpAny P .any ops Q k (b.setIfInBounds xi true)) Q V;unfold wpOp;simp only[K];split
   .rename_i hw;rw[if_pos hw]at p;exact .inl p
   rename_i hw;rw[if_neg hw]at p;exact p
def U8(ops:Tae):Bool:=(List.range ops.size).all fun i=>match ops[i]? with
 |some o=>o.after.all fun e=> !Region.binds .any e||decide (e.on<i)
 |none=>true
def Bx(A:U8 ops=true){lH:Tbe Bool}(t:lH.size=ops.size){r:Tai}(b:∀i,i<ops.size->(lH.getD i false=false↔i∈r))(u:r≠[])(o:∀x∈r,x<ops.size):Region.ready .any ops lH≠[]:=by
 obtain⟨m,d,g⟩:∃m,m∈r/\∀j,j<m->j∉r:=by
  cases r with
  |nil=>exact absurd rfl u
  |cons x r=>
   have:∃m,m∈(x::r):=⟨x,by simp⟩
   have l:∀k,(∃m∈(x::r),m<=k)->∃m,m∈(x::r)/\∀j,j<m->j∉(x::r):=by
    intro k
    induction k with
    |zero=>rintro⟨m,d,v⟩;exact⟨m,d,fun j y=>by omega⟩
    |succ k ih=>
     rintro⟨m,d,v⟩;by_cases h:∃m∈(x::r),m<=k
     .exact ih h
     refine⟨m,d,fun j y p=>h ⟨j,p,by omega⟩⟩
   exact l x ⟨x,by simp,aM _⟩
 have c:=o m d
 have:m∈Region.ready .any ops lH:=by
  rw[mem_ready];have s:=(b m c).2 d;have f:m<lH.size:=by omega
  refine⟨by simp[f]at s⊢;exact s,ops[m],by simp[c],fun e z q=>?_⟩;have:=bU.1 A m (cz.2 c);simp only[dq c]at this;have:=(Array.all_eq_true_iff_forall_mem.1 this) e z;simp only[q,Bool.not_true,Bool.false_or,bg]at this;have B:lH.getD e.on false≠false:=fun h=>g e.on this ((b e.on (by omega)).1 h);simpa using B
 intro h;rw[h]at this;cases this
end
abbrev om:=Tbb×Bool
inductive Slot where
 |tmp (t:Nat)
 |cell (id i:Nat)
 deriving DecidableEq
structure EW where
 own:List (Nat×Tbb):=[]
 boxes:List (Nat×List (Nat×Tbb)):=[]
 drop:Tai:=[]
def EW.ex(a:EW):Bool:=a.drop.contains 1000002
structure Head where
 v0:Nat
 iz:List (Slot×Ty×Tap om)
 st:St
 keep:List Tag
def Head.size(h:Head):Nat:=h.iz.length
def Fi:Ty->Tap (Ty×Tbb)
 |.fa (.fn T kt)=>some (kt,T)
 |_=>none
def kg(v:Nat)(ty:Ty):Tap om->SC
 |none=>match Fi ty with
  |some (kt,T)=>.uj (.var v) kt T
  |none=>.gz (.var v) ty
 |some (_,false)=>.own (v,0) (.var v) ty
 |some (_,true)=>.xo (v,1000) ty
def kU(v:Nat)(T:om):Tag:=(v,if T.2 then 1000 else 0)
def Ig(v:Nat)(T:om):(kU v T).ex=T.2:=by obtain⟨T,_|_⟩:=T<;>rfl
def lF(ty:Ty):Tap om->Ty
 |none=>match Fi ty with
  |some (kt,_)=>.list kt
  |none=>ty
 |some _=>.list ty
def kQ(σ:St):Slot->Tap SC
 |.tmp t=>match σ.tm t with
  |some ([],.one c)=>some c
  |_=>none
 |.cell id i=>match σ.hp id with
  |some (_,cs)=>cs[i]?
  |none=>none
def lY(σ:St)(x:Slot×Ty×Tap om):Tap (E×Tap Tag):=
 match kQ σ x.1 with
 |some c=>
  match x.2.2 with
  |none=>match Fi x.2.1 with
   |some (kt,T)=>match c with
    |.uj e kt' T'=>if kt'=kt/\T'=T then some (e,none) else none
    |_=>none
   |none=>match asData c with
    |some (e,t)=>if t=x.2.1 then some (e,none) else none
    |none=>none
  |some T=>match c with
   |.od t=>if t=x.2.1 then some (.nil,none) else none
   |.own g _ t=>match σ.live g with
    |some (e,T',t')=>if t=x.2.1/\T'=T.1/\t'=x.2.1/\T.2=false/\g.ex=false then some (e,some g) else none
    |none=>none
   |.xo g t=>match σ.live g with
    |some (e,T',t')=>if t=x.2.1/\T'=T.1/\t'=x.2.1/\T.2=true/\g.ex=true then some (e,some g) else none
    |none=>none
   |_=>none
 |none=>none
def rK(σ:St):List (Slot×Ty×Tap om)->Tap (List (E×Tap Tag))
 |[]=>some []
 |x::r=>match lY σ x,rK σ r with
  |some y,some ys=>some (y::ys)
  |_,_=>none
def oH(s:Slot):List (Slot×Ty×Tap om)->Nat->Tap (Nat×Ty×Tap om)
 |[],_=>none
 |x::r,j=>if x.1=s then some (j,x.2) else oH s r (j+1)
def SC.ids(n:Nat):SC->Bool
 |.own g _ _=>g.1<n
 |.qa id _=>id<n
 |.xo g _=>g.1<n
 |.wQ g _ _ _=>g.1<n
 |.Dt id=>id<n
 |_=>true
def SV.ids(n:Nat):SV->Bool
 |.one c=>c.ids n
 |.agg l=>l.all (SC.ids n)
 |.fa l=>l.all fun x=>x.2.all (SC.ids n)
def adG(n:Nat)(h:Head)(σ:St):Bool:=(List.range n).all fun t=>
 match h.st.tm t with
 |none=>true
 |some (c,s)=>match oH (.tmp t) h.iz 0 with
  |some (j,ty,T)=>decide (c=[]/\s=.one (kg (h.v0+j) ty T))
  |none=>decide (σ.tm t=some (c,s))&&s.lt h.v0&&s.ids h.v0&&c.all fun x=>x.1.lt h.v0
def rV(h:Head)(id:Nat):Nat->List SC->List SC->Bool
 |_,[],[]=>true
 |i,c::r,c'::r'=>(match oH (.cell id i) h.iz 0 with
  |some (j,ty,T)=>decide (c=kg (h.v0+j) ty T)
  |none=>decide (c'=c)&&c.lt h.v0&&c.ids h.v0&&c.scalar)&&rV h id (i+1) r r'
 |_,_,_=>false
def adH(h:Head)(σ:St):Bool:=(List.range h.v0).all fun id=>
 match h.st.hp id with
 |none=>true
 |some (ro,cs)=>match σ.hp id with
  |some (ro',cs')=>ro==ro'&&rV h id 0 cs cs'
  |none=>false
def RN(h:Head)(σ:St)(b:List (Tap Tag)):Bool:=h.keep.all fun g=>
 match h.st.live g with
 |none=>true
 |some x=>decide (σ.live g=some x)&&decide (g.1<h.v0)&&x.1.lt h.v0&& !b.contains (some g)
def Fq(n:Nat)(h:Head)(σ:St):Tap (List E):=
 match rK σ h.iz with
 |some vs=>
  let b:=vs.map (·.2)
  if adG n h σ&&adH h σ&&RN h σ b&&kD b&&(h.iz.all fun x=>(lF x.2.1 x.2.2).scalar&&(x.2.2.isNone||decide (0<x.2.1.cells.length))) then some (vs.map (·.1)) else none
 |none=>none
structure H4(n:Nat)(h:Head):Prop where
 tm:∀t,n<=t->h.st.tm t=none
 hp:∀id,h.v0<=id->h.st.hp id=none
 live:∀g x,h.st.live g=some x->g∈h.keep\/∃j ty T,h.iz[j]?=some (ty,T)/\∃T',T.2=some T'/\g=kU (h.v0+j) T'/\x=(.var (h.v0+j),T'.1,T.1)
def assigned:Code->Tai
 |.region _ ops _=>ops.toList.filterMap (·.dst)
 |.seq a b=>assigned a++assigned b
 |.cond _ a b=>assigned a++assigned b
 |.block _ c| .loop c| .scope c=>assigned c
 |_=>[]
def dedup:Tai->Tai
 |[]=>[]
 |x::r=>if r.contains x then dedup r else x::dedup r
def tH(ex:Bool)(id:Nat)(b:List (Nat×Tbb)):Nat->List SC->List (Slot×Ty×Tap om)
 |_,[]=>[]
 |i,c::r=>
  (match lk b i,c with
   |some T,.od t=>[(.cell id i,t,some (T,ex))]
   |some T,.own _ _ t=>[(.cell id i,t,some (T,false))]
   |some T,.xo _ t=>[(.cell id i,t,some (T,true))]
   |_,.uj _ kt T=>[(.cell id i,.fa (.fn T kt),none)]
   |_,c=>match asData c with
    |some (_,t)=>[(.cell id i,t,none)]
    |none=>[])++tH ex id b (i+1) r
def C2(b:List (Slot×Ty×Tap om))(v0 id:Nat):Nat->List SC->List SC
 |_,[]=>[]
 |i,c::r=>(match oH (.cell id i) b 0 with
  |some (j,ty,T)=>kg (v0+j) ty T
  |none=>c)::C2 b v0 id (i+1) r
def DE:SC->List Tag
 |.own g _ _=>[g]
 |.xo g _=>[g]
 |_=>[]
def WE:SV->List Tag
 |.one c=>DE c
 |.agg l=>l.flatMap DE
 |.fa l=>l.flatMap fun x=>x.2.flatMap DE
def te(v0:Nat):Nat->List (Slot×Ty×Tap om)->List (Tag×(E×Tbb×Ty))
 |_,[]=>[]
 |j,(_,ty,T)::r=>(match T with
  |some T=>[(kU (v0+j) T,(E.var (v0+j),T.1,ty))]
  |none=>[])++te v0 (j+1) r
def Gb(ex:Bool)(σ:St)(b:List (Nat×Tbb))(id:Nat):List (Slot×Ty×Tap om):=
 match σ.hp id with
 |some (false,cs)=>tH ex id b 0 cs++cs.flatMap fun c=>match c with
  |.Dt m=>(match σ.hp m with|some (false,ms)=>tH ex m [] 0 ms|_=>[])
  |.qa m 0=>(match σ.hp m with|some (false,ms)=>tH ex m (b.filterMap fun x=>if 1000<=x.1 then some (x.1-1000,x.2) else none) 0 ms|_=>[])
  |_=>[]
 |_=>[]
def uB(n:Nat)(b:EW)(i:Tai)(σ:St)(v0:Nat):Head:=
 let A:=dedup i
 let e:=A.filterMap fun t=>
  if b.drop.contains t then none else
  match σ.tm t with
  |some ([],.one c)=>match lk b.own t,c with
   |some T,.od ty=>some (Slot.tmp t,ty,some (T,b.ex))
   |some T,.own _ _ ty=>some (Slot.tmp t,ty,some (T,false))
   |some T,.xo _ ty=>some (Slot.tmp t,ty,some (T,true))
   |_,c=>match asData c with
    |some (_,ty)=>some (Slot.tmp t,ty,none)
    |none=>none
  |_=>none
 let h:=b.boxes.flatMap fun x=>
  match σ.tm x.1 with
  |some ([],.one (.qa id 0))=>Gb b.ex σ x.2 id
  |some ([],.one (.Dt id))=>Gb b.ex σ x.2 id
  |_=>[]
 let iz:=e++h;let d:=(iz.filterMap fun x=>lY σ x).filterMap (·.2)
 let keep:=(((List.range n).flatMap fun t=>match σ.tm t with|some (_,s)=>WE s|none=>[])++
  ((List.range v0).flatMap fun id=>match σ.hp id with|some (_,cs)=>cs.flatMap DE|none=>[])).filter fun g=> !d.contains g
 let f:=te v0 0 iz
 {v0,iz,keep,
  st:={
   tm:=fun t=>if t<n then(if A.contains t then(match oH (.tmp t) iz 0 with|some (j,ty,T)=>some ([],.one (kg (v0+j) ty T))|none=>none) else σ.tm t) else none
   hp:=fun id=>if id<v0 then(match σ.hp id with|some (ro,cs)=>some (ro,C2 iz v0 id 0 cs)|none=>none) else none
   live:=fun g=>match lk f g with|some x=>some x|none=>if keep.contains g then σ.live g else none}}
def yo:∀{l:List (Slot×Ty×Tap om)} {v0 k:Nat} {g:Tag} {x:E×Tbb×Ty},lk (te v0 k l) g=some x->∃j e T,l[j]?=some (e,T)/\∃b,T.2=some b/\g=kU (v0+(k+j)) b/\x=(.var (v0+(k+j)),b.1,T.1)
 |[],_,_,_,_,h=>by cases h
 |(s,e,T)::r,v0,k,g,x,h=>by
  have step:∀{y},lk (te v0 (k+1) r) g=some y->∃j c b,((s,e,T)::r)[j]?=some (c,b)/\∃d,b.2=some d/\g=kU (v0+(k+j)) d/\y=(.var (v0+(k+j)),d.1,b.1):=by intro y f;obtain⟨j,c,b,o,m⟩:=yo f;refine⟨j+1,c,b,by simpa using o,?_⟩;rw[show k+(j+1)=k+1+j by omega];exact m
  cases T with
  |none=>simp only[te,eL]at h;exact step h
  |some T0=>
   simp only[te,eE,eL,lk]at h;split at h
   .rename_i i;injection h with h;exact⟨0,s,(e,some T0),rfl,T0,rfl,i,h.symm⟩
   exact step h
def Lg(n:Nat)(b:EW)(A:Tai)(σ:St)(v0:Nat):H4 n (uB n b A σ v0) where
 tm t ht:=by simp only[uB];rw[if_neg (by omega)]
 hp id hid:=by have h:v0<=id:=hid;simp only[uB];rw[if_neg (by omega)]
 live g x hx:=by
  simp only[uB]at hx;split at hx
  .rename_i y e;injection hx with hx;subst hx;obtain⟨j,d,T,i,c⟩:=yo e;rw[aq]at c;exact .inr ⟨j,d,T,i,c⟩
  split at hx
  .rename_i f;exact .inl (by simpa [uB]using f)
  cases hx
def fJ(ρ:Nat->D)(v0:Nat)(xs:Tah):Nat->D:=fun i=>if v0<=i/\i<v0+xs.length then xs.getD (i-v0) .top else ρ i
def JF{ρ:Nat->D}{v0:Nat}{xs:Tah}{i:Nat}(h:i<v0):fJ ρ v0 xs i=ρ i:=by unfold fJ;rw[if_neg (by omega)]
def QG{ρ:Nat->D}{v0:Nat}{xs:Tah}{j:Nat}{d:D}(h:xs[j]?=some d):fJ ρ v0 xs (v0+j)=d:=by have b:j<xs.length:=(aD.1 h).1;unfold fJ;rw[if_pos ⟨by omega,by omega⟩,show v0+j-v0=j by omega];exact gf h
def oV{s:Slot}:∀{l:List (Slot×Ty×Tap om)} {k j:Nat} {y:Ty×Tap om},oH s l k=some (j,y)->k<=j/\l[j-k]?=some (s,y)
 |[],_,_,_,h=>by cases h
 |x::r,k,j,y,h=>by
  simp only[oH]at h;split at h
  .rename_i b;obtain⟨rfl,rfl⟩:=iE h;refine⟨aM _,?_⟩;rw[Nat.sub_self,<-b];rfl
  obtain⟨d,c⟩:=oV h;refine⟨by omega,?_⟩;rw[show j-k=(j-(k+1))+1 by omega];simpa using c
def wy{σ:St}:∀{l:List (Slot×Ty×Tap om)} {vs:List (E×Tap Tag)},rK σ l=some vs->vs.length=l.length/\∀(j:Nat) x y,l[j]?=some x->vs[j]?=some y->lY σ x=some y
 |[],vs,h=>by simp only[rK,aa]at h;subst h;exact⟨rfl,by intro j x y i;simp at i⟩
 |x::r,vs,h=>by
  simp only[rK]at h;split at h
  .rename_i y o m k;injection h with h;subst h;obtain⟨g,f⟩:=wy k;refine⟨by simp[g],fun j e d c b=>?_⟩;cases j with
   |zero=>simp at c b;subst c;subst b;exact m
   |succ j=>exact f j e d (by simpa using c) (by simpa using b)
  cases h
section
variable{C:Cx}{G:Gh}{w w0:Tan}{S0:gw}{σ:St}{a:Act}{n:Nat}
def qO.shrink{c:SC}{v:Tao}{v0:Nat}{s:Cx}{D:Gh}(h:qO C w G c v)(d:c.lt v0=true)(p:c.ids v0=true)(F:∀i,i<v0->s.ρ i=C.ρ i)(U:v0<=s.N)(z:∀i,i<v0->s.M i)(y:D.S=G.S)(x:∀i,i<v0->D.β i=G.β i)(r:∀g:Tag,g.1<v0->D.τ g=G.τ g):qO s w D c v:=by
 have m:∀{e:E},e.lt v0=true->den s.ρ e=den C.ρ e:=fun f=>dN F f
 have q:∀{e:E},e.lt v0=true->e.lt s.N=true:=by
  intro e
  induction e with
  |var i=>intro f;simp only[E.lt,bg]at f⊢;omega
  |aU|eQ|BR|gv|nil=>intro _;rfl
  |cons a b pF pE=>intro f;simp only[E.lt,aP]at f⊢;exact⟨pF f.1,pE f.2⟩
  |un o e ih=>intro f;exact ih f
  |bin o a b pF pE=>intro f;simp only[E.lt,aP]at f⊢;exact⟨pF f.1,pE f.2⟩
  |ite c a b Kl pF pE=>intro f;simp only[E.lt,aP]at f⊢;exact⟨⟨Kl f.1.1,pF f.1.2⟩,pE f.2⟩
 cases c with
 |gz e t=>exact⟨q d,by rw[m d,y];exact h.2.1,by rw[m d];exact h.2.2⟩
 |od t=>exact h
 |own g e t=>
  have k:g.1<v0:=by simpa [SC.ids]using p
  obtain⟨_,_,B,A,K⟩:=h;exact⟨z _ k,q d,by rw[m d,y];exact B,by rw[m d];exact A,by rw[r g k];exact K⟩
 |clip e t=>
  obtain⟨_,B,A,b,K⟩:=h;exact⟨q d,by rw[m d,y];exact B,by rw[m d];exact A,b,by rw[m d];exact K⟩
 |qa id off=>
  have k:id<v0:=by simpa [SC.ids]using p
  exact⟨z _ k,by rw[x id k];exact h.2⟩
 |zP l i t off=>
  simp only[SC.lt,aP]at d;obtain⟨_,_,b,o,u,H,I,J⟩:=h;have O:den s.ρ (.bin .idx l i)=den C.ρ (.bin .idx l i):=m (by simp[E.lt,d]);exact⟨q d.1,q d.2,b,o,u,H,by rw[O];exact I,by rw[O,y];exact J⟩
 |zJ e fs off=>
  obtain⟨_,b,l,u,P,I,H,J⟩:=h;exact⟨q d,b,l,u,by rw[m d];exact P,I,H,by rw[y];exact J⟩
 |xo g t=>
  have k:g.1<v0:=by simpa [SC.ids]using p
  exact⟨z _ k,by rw[r g k];exact h.2.1,h.2.2⟩
 |wQ g i t off=>
  have k:g.1<v0:=by simpa [SC.ids]using p
  obtain⟨_,_,b,L,n,R,Q,B,A⟩:=h;have j:i.lt v0=true:=d;exact⟨z _ k,q j,b,L,n,by rw[r g k];exact R,by rw[m j];exact Q,by rw[m j];exact B,by rw[m j];exact A⟩
 |Dt id=>
  have k:id<v0:=by simpa [SC.ids]using p
  exact⟨z _ k,by rw[x id k];exact h.2⟩
 |G9=>exact h
 |uj e kt T=>exact h.elim
def SV.ES{s:SV}{v:Tao}{v0:Nat}{B:Cx}{A:Gh}(h:wP C w G s v)(b:s.lt v0=true)(d:s.ids v0=true)(e:∀{c:SC} {u:Tao},qO C w G c u->c.lt v0=true->c.ids v0=true->qO B w A c u):wP B w A s v:=by
 cases s with
 |one c=>exact e h b d
 |agg l=>
  obtain⟨p,y,t,r⟩:=h;simp only[SV.lt,SV.ids,bU]at b d;exact⟨p,y,t,fun i c u g j=>e (r i c u g j) (b c (bT g)) (d c (bT g))⟩
 |fa l=>
  obtain⟨p,y,t,r⟩:=h;simp only[SV.lt,SV.ids,bU]at b d;refine⟨p,y,t,fun i x u z j=>?_⟩;have o:=bT z;have m:=r i x u z j;unfold lC at m⊢;split
  .rename_i f;rw[if_pos f]at m;obtain⟨D,k,q,E⟩:=m;exact⟨D,k,q,fun i c u g j=>e (E i c u g j) (b x o c (bT g)) (d x o c (bT g))⟩
  rename_i f;rw[if_neg f]at m;obtain⟨c,k,q⟩:=m;exact⟨c,k,e q (b x o c (by rw[k];simp)) (d x o c (by rw[k];simp))⟩
def wE{h:Head}{id:Nat}:∀{k:Nat} {l l':List SC},rV h id k l l'=true->l.length=l'.length/\∀(i:Nat) c f,l[i]?=some c->l'[i]?=some f->
  (∃j e T,oH (.cell id (k+i)) h.iz 0=some (j,e,T)/\c=kg (h.v0+j) e T)\/(f=c/\c.lt h.v0=true/\c.ids h.v0=true/\c.scalar=true)
 |k,[],[],_=>⟨rfl,by intro i c f q;simp at q⟩
 |k,c::r,f::r',hf=>by
  simp only[rV,aP]at hf;obtain⟨d,s⟩:=hf;obtain⟨p,o⟩:=wE s;refine⟨by simp[p],fun i x m g b=>?_⟩;cases i with
  |zero=>
   simp at g b;subst g;subst b;split at d
   .rename_i j e T hs;exact .inl ⟨j,e,T,hs,by simpa using d⟩
   simp only[aP,bg]at d;exact .inr ⟨d.1.1.1,d.1.1.2,d.1.2,d.2⟩
  |succ i=>
   have:=o i x m (by simpa using g) (by simpa using b);rw[show k+(i+1)=k+1+i by omega];exact this
 |_,[],_::_,h=>by cases h
 |_,_::_,[],h=>by cases h
def aaM(G:Gh)(σ:St)(b:Nat):Prop:=(∃id y,σ.hp id=some y/\b=G.β id)\/∃g y,σ.live g=some y/\(G.τ g).ownBlock=some b
def Lz{h:Head}{es:List E}{ρ0:Nat->D}(hs:gG n w0 S0 C G σ a w)(d8:H4 n h)(I:Fq n h σ=some es)(e3:∀i,i<h.v0->ρ0 i=C.ρ i)(f2:∀i b,S0.qc i=some b->i<h.v0):
  es.length=h.size/\(∀(j:Nat) x e,h.iz[j]?=some x->es[j]?=some e->Has (lF x.2.1 x.2.2) (den C.ρ e))/\
  ∃G',(G'.S=G.S/\G'.β=G.β/\∀b,aaM G' h.st b->aaM G σ b)/\gG n w0 S0 ⟨fJ ρ0 h.v0 (es.map (den C.ρ)),h.v0+h.size,fun i=>i<h.v0+h.size⟩ G' h.st a w:=by
 unfold Fq at I;split at I
 .rename_i vs g6;simp only at I;split at I
  .rename_i p;injection I with I;simp only[aP]at p;obtain⟨⟨⟨⟨h5,i1⟩,i0⟩,h9⟩,e7⟩:=p;obtain⟨e5,g7⟩:=wy g6;have f8:es.length=h.size:=by rw[<-I,aj,e5];rfl
   have d3:∀(j:Nat) x,vs[j]?=some x->es[j]?=some x.1:=by intro j x f;rw[<-I,ab,f];rfl
   let g5:=fJ ρ0 h.v0 (es.map (den C.ρ));let C':Cx:=⟨g5,h.v0+h.size,fun i=>i<h.v0+h.size⟩;let g4:Tag->Tao:=fun g=>if h.v0<=g.1 then(match vs[g.1-h.v0]? with|some (_,some g')=>G.τ g'|_=>.slice none 0 0) else G.τ g
   let G':Gh:=⟨G.S,G.β,g4⟩;have b9:∀i,i<h.v0->C'.ρ i=C.ρ i:=fun i hi=>(JF hi).trans (e3 i hi);have d1:∀g:Tag,g.1<h.v0->G'.τ g=G.τ g:=fun g hg=>if_neg (by omega)
   have U:∀(j:Nat) x,vs[j]?=some x->∀q:Nat,G'.τ (h.v0+j,q)=(match x.2 with|some g'=>G.τ g'|none=>.slice none 0 0):=by intro j x f q;show(if h.v0<=h.v0+j then _ else _)=_;rw[if_pos (by omega)];simp only[Nat.add_sub_cancel_left,f];obtain⟨e,_|g'⟩:=x<;>rfl
   have shrink:∀{c:SC} {u:Tao},qO C w G c u->c.lt h.v0=true->c.ids h.v0=true->qO C' w G' c u:=fun L J h3=>L.shrink J h3 b9 (cG _ _) (fun i hi=>ar hi (cG _ _)) rfl (fun _ _=>rfl) d1
   have c9:∀(j:Nat) x,vs[j]?=some x->den C'.ρ (.var (h.v0+j))=den C.ρ x.1:=by intro j x f;show fJ ρ0 h.v0 _ _=_;exact QG (by rw[ab,d3 j x f];rfl)
   have c4:∀{j:Nat} {x},h.iz[j]?=some x->h.v0+j<h.v0+h.size:=by intro j x f;have:=(aD.1 f).1;unfold Head.size;omega
   have a1:∀{j:Nat} {x},h.iz[j]?=some x->∃y,vs[j]?=some y/\lY σ x=some y:=by
    intro j x f;have F:j<vs.length:=by rw[e5];exact(aD.1 f).1
    exact⟨vs[j],aR F,g7 j x _ f (aR F)⟩
   have b8:∀{j:Nat} {s:Slot} {N:Ty} {T:Tap om} {c:SC} {u:Tao},h.iz[j]?=some (s,N,T)->kQ σ s=some c->qO C w G c u->qO C' w G' (kg (h.v0+j) N T) u/\
     ∀x,vs[j]?=some x->Has (lF N T) (den C.ρ x.1):=by
    intro j s N T c u F a2 hr;obtain⟨y,B,d⟩:=a1 F;have hd:=c9 j y B;have r:=c4 F;unfold lY at d;simp only[a2]at d;cases T with
    |none=>
     simp only at d;split at d
     .split at d
      .exact hr.elim
      cases d
     rename_i Q;split at d
     .rename_i e t f9;split at d
      .rename_i e6;injection d with d;subst d;subst e6;obtain⟨q1,q2,q3⟩:=kE f9 hr;simp only[kg,lF,Q];refine⟨⟨by simp only[E.lt,bg];exact r,by rw[hd];exact q2,by rw[hd];exact q3⟩,fun x f=>?_⟩;rw[B]at f;injection f with f;subst f;exact q3
      cases d
     cases d
    |some K=>
     simp only at d
     have f1:0<N.cells.length:=by have:=bU.1 e7 _ (bT F);simp at this;exact this.2
     obtain⟨K,x0⟩:=K;split at d
     .rename_i t;split at d
      .rename_i e6;injection d with d;subst d;have h0:Has (.list N) (.list []):=bO.2 ⟨[],rfl,gy _,by simp⟩;have W:u=.slice none 0 0:=hr;refine⟨?_,fun x f=>?_⟩
       .cases x0 with
        |false=>
         refine⟨r,by simp only[E.lt,bg];exact r,?_,by rw[hd];exact h0,by rw[U j _ B];exact W⟩;rw[hd,W];exact .nil none 0
        |true=>exact⟨r,by rw[U j _ B];exact W,_,_,_,W⟩
       rw[B]at f;injection f with f;subst f;exact h0
      cases d
     .rename_i g e0 t;split at d
      .rename_i e T' t' a6;split at d
       .rename_i A;obtain⟨rfl,rfl,rfl,P,a9⟩:=A;have P:x0=false:=P;subst P;injection d with d;subst d;have a3:=hs.m.own _ _ _ _ a6;have f0:=a3.rep f1 a9;obtain⟨_,_,_,_,W⟩:=hr;refine⟨⟨r,by simp only[E.lt,bg];exact r,by rw[hd,W];exact f0,by rw[hd];exact a3.has,by rw[U j _ B];exact W⟩,fun x f=>?_⟩;rw[B]at f;injection f with f;subst f;exact a3.has
       cases d
      cases d
     .rename_i g t;split at d
      .rename_i e T' t' a6;split at d
       .rename_i A;obtain⟨rfl,rfl,rfl,P,a9⟩:=A;have P:x0=true:=P;subst P;injection d with d;subst d;have a3:=hs.m.own _ _ _ _ a6;obtain⟨_,W,c2⟩:=hr;refine⟨⟨r,by rw[U j _ B];exact W,c2⟩,fun x f=>?_⟩;rw[B]at f;injection f with f;subst f;exact a3.has
       cases d
      cases d
     cases d
   have b7:∀(j:Nat) x e,h.iz[j]?=some x->es[j]?=some e->Has (lF x.2.1 x.2.2) (den C.ρ e):=by
    rintro j ⟨s,N,T⟩ e F k;obtain⟨y,B,d⟩:=a1 F;have e4:y.1=e:=by have:=d3 j y B;rw[k]at this;injection this with this;exact this.symm
    have c2:∃c,kQ σ s=some c:=by
     unfold lY at d;cases hq:kQ σ s with
     |none=>simp[hq]at d
     |some c=>exact⟨c,rfl⟩
    obtain⟨c,p⟩:=c2;by_cases f4:∃e0 a5 K,c=.uj e0 a5 K
    .obtain⟨e0,a5,K,rfl⟩:=f4
     have e1:∃id ro,σ.hp id=some (ro,[SC.uj e0 a5 K])\/∃u,qO C w G (.uj e0 a5 K) u:=by
      cases s with
      |tmp t=>
       simp only[kQ]at p;split at p
       .rename_i c' d7;injection p with p;subst p;obtain⟨v,_,_,_,h4⟩:=hs.t t _ _ d7;simp only[aV,bW,if_true]at h4;exact⟨0,false,.inr ⟨v,h4⟩⟩
       cases p
      |cell id i=>
       simp only[kQ]at p;split at p
       .rename_i ro cs X;obtain⟨_,_,M,_⟩:=hs.m.box _ _ _ X;cases Qk:mapOf cs with
        |none=>
         obtain⟨d4,T',_,hr⟩:=M.cells Qk;have c7:i<d4.length:=by rw[hr.1];exact(aD.1 p).1
         exact⟨0,false,.inr ⟨_,hr.2 i _ _ p (aR c7)⟩⟩
        |some z=>
         unfold mapOf at Qk;split at Qk
         .cases i with
          |zero=>simp at p;obtain⟨rfl,rfl,rfl⟩:=p;exact⟨id,ro,.inl X⟩
          |succ i=>simp at p
         cases Qk
       cases p
     obtain⟨id,ro,X|⟨u,W⟩⟩:=e1
     .obtain⟨_,_,M,_⟩:=hs.m.box _ _ _ X;obtain⟨_,i4,_⟩:=M;unfold lY at d;simp only[p]at d;cases T with
      |none=>
       simp only at d;split at d
       .rename_i kt T1 Q;split at d
        .rename_i A;obtain⟨rfl,rfl⟩:=A;injection d with d;simp only[lF,Q];rw[<-e4,<-d];exact i4
        cases d
       simp[asData]at d
      |some T1=>simp at d
     exact W.elim
    have e8:∃u,qO C w G c u:=by
     cases s with
     |tmp t=>
      simp only[kQ]at p;split at p
      .rename_i c' d7;injection p with p;subst p;obtain⟨v,_,_,_,h4⟩:=hs.t t _ _ d7;simp only[aV,bW,if_true]at h4;exact⟨v,h4⟩
      cases p
     |cell id i=>
      simp only[kQ]at p;split at p
      .rename_i ro cs X;obtain⟨_,_,M,_⟩:=hs.m.box _ _ _ X
       have h8:mapOf cs=none:=by
        unfold mapOf;split
        .cases i with
         |zero=>simp at p;exact absurd ⟨_,_,_,p.symm⟩ f4
         |succ i=>simp at p
        rfl
       obtain⟨d4,T',_,hr⟩:=M.cells h8;have c7:i<d4.length:=by rw[hr.1];exact(aD.1 p).1
       exact⟨_,hr.2 i c _ p (aR c7)⟩
      cases p
    obtain⟨u,W⟩:=e8;rw[<-e4];exact(b8 F p W).2 y B
   refine⟨f8,b7,G',?_⟩
   have V:∀id ro cs,h.st.hp id=some (ro,cs)->id<h.v0/\∃R,σ.hp id=some (ro,R)/\rV h id 0 cs R=true:=by
    intro id ro cs f
    have X:id<h.v0:=by
     rcases eK id h.v0 with L|L
     .exact L
     rw[d8.hp id L]at f;cases f
    have:=bU.1 i1 id (cz.2 X);simp only[f]at this;split at this
    .rename_i i7 R f6;simp only[aP,beq_iff_eq]at this;exact⟨X,R,by rw[f6,this.1],this.2⟩
    cases this
   have O:∀g x,h.st.live g=some x->(g.1<h.v0/\σ.live g=some x/\x.1.lt h.v0=true/\(∀(j:Nat) y,vs[j]?=some y->y.2≠some g))\/
     (∃j s N K y,h.iz[j]?=some (s,N,some K)/\vs[j]?=some y/\g=kU (h.v0+j) K/\x=(.var (h.v0+j),K.1,N)/\(y.2=none/\y.1=.nil\/∃g',y.2=some g'/\σ.live g'=some (y.1,K.1,N)/\g'.ex=K.2)):=by
    intro g x f;rcases d8.live g x f with hk|⟨j,s,T,F,K,hT,hg,a8⟩
    .have:=bU.1 i0 g hk;simp only[f,aP,bg,cI]at this;refine .inl ⟨this.1.1.2,this.1.1.1,this.1.2,fun j y B k=>?_⟩;have f3:some g∈vs.map (·.2):=bf.2 ⟨y,bT B,k⟩;have J:=this.2;rw[List.contains_eq_mem]at J;simp[f3]at J
    obtain⟨N,T⟩:=T;simp only at hT a8;subst hT;obtain⟨y,B,d⟩:=a1 F;refine .inr ⟨j,s,N,K,y,F,B,hg,a8,?_⟩;unfold lY at d;simp only at d;split at d
    .split at d
     .split at d
      .injection d with d;subst d;exact .inl ⟨rfl,rfl⟩
      cases d
     .rename_i Z e0 t _;split at d
      .rename_i e T' t' hl;split at d
       .rename_i A;obtain⟨rfl,rfl,rfl,P,a9⟩:=A;injection d with d;subst d;exact .inr ⟨Z,rfl,hl,a9.trans P.symm⟩
       cases d
      cases d
     .rename_i Z t _;split at d
      .rename_i e T' t' hl;split at d
       .rename_i A;obtain⟨rfl,rfl,rfl,P,a9⟩:=A;injection d with d;subst d;exact .inr ⟨Z,rfl,hl,a9.trans P.symm⟩
       cases d
      cases d
     cases d
    cases d
   have d0:∀g x b,h.st.live g=some x->(G'.τ g).ownBlock=some b->∃Z x0,σ.live Z=some x0/\(G.τ Z).ownBlock=some b/\((g.1<h.v0/\Z=g)\/∃j y s N K,h.iz[j]?=some (s,N,some K)/\vs[j]?=some y/\y.2=some Z/\g=kU (h.v0+j) K):=by
    intro g x b f Y;rcases O g x f with⟨L,J,h3,_⟩|⟨j,s,N,K,y,F,B,hg,a8,N3⟩
    .rw[d1 g L]at Y;exact⟨g,x,J,Y,.inl ⟨L,rfl⟩⟩
    rw[hg]at Y;unfold kU at Y;rw[U j y B]at Y;rcases N3 with⟨hn,_⟩|⟨g',Vt,hl,_⟩
    .rw[hn]at Y;cases Y
    rw[Vt]at Y;exact⟨g',_,hl,Y,.inr ⟨j,y,s,N,K,F,B,Vt,hg⟩⟩
   refine⟨⟨rfl,rfl,?_⟩,?_,?_,hs.sz,hs.defers⟩
   .rintro b (⟨id,y,B,rfl⟩|⟨g,y,B,Y⟩)
    .obtain⟨_,ci,J,_⟩:=V id y.1 y.2 B;exact .inl ⟨id,_,J,rfl⟩
    obtain⟨Z,x0,l0,b0,_⟩:=d0 g y b B Y;exact .inr ⟨Z,x0,l0,b0⟩
   ·
    refine⟨hs.m.below,hs.m.jB,hs.m.keep,?_,hs.m.kN,hs.m.dP,hs.m.gL,?_,?_,?_,?_,?_,?_,?_,fun f7 g=>?_,hs.m.wz⟩
    rotate_right
    .show zi (jg w0 S0) w G.S (if h.v0<=g.1 then(match vs[g.1-h.v0]? with|some (_,some g')=>G.τ g'|_=>.slice none 0 0) else G.τ g);split
     .split
      .exact hs.m.fresh f7 _
      intro a0 n0 i6 i8;exact .inl rfl
     exact hs.m.fresh f7 g
    .intro i b hi;exact⟨ar (f2 i b hi) (cG _ _),(hs.m.qc i b hi).2⟩
    .intro id x f;obtain⟨L,_⟩:=V id x.1 x.2 f;exact ar L (cG _ _)
    .intro id ro cs f;obtain⟨L,R,J,h3⟩:=V id ro cs f;obtain⟨b1,b2,M,b5⟩:=hs.m.box id ro R J;obtain⟨k1,k2⟩:=wE h3;cases Qk:mapOf R with
     |some z=>
      unfold mapOf at Qk;split at Qk
      .rename_i e0 a5 K;obtain⟨c,A⟩:=bP.1 k1;subst A;obtain⟨g1,g2,g3⟩:=M;rcases k2 0 c (.uj e0 a5 K) rfl rfl with⟨j,N,T1,c3,rfl⟩|⟨k,r,aa2,a2⟩
       .obtain⟨_,F⟩:=oV c3;rw[Nat.sub_zero,aq]at F;obtain⟨y,B,d⟩:=a1 F;have hd:=c9 j y B;unfold lY at d;have h7:kQ σ (.cell id 0)=some (.uj e0 a5 K):=by simp only[kQ,J];rfl
        simp only[h7]at d;cases T1 with
        |none=>
         simp only at d;split at d
         .rename_i kt T2 Q;split at d
          .rename_i A;obtain⟨rfl,rfl⟩:=A;injection d with d;rw[<-d]at hd;simp only[kg,Q];exact⟨b1,rfl,⟨by simp only[E.lt,bg];exact c4 F,by rw[hd];exact g2,by rw[hd];exact g3⟩,b5⟩
          cases d
         simp[asData]at d
        |some T1=>simp at d
       subst k;have b6:den C'.ρ e0=den C.ρ e0:=dN b9 r
       have g8:e0.lt (h.v0+h.size)=true:=by
        have:∀{e:E},e.lt h.v0=true->e.lt (h.v0+h.size)=true:=by
         intro e
         induction e with
         |var i=>intro k;simp only[E.lt,bg]at k⊢;omega
         |aU|eQ|BR|gv|nil=>intro _;rfl
         |cons a b pF pE=>intro k;simp only[E.lt,aP]at k⊢;exact⟨pF k.1,pE k.2⟩
         |un o e ih=>intro k;exact ih k
         |bin o a b pF pE=>intro k;simp only[E.lt,aP]at k⊢;exact⟨pF k.1,pE k.2⟩
         |ite c a b Kl pF pE=>intro k;simp only[E.lt,aP]at k⊢;exact⟨⟨Kl k.1.1,pF k.1.2⟩,pE k.2⟩
        exact this r
       exact⟨b1,b2,⟨g8,by rw[b6];exact g2,by rw[b6];exact g3⟩,b5⟩
      cases Qk
     |none=>
     obtain⟨us,T,b3,b4⟩:=M.cells Qk
     have a4:∀(i:Nat) c,cs[i]?=some c->c.scalar=true/\∀u,us[i]?=some u->qO C' w G' c u:=by
      intro i c p;have c7:i<R.length:=by rw[<-k1];exact(aD.1 p).1
      have d2:R[i]?=some R[i]:=aR c7;rcases k2 i c _ p d2 with⟨j,N,T1,c3,rfl⟩|⟨k,r,aa2,a2⟩
      .obtain⟨_,F⟩:=oV c3;rw[Nat.sub_zero]at F;rw[aq]at F;have a2:=bU.1 e7 _ (bT F);simp only[aP]at a2;refine⟨?_,fun u W=>(b8 F (by simp only[kQ,J];exact d2) (b4.2 i _ u d2 W)).1⟩;cases T1 with
       |none=>
        cases Q:Fi N with
        |none=>simp only[kg,lF,Q]at a2⊢;exact a2.1
        |some z=>simp only[kg,Q];rfl
       |some T1=>obtain⟨T1,_|_⟩:=T1<;>rfl
      refine⟨a2,fun u W=>shrink ?_ r aa2⟩;have:=b4.2 i _ u d2 W;rw[k]at this;exact this
     refine⟨b1,?_,jD.mk (vs:=us) (T:=T) b3 ⟨by rw[b4.1,k1],fun i c u p W=>(a4 i c p).2 u W⟩,?_⟩
     .rw[bU];intro c p;obtain⟨i,hi⟩:=au p;exact(a4 i c hi).1
     rw[k1];exact b5
    .intro i j x y hi F k;obtain⟨_,ci,J,_⟩:=V i x.1 x.2 hi;obtain⟨_,cj,h3,_⟩:=V j y.1 y.2 F;exact hs.m.inj i j _ _ J h3 k
    .intro g e T t f;rcases O g _ f with⟨L,J,h3,_⟩|⟨j,s,N,K,y,F,B,hg,a8,N3⟩
     .have ho:=hs.m.own g e T t J;have b6:den C'.ρ e=den C.ρ e:=dN b9 h3
      have f5:e.lt (h.v0+h.size)=true:=by
       have:=(shrink (c:=.gz e .bool) (u:=.bool true));clear this;revert h3;clear f J ho b6
       induction e with
       |var i=>intro k;simp only[E.lt,bg]at k⊢;omega
       |aU|eQ|BR|gv|nil=>intro _;rfl
       |cons a b pF pE=>intro k;simp only[E.lt,aP]at k⊢;exact⟨pF k.1,pE k.2⟩
       |un o e ih=>intro k;exact ih k
       |bin o a b pF pE=>intro k;simp only[E.lt,aP]at k⊢;exact⟨pF k.1,pE k.2⟩
       |ite c a b Kl pF pE=>intro k;simp only[E.lt,aP]at k⊢;exact⟨⟨Kl k.1.1,pF k.1.2⟩,pE k.2⟩
      obtain⟨xs,l,q1,q2,q3,q4⟩:=ho.own;refine⟨ar L (cG _ _),f5,by rw[b6];exact ho.has,xs,l,by rw[b6];exact q1,?_,?_,q4⟩
      .rw[d1 g L];exact q2
      rw[d1 g L];exact q3
     simp only[ae]at a8;obtain⟨rfl,rfl,rfl⟩:=a8;have hd:=c9 j y B;have r:=c4 F;subst hg;have a7:G'.τ (kU (h.v0+j) K)=(match y.2 with|some g'=>G.τ g'|none=>.slice none 0 0):=U j y B _;have h6:=Ig (h.v0+j) K;rcases N3 with⟨hn,aa0⟩|⟨g',Vt,hl,hgx⟩
     .refine⟨r,by simpa [E.lt]using r,by rw[hd,aa0];exact bO.2 ⟨[],rfl,gy _,by simp⟩,[],[],by rw[hd,aa0];rfl,?_,?_,by simp⟩
      .rw[a7,hn];exact fB w _ _ _
      rw[a7,hn];intro b Y;cases Y
     have ho:=hs.m.own _ _ _ _ hl;obtain⟨xs,l,q1,q2,q3,q4⟩:=ho.own;refine⟨r,by simpa [E.lt]using r,by rw[hd];exact ho.has,xs,l,by rw[hd];exact q1,?_,?_,q4⟩
     .rw[a7,Vt];exact q2
     rw[a7,Vt,h6,<-hgx];exact q3
    .intro g x b f Y;obtain⟨Z,x0,L,J,_⟩:=d0 g x b f Y;exact hs.m.fS Z x0 b L J
    .intro g g' x y b f B Y i5;obtain⟨Z,x0,l0,b0,c0⟩:=d0 g x b f Y;obtain⟨g1,x1,l1,b1,c1⟩:=d0 g' y b B i5;have k:=hs.m.jr Z g1 x0 x1 b l0 l1 b0 b1;subst k;rcases c0 with⟨L,rfl⟩|⟨j,z,s,N,K,F,hz,hz2,hg⟩<;>rcases c1 with⟨J,h3⟩|⟨j',z',s',ty',T0',c5,hz',aaU,Vt⟩
     .exact h3
     .rcases O Z x f with⟨_,_,_,hno⟩|⟨j0,_,_,_,_,_,_,hg0,_,_⟩
      .exact absurd aaU (hno j' z' hz')
      rw[hg0]at L;simp[kU]at L;omega
     .subst h3;rcases O Z y B with⟨_,_,_,hno⟩|⟨j0,_,_,_,_,_,_,hg0,_,_⟩
      .exact absurd hz2 (hno j z hz)
      rw[hg0]at J;simp[kU]at J;omega
     have:=qI h9 j j' Z (by rw[ab,hz];simp[hz2]) (by rw[ab,hz'];simp[aaU]);subst this;rw[F]at c5;injection c5 with c5;simp only[ae,aa]at c5;rw[hg,Vt,c5.2.2]
    intro g id x y b f B Y;obtain⟨Z,x0,l0,b0,_⟩:=d0 g x b f Y;obtain⟨_,ci,J,_⟩:=V id y.1 y.2 B;exact hs.m.eO Z id x0 _ b l0 J b0
   ·
    intro t c s d6
    have g9:t<n:=by
     rcases eK t n with L|L
     .exact L
     rw[d8.tm t L]at d6;cases d6
    have:=bU.1 h5 t (cz.2 g9);simp only[d6]at this;split at this
    .rename_i j N T c3;simp only[bg]at this;obtain⟨rfl,rfl⟩:=this;obtain⟨_,F⟩:=oV c3;rw[Nat.sub_zero]at F;obtain⟨y,B,d⟩:=a1 F
     have p:∃c,σ.tm t=some ([],.one c)/\kQ σ (.tmp t)=some c:=by
      unfold lY at d;cases hq:kQ σ (.tmp t) with
      |none=>simp[hq]at d
      |some c=>
       refine⟨c,?_,rfl⟩;simp only[kQ]at hq;split at hq
       .rename_i c' h';injection hq with hq;subst hq;exact h'
       cases hq
     obtain⟨c,i3,i2⟩:=p;obtain⟨v,L,_,_,h4⟩:=hs.t t _ _ i3;simp only[aV,bW,if_true]at h4;have hr:=(b8 F i2 h4).1;refine⟨v,L,by simp,?_,by simp only[aV,bW,if_true];exact hr⟩;cases T with
     |none=>
      cases Q:Fi N with
      |none=>simp only[kg,Q]at hr⊢;exact hr.1
      |some z=>simp only[kg,Q]at hr;exact hr.elim
     |some K=>
      obtain⟨K,_|_⟩:=K
      .exact hr.2.1
      rfl
    simp only[aP,bg]at this;obtain⟨⟨⟨L,J⟩,h3⟩,h4⟩:=this;obtain⟨v,q1,q2,q3,q4⟩:=hs.t t c s L;have e2:∀x∈c,x.1.lt h.v0=true:=bU.1 h4
    have up:∀{e:E},e.lt h.v0=true->e.lt (h.v0+h.size)=true:=by
     intro e
     induction e with
     |var i=>intro k;simp only[E.lt,bg]at k⊢;omega
     |aU|eQ|BR|gv|nil=>intro _;rfl
     |cons a b pF pE=>intro k;simp only[E.lt,aP]at k⊢;exact⟨pF k.1,pE k.2⟩
     |un o e ih=>intro k;exact ih k
     |bin o a b pF pE=>intro k;simp only[E.lt,aP]at k⊢;exact⟨pF k.1,pE k.2⟩
     |ite c a b Kl pF pE=>intro k;simp only[E.lt,aP]at k⊢;exact⟨⟨Kl k.1.1,pF k.1.2⟩,pE k.2⟩
    have d5:∀{c:SC},c.lt h.v0=true->c.lt (h.v0+h.size)=true:=by intro c p;cases c<;>simp only[SC.lt,aP]at p⊢<;>first|exact up p|exact⟨up p.1,up p.2⟩
    have d9:aV C'.ρ c=aV C.ρ c:=by
     unfold aV;rw[cT,bU,bU];constructor
     .intro H x f;rw[<-dN b9 (e2 x f)];exact H x f
     intro H x f;rw[dN b9 (e2 x f)];exact H x f
    refine⟨v,q1,fun x f=>up (e2 x f),?_,?_⟩
    .cases s with
     |one c=>exact d5 J
     |agg l=>simp only[SV.lt,bU]at J⊢;exact fun c p=>d5 (J c p)
     |fa l=>simp only[SV.lt,bU]at J⊢;exact fun x f c p=>d5 (J x f c p)
    show if aV C'.ρ c=true then _ else _
    rw[d9];split
    .rename_i A;rw[if_pos A]at q4;exact SV.ES q4 J h3 shrink
    rename_i A;rw[if_neg A]at q4;exact q4
  cases I
 cases I
def F5{h:Head}{es:List E}{ρ0:Nat->D}(hs:gG n w0 S0 C G σ a w)(g:H4 n h)(f:Fq n h σ=some es)(c:∀i,i<h.v0->ρ0 i=C.ρ i)(d:∀i b,S0.qc i=some b->i<h.v0):
  es.length=h.size/\(∀(j:Nat) x e,h.iz[j]?=some x->es[j]?=some e->Has (lF x.2.1 x.2.2) (den C.ρ e))/\
  ∃k,gG n w0 S0 ⟨fJ ρ0 h.v0 (es.map (den C.ρ)),h.v0+h.size,fun i=>i<h.v0+h.size⟩ k h.st a w:=by obtain⟨o,m,k,_,l⟩:=Lz hs g f c d;exact⟨o,m,k,l⟩
end
def E.vW{n m:Nat}(h:n<=m):∀{e:E},e.lt n=true->e.lt m=true:=by
 intro e
 induction e with
 |var i=>intro d;simp only[E.lt,bg]at d⊢;omega
 |aU|eQ|BR|gv|nil=>intro _;rfl
 |cons a b pF pE=>intro d;simp only[E.lt,aP]at d⊢;exact⟨pF d.1,pE d.2⟩
 |un o e ih=>intro d;exact ih d
 |bin o a b pF pE=>intro d;simp only[E.lt,aP]at d⊢;exact⟨pF d.1,pE d.2⟩
 |ite c a b Kl pF pE=>intro d;simp only[E.lt,aP]at d⊢;exact⟨⟨Kl d.1.1,pF d.1.2⟩,pE d.2⟩
def EN{ρ b:Nat->D}{n:Nat}(h:∀i,i<n->b i=ρ i){c:dJ}(e:(c.all fun x=>x.1.lt n)=true):aV b c=aV ρ c:=by
 unfold aV;rw[bU]at e;rw[cT,bU,bU];constructor
 .intro H x d;rw[<-dN h (e x d)];exact H x d
 intro H x d;rw[dN h (e x d)];exact H x d
structure Fc where
 k:Nat
 g:Tag
 e:E
 T:Tbb
 dst:Tal
 unit:Bool
def T8(n:Nat):Tal->Bool
 |some d=>decide (d<n)
 |none=>true
def V2(P:Tba)(cs:mJ)(n:Nat)(σ:St)(o:Tbd):Tap Fc:=
 match o.guard,o.op with
 |none,.call {callee:=.value f,args,argTypes}=>
  match fT P σ [] f 0,args.toList with
  |some (.one (.gz _ (.fn k .nil))),[x]=>
   match lk cs.l k,fT P σ [] x (argTypes.getD 0 0) with
   |some sig,some (.one (.own g _ _))=>
    match sig.ob,σ.live g with
    |some ob,some (e,T,t)=>
     if ob.wU=true/\t=.int .i64/\T8 n o.dst=true then some ⟨k,g,e,T,o.dst,sig.res.isEmpty⟩ else none
    |_,_=>none
   |_,_=>none
  |_,_=>none
 |_,_=>none
def PB(P:Tba)(cs:mJ)(σ:St)(o:Tbd):Bool:=
 match o.op with
 |.call {callee:=.value f,.. }=>match fT P σ [] f 0 with
  |some (.one (.gz _ (.fn k .nil)))=>match lk cs.l k with
   |some sig=>match sig.ob with
    |some ob=>ob.wU
    |none=>false
   |none=>false
  |_=>false
 |_=>false
def MQ(P:Tba)(cs:mJ)(σ:St)(ops:Tae)(b:Bool):Tal:=
 if b||cs.fr !=0 then none else(List.range ops.size).find? fun i=>match ops[i]? with
  |some o=>PB P cs σ o
  |none=>false
def Ph{P:Tba}{cs:mJ}{σ:St}{ops:Tae}{b:Bool}{c:Nat}(h:MQ P cs σ ops b=some c):b=false/\cs.fr=0/\c<ops.size:=by
 unfold MQ at h;split at h
 .cases h
 rename_i d;simp only[bI,not_or,Bool.not_eq_true,bne_iff_ne,ne_eq,Decidable.not_not]at d;exact⟨d.1,d.2,by simpa using List.mem_of_find?_eq_some h⟩
def X5:SC->Bool
 |.gz _ (.int _)=>true
 |.gz _ .bool=>true
 |_=>false
def T3(x:Fc)(p:Nat)(tm:Nat->Tap (dJ×SV))(t:Nat):Tap (dJ×SV):=
 if x.dst=some t then(if x.unit then none else some ([],.one (.own (p,0) (.var p) (.int .i64))))
 else match tm t with
  |some (c,.one s)=>if X5 s then some (c,.one s) else match s with
    |.own g' _ _=>if g'=x.g/\x.unit=true/\c=[] then some ([],.one (.own (p,0) (.var p) (.int .i64))) else none
    |_=>none
  |_=>none
def Fc.after(x:Fc)(σ:St)(p:Nat):St:=
 ⟨T3 x p σ.tm,fun _=>none,fun y=>if y=(p,0) then some (.var p,x.T,.int .i64) else none⟩
def r9{l:Tah}(h:∀x∈l,Has (.int .i64) x):∃b:List Int,l=b.map (D.int .i64):=by
 induction l with
 |nil=>exact⟨[],rfl⟩
 |cons d l ih=>
  obtain⟨b,rfl⟩:=ih fun x c=>h x (ao _ c);obtain⟨n,rfl,_⟩:=dm.1 (h d (aZ ..));exact⟨n::b,rfl⟩
def LQ{w w':Tan}{b o:Nat}(h:w'.heap[b]?=w.heap[b]?):w'.cell? ⟨b,o,none⟩=w.cell? ⟨b,o,none⟩:=by simp only[World.cell?,h]
def OM{w:Tan}{base:Nat}{T:Tbb}{v:Tao}{m:Nat}{xs:Tad}(h:w.ownsRow base T 1 v m xs){b:Nat}(c:v.ownBlock=some b):b<w.heap.size:=by
 rcases h.2 with⟨rfl,_⟩|⟨g,cap,cur,rfl,_,hg,_⟩
 .cases c
 simp only[Value.ownBlock,aa]at c;subst c;exact(aI.1 hg).1
section
variable{P:Tba}{w w0:Tan}{S0:gw}{ρ:Nat->D}{p:Nat}{G:Gh}{σ:St}{a:Act}{n:Nat}
def iY.ints{C:Cx}{g:Tag}{e:E}{T:Tbb}(h:iY C w 0 G g e T (.int .i64)):∃b:List Int,den C.ρ e=.list (b.map (D.int .i64))/\w.ownsRow 0 T 1 (G.τ g) b.length (b.map (Value.int .i64)):=by
 obtain⟨xs,l,m,d,_,s⟩:=h.own;have q:=h.has;rw[m]at q;obtain⟨_,f,_,t⟩:=bO.1 q;injection f with f;subst f;obtain⟨b,rfl⟩:=r9 t;refine⟨b,m,?_⟩
 have u:xs=b.map (Value.int .i64):=by
  apply eH;intro i
  have k:xs.length=b.length:=by have h:xs.length=(b.map (D.int .i64)).length*1:=d.1;rw[aj,bL]at h;exact h
  by_cases o:i<b.length
  .have j:xs[i]?=some xs[i]:=aR (by omega);have r:(b.map (D.int .i64))[i]?=some (.int .i64 b[i]):=by simp[o]
   have:=s i _ 0 xs[i] (.int .i64 b[i]) r rfl (by show xs[i*1+0]?=_;rw[bL,dL];exact j);rw[j,this.dj];simp[o]
  rw[cM (by omega),cM (by simp;omega)]
 have c:w.ownsRow 0 T 1 (G.τ g) (b.map (D.int .i64)).length xs:=d;rw[aj]at c;rw[<-u];exact c
def gG.Xo{x:Fc}{u v':Tao}{ys:List Int}{w':Tan}(hs:gG n w0 S0 ⟨ρ,p,fun i=>i<p⟩ G σ a w)(a7:∀b o,S0.jx b o->¬jg w0 S0 b)(hg:∃e,σ.live x.g=some (e,x.T,.int .i64))(a8:∀d,x.dst=some d->d<n)(b6:¬S0.fr)(b5:¬S0.wz)(hh:Has (.list (.int .i64)) (.list (ys.map (D.int .i64))))(F:U9 w x.T (G.τ x.g) x.unit ys u v' w'):
  ∃G',gG n w0 S0 ⟨fy ρ p (.list (ys.map (D.int .i64))),p+1,fun i=>i<p+1⟩ G' (x.after σ p) (a.put x.dst u) w':=by
 obtain⟨e,hg⟩:=hg;have M:∀b,v'.ownBlock=some b->jg w0 S0 b:=fun b A=>hs.m.fS x.g _ b hg (by rw[<-F.E1];exact A);have L:∀b,(G.τ x.g).ownBlock=some b->jg w0 S0 b:=fun b A=>hs.m.fS x.g _ b hg A;have Y:∀b o,S0.jx b o->w'.heap[b]?=w.heap[b]? :=fun b o A=>F.below.block b (hs.m.dP b o (hs.m.jB b o A)) (fun h=>a7 b o A (L b h));have b0:∀i,i<p->(fy ρ p (.list (ys.map (D.int .i64)))) i=ρ i:=fun i hi=>fh _ _ (by omega);have V:den (fy ρ p (.list (ys.map (D.int .i64)))) (.var p)=.list (ys.map (D.int .i64)):=dX _ _ _
 have a2:∀(S:bG),(∀b,v'.ownBlock=some b->∀o,o<ys.length->S b o)->bV w' S v' (.list (ys.map (D.int .i64))):=by
  intro S hS;rcases F.own.2 with⟨rfl,h0⟩|⟨gb,cap,cur,rfl,_,hgb,hle,_,Vl,P7⟩
  .have:ys=[]:=an h0;subst this;exact .nil none 0
  cases hys:ys with
  |nil=>exact .nil _ _
  |cons y0 yr=>
   rw[<-hys];have a6:(ys.map (D.int .i64)).length=ys.length:=by simp
   have:=bV.list (w:=w') (S:=S) gb 0 cap 1 (ys.map (Value.int .i64)) (ys.map (D.int .i64)) (by omega) (by rw[hys];simp) (by simpa using hle) (by simp)
    (fun i hi=>by rw[aq];exact hS gb rfl i (by simpa using hi))
    (fun i v hi=>by
     rw[cell_of_row w' gb (0+i) cur x.T (0,0) hgb,aq];have N:(cur.toList.take (ys.length*1))[i]?=some v:=by rw[P7];exact hi
     rw[aC]at N;split at N
     .simpa using N
     cases N)
    (fun i d H=>by simp only[ab,cQ]at H;obtain⟨z,_,rfl⟩:=H;rfl)
    (fun i d j v c H I U=>by
     simp only[ab,cQ]at H;obtain⟨z,hz,rfl⟩:=H;cases j with
     |succ j=>simp[D.cells]at I
     |zero=>
      simp only[D.cells,db,aa]at I;subst I;rw[bL,dL,ab,hz]at U;simp only[aS,aa]at U;subst U;exact .int _ _)
   rwa [a6]at this
 let S':bG:=fun b o=>S0.jx b o\/(v'.ownBlock=some b/\o<ys.length)
 have b1:∀b,v'.ownBlock=some b->∀o,S' b o↔o<ys.length:=fun b A o=>
  ⟨fun h=>h.elim (fun h=>absurd (M b A) (a7 b o h)) (fun h=>h.2),fun h=>.inr ⟨A,h⟩⟩
 have W:=a2 S' (fun b A o h=>(b1 b A o).2 h);let G':Gh:=⟨S',G.β,fun y=>if y=(p,0) then v' else G.τ y⟩;have O:G'.τ (p,0)=v':=if_pos rfl;have hM:(fun i=>i<p+1) p:=du p;have C:(E.var p).lt (p+1)=true:=by simp[E.lt]
 have a3:iY ⟨fy ρ p (.list (ys.map (D.int .i64))),p+1,fun i=>i<p+1⟩ w' 0 G' (p,0) (.var p) x.T (.int .i64):=by
  refine⟨hM,C,by rw[V];exact hh,ys.map (Value.int .i64),ys.map (D.int .i64),V,?_,?_,?_⟩
  .rw[O,aj];exact F.own
  .intro b A o;rw[O]at A;rw[aj];exact(b1 b A o).trans ⟨fun h=>⟨rfl,h⟩,And.right⟩
  intro i d j v c H I U;simp only[ab,cQ]at H;obtain⟨z,hz,rfl⟩:=H;cases j with
  |succ j=>simp[D.cells]at I
  |zero=>
   simp only[D.cells,db,aa]at I;subst I;have e1:(Ty.int .i64).cells.length=1:=rfl;rw[e1,bL,dL,ab,hz]at U;simp only[aS,aa]at U;subst U;exact .int _ _
 have l:∀y z,(x.after σ p).live y=some z->y=(p,0)/\z=(.var p,x.T,.int .i64):=by
  intro y z f;simp only[Fc.after]at f;split at f
  .rename_i h;injection f with f;exact⟨h,f.symm⟩
  cases f
 have a1:qO ⟨fy ρ p (.list (ys.map (D.int .i64))),p+1,fun i=>i<p+1⟩ w' G' (.own (p,0) (.var p) (.int .i64)) v':=
  ⟨hM,C,by rw[V];exact W,by rw[V];exact hh,O.symm⟩
 refine⟨G',⟨⟨?_,fun b o h=>.inl h,?_,?_,hs.m.kN,?_,?_,?_,?_,?_,?_,?_,?_,?_,fun h=>absurd h b6,fun h=>absurd h b5⟩,?_,by rw[Act.AL];exact hs.sz,by rw[Act.JP];exact hs.defers⟩⟩
 .refine⟨F.below.os.trans hs.m.below.os,F.below.tape.trans hs.m.below.tape,F.below.output.trans hs.m.below.output,aY hs.m.below.size F.below.size,fun k hk a4=>?_⟩;rw[F.below.block k (ar hk hs.m.below.size) (fun h=>(L k h).elim (fun h=>absurd hk (Nat.not_lt.2 h)) a4),hs.m.below.block k hk a4]
 .intro b o h;rw[LQ (Y b o h)];exact hs.m.keep b o h
 .intro i b hi;obtain⟨N,Q⟩:=hs.m.qc i b hi;exact⟨Nat.lt_succ_of_lt N,Q⟩
 .rintro b o (h|⟨h,_⟩)
  .exact ar (hs.m.dP b o (hs.m.jB b o h)) F.below.size
  exact OM F.own h
 .rintro b o (h|⟨h,_⟩)
  .exact .inl h
  exact .inr (M b h)
 .intro id y f;cases f
 .intro id ro cs f;cases f
 .intro i j y z f;cases f
 .intro g' e' T' t' f;obtain⟨rfl,Q⟩:=l _ _ f;simp only[ae]at Q;obtain⟨rfl,rfl,rfl⟩:=Q;exact a3
 .intro g' z b f A;obtain⟨rfl,_⟩:=l _ _ f;rw[O]at A;exact M b A
 .intro g1 g2 y z b N Q _ _;rw[(l _ _ N).1,(l _ _ Q).1]
 .intro g' id y z b _ f;cases f
 intro t c s q;simp only[Fc.after,T3]at q;split at q
 .rename_i H;split at q
  .cases q
  rename_i hu;simp only[aa,ae]at q;obtain⟨rfl,rfl⟩:=q;have r:=F.res;rw[if_neg hu]at r;subst r;have b8:t<a.tmps.size:=by rw[hs.sz];exact a8 t H
  refine⟨u,by rw[H];simp[Act.put,b8],by simp,C,?_⟩;have:aV (fy ρ p (.list (ys.map (D.int .i64)))) ([]:dJ)=true:=rfl;rw[if_pos this];exact a1
 rename_i H
 have R:∀v,a.tmps[t]?=some v->(a.put x.dst u).tmps[t]?=some v:=by
  intro v V;unfold Act.put;cases YL:x.dst with
  |none=>exact V
  |some d=>
   have b7:d≠t:=fun h=>H (by rw[YL,h]);simp only;rw[Array.getElem?_setIfInBounds_ne b7];exact V
 split at q
 .rename_i c' s' b3;obtain⟨v,N,Q,h0,h3⟩:=hs.t t c' _ b3;have a5:∀y∈c',y.1.lt (p+1)=true:=fun y f=>E.vW (Nat.le_succ p) (Q y f);have b9:aV (fy ρ p (.list (ys.map (D.int .i64)))) c'=aV ρ c':=EN b0 (bU.2 Q);split at q
  .rename_i K;simp only[aa,ae]at q;obtain⟨rfl,rfl⟩:=q
   obtain⟨e',k',b4⟩:∃(e':E) (ty:Ty),s'=.gz e' ty/\((∃k,ty=.int k)\/ty=.bool):=by
    cases s' with
    |gz e' ty=>
     cases ty with
     |int k=>exact⟨e',_,rfl,.inl ⟨k,rfl⟩⟩
     |bool=>exact⟨e',_,rfl,.inr rfl⟩
     |_=>cases K
    |_=>cases K
   obtain⟨rfl,b2⟩:=b4;have Z:e'.lt p=true:=h0;refine⟨v,R v N,a5,E.vW (Nat.le_succ p) Z,?_⟩;rw[b9];have B:if aV ρ c'=true then wP ⟨ρ,p,fun i=>i<p⟩ w G (.one (.gz e' k')) v else v=undef:=h3
   split
   .rename_i I;rw[if_pos I]at B;obtain⟨_,q2,q3⟩:=B;have a9:den (fy ρ p (.list (ys.map (D.int .i64)))) e'=den ρ e':=dN b0 Z;refine⟨E.vW (Nat.le_succ p) Z,?_,by rw[a9];exact q3⟩;rw[a9];rcases b2 with⟨k,rfl⟩|rfl
    .obtain⟨m,hm,_⟩:=dm.1 q3;have J:bV w G.S v (den ρ e'):=q2;have X:den ρ e'=.int k m:=hm;rw[X]at J⊢;rw[J.dj];exact .int _ _
    obtain⟨m,hm⟩:=dg.1 q3;have J:bV w G.S v (den ρ e'):=q2;have X:den ρ e'=.bool m:=hm;rw[X]at J⊢;rw[J.gV];exact .bool _
   rename_i I;rw[if_neg I]at B;exact B
  split at q
  .rename_i g' _ _;split at q
   .rename_i I;obtain⟨rfl,hu,rfl⟩:=I;simp only[aa,ae]at q;obtain⟨rfl,rfl⟩:=q;have r:=F.res;rw[if_pos hu]at r;subst r;have:aV ρ ([]:dJ)=true:=rfl;have B:=h3;rw[if_pos this]at B;obtain⟨_,_,_,_,a0⟩:=B;refine⟨v,R v N,by simp,C,?_⟩;have:aV (fy ρ p (.list (ys.map (D.int .i64)))) ([]:dJ)=true:=rfl;rw[if_pos this,a0];exact a1
   cases q
  cases q
 cases q
def QQ{cs:mJ}{Φ:Tab}{Pre:Taa}{ops:Tae}{o:Tbd}{x:Fc}(h:V2 P cs n σ o=some x)(O:∀k c,lk cs.l k=some c->bn P k c (Pre k) (Φ k))(hs:gG n w0 S0 ⟨ρ,p,fun i=>i<p⟩ G σ a w)(I:Pre x.k [den ρ x.e])(X:∀k c E,lk cs.l k=some c->c.ob=some E->E.wU=true->∀b o,S0.jx b o->¬jg w0 S0 b)(a0:¬S0.fr)(Z:¬S0.wz):
  ∀(next:Act->Taf) (Q:O3),(∀a' U G',gG n w0 S0 ⟨fy ρ p (Φ x.k [den ρ x.e]),p+1,fun i=>i<p+1⟩ G' (x.after σ p) a' U->next a' U)->Region.wanted o (yielded ops a.tmps)=true/\o.wp P a w next Q:=by
 intro next Q hQ
 unfold V2 at h;split at h
 .rename_i f R C a1 Y;split at h
  .rename_i fe k y hf B;split at h
   .rename_i c g _ _ hk hy;split at h
    .rename_i E e T t J L;split at h
     .rename_i hc;obtain⟨r,rfl,v⟩:=hc;injection h with h;subst h;have a3:=X k c E hk J r;have s:=hs.m.own g e T (.int .i64) L;obtain⟨S,hz,H⟩:=s.ints;have j:=O k c hk
      have a2:a.eval f=.func (.func k) #[] #[]:=by obtain⟨_,h2,h3⟩:=cS hs.t (pc:=[]) rfl hf;obtain⟨l,hl,K⟩:=lI.1 h3;rw[dk.1 K]at hl;rw[hl]at h2;obtain⟨cv,a5,M,_⟩:=h2.xf;rw[a5,an M]
      have V:a.eval y=G.τ g:=(cS hs.t (pc:=[]) rfl hy).2.2.2.2
      have q:R.map a.eval=#[G.τ g]:=by apply dC;rw[fI,B];simp[V]
      have F:(execOp a.eval o).run P w=.ok (.enter k #[G.τ g]) w:=by unfold execOp;simp only[Y,resolve,a2,Deferred.ofValue,q];have:=j.enter #[G.τ g] w;simpa [invoke]using this
      refine⟨by unfold Region.wanted;rw[a1],?_⟩;unfold Oper.wp;rw[F];have z:den ρ e=.list (S.map (D.int .i64)):=hz;have N:Has (.list (.int .i64)) (.list (S.map (D.int .i64))):=by rw[<-z];exact s.has
      have A:Pre k [.list (S.map (D.int .i64))]:=by rw[<-z];exact I
      refine(j.Hq E J r w T (G.τ g) S H N A).mono ?_;rintro e' U ⟨u,v',ys,rfl,hΦ,hh,uk⟩;simp only
      obtain⟨G',W⟩:=gG.Xo (x:=⟨k,g,e,T,o.dst,c.res.isEmpty⟩) hs a3 ⟨e,L⟩ (fun d hd=>by have a4:o.dst=some d:=hd;rw[a4]at v;simpa [T8]using v) a0 Z hh uk
      refine hQ _ U G' ?_;rw[z,hΦ];exact W
     cases h
    cases h
   cases h
  cases h
 cases h
end
structure Ej(P:Tba)(f:Nat)(params:Tam)(res:Ty)(Pre:Tah->Prop)(Φ:Tah->D):Prop where
 enter:∀(args:Tbe Tao) (w:Tan),(callFunc f args).run P w=.ok (.enter f args) w
 calls:∀(w:Tan) (S:bG) (vs:Tad) (ds:Tah),(∀b o,S b o->b<w.heap.size)->vs.length=ds.length->(∀(i:Nat) v d,vs[i]?=some v->ds[i]?=some d->bV w S v d)->
  dr (.Y params) ds->Pre ds->
  Calls P f vs.toArray w fun e w'=>∃v F,e=.returned v/\Below w.heap.size w w'/\(∀b o,F b o->w.heap.size<=b/\b<w'.heap.size/\∃cur T,w'.heap[b]?=some (.cells cur T (0,0)))/\bV w' F v (Φ ds)/\Has res (Φ ds)
structure H3(P:Tba)(f:Nat)(params:Tam)(res:Ty):Prop where
 enter:∀(args:Tbe Tao) (w:Tan),(callFunc f args).run P w=.ok (.enter f args) w
 calls:∀(w:Tan) (S:bG) (vs:Tad) (ds:Tah),(∀b o,S b o->b<w.heap.size/\∃cur T,w.heap[b]?=some (.cells cur T (0,0)))->vs.length=ds.length->(∀(i:Nat) v d,vs[i]?=some v->ds[i]?=some d->bV w S v d)->
  dr (.Y params) ds->
  Calls P f vs.toArray w fun e w'=>∃v S' d,e=.returned v/\fZ (fun b=>∃o,S b o) w w'/\(∀b o,S' b o->(∃o',S b o')\/w.heap.size<=b)/\
   (∀b o,S' b o->b<w'.heap.size/\∃cur T,w'.heap[b]?=some (.cells cur T (0,0)))/\bV w' S' v d/\Has res d
abbrev QC:=List (Nat×(Tam×Ty))
section
variable{P:Tba}{w w0:Tan}{S0:gw}{ρ:Nat->D}{p:Nat}{G:Gh}{σ:St}{a:Act}{n:Nat}
def H5{ops:Tae}{o:Tbd}{i:Nat}{b:Tai}{Q:O3}(c:ops[i]?=some o)(d:o.guard=none)(h:o.wp P a w (wpOps P ops Q b) Q):wpOps P ops Q (i::b) a w:=by simp only[wpOps,c];rw[if_pos (by unfold Region.wanted;rw[d])];exact .inl h
end
end Go.dG
