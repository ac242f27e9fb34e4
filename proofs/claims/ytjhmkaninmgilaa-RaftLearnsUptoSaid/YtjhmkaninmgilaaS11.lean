/- Part 11 of the proof of RaftLearns; no condition. -/
import Derived.Test.YtjhmkaninmgilaaS07
import Derived.Test.YtjhmkaninmgilaaS05
import Derived.Test.YtjhmkaninmgilaaS04
import Derived.Test.YtjhmkaninmgilaaS10
import Derived.Test.YtjhmkaninmgilaaS09
set_option linter.defProp false
set_option linter.unusedVariables false
set_option linter.unusedSimpArgs false
set_option maxHeartbeats 4000000
open Go.IntKind (i64)
namespace Go.Proofs.Ytjhmkaninmgilaa
open Go Go.RowKit Go.dF Go.Proofs
def c81:bu Try.prog 81 s81 (pre 81) (cF 81):=by
 refine zF (vQ (Φ:=cF) (Pre:=pre)) Try.func81 (v:=YQ) ?_;intro K h G;obtain⟨_,_,rfl,F,_,_,rfl,E,rfl⟩:=h;obtain⟨a,rfl,J,w⟩:=vG F;obtain⟨b,rfl,H,u⟩:=vG E;have A:cF 81 [.list (a.map (D.int i64)),.list (b.map (D.int i64))]=.bool (decide (a=b)):=by simp[cF,fh]
 simp[YQ,fp,ev,ep,cN,eu,dC,fo,ft,fq,fX,den,U.den,B.den,fC,bc,db,eF,eD,eE,fD,bU,cV,ab,aV,bz,ao,pre,A];refine⟨fun h=>?_,fun h=>?_⟩
 .intro e;exact h (by rw[e])
 refine lB.intro (fun j=>∃n:Nat,j=[.bool false,.int i64 n]/\n<=a.length/\a.take n=b.take n) (fun j=>a.length-(I (.list j) 1).toNat) ⟨0,rfl,aF _,by simp⟩ ?_;intro j m C;obtain⟨n,rfl,t,d⟩:=C;clear m;rcases c:a[n]? with _|x
 .have z:=tA c;have f:¬((n:Int)<a.length):=by omega
  have e:n=a.length:=by omega
  subst e;rw[dK,eM (by omega)]at d;simp[bU,d]
 have f:=tq c;have i:(n:Int)<a.length:=by omega
 have r:=bQ c;have o:IntKind.wrap i64 ((n:Int)+1)=(n:Int)+1:=wrap64 (by omega) (by omega);obtain⟨y,k⟩:∃y,b[n]?=some y:=⟨_,aS (by omega)⟩;have s:a.take (n+1)=a.take n++[x]:=by rw[cT,c,eX]
 have p:b.take (n+1)=b.take n++[y]:=by rw[cT,k,eX]
 have g:(n:Int)<b.length:=by omega
 simp[bU,c,k,i,g,o,Nat.not_le.2 f];refine⟨fun q e=>?_,fun l=>⟨⟨n+1,by simp,f,by rw[s,p,d,l]⟩,?_⟩⟩
 .rw[e,k]at c;injection c with c;exact q c.symm
 show a.length-((n:Int)+1).toNat<a.length-(n:Int).toNat;omega
def TN:jm Try.prog pre cF [(81,s81)]:=aR c81 vQ
def c62:bu Try.prog 62 s62 (pre 62) (cF 62):=by refine zF TN Try.func62 (v:=Y2) ?_;intro q h p;obtain⟨_,_,rfl,k,_,_,rfl,j,rfl⟩:=h;obtain⟨m,o,rfl,f,b,i,d⟩:=vJ k;obtain⟨l,n,rfl,e,a,g,c⟩:=vJ j;simp[Y2,fp,ev,ep,cN,eu,dC,fo,ft,fq,fX,den,U.den,B.den,fC,bc,db,eF,eD,eE,fD,bU,cV,ab,aV,bz,ao,pre,agb,acE]
def T9:jm Try.prog pre cF [(62,s62),(81,s81)]:=aR c62 TN
def c31:bu Try.prog 31 s31 (pre 31) (cF 31):=by refine zF T9 Try.func31 (v:=aeN) ?_;intro d h c;obtain⟨x,_,rfl,b,y,_,rfl,a,rfl⟩:=h;refine zH D.W D.bool false (y:=EZ x y) zK
def acS:jm Try.prog pre cF [(31,s31),(62,s62),(81,s81)]:=aR c31 T9
def c8:bu Try.prog 8 s8 (pre 8) (cF 8):=by refine zF acS Try.func8 (v:=vc8) ?_;intro j h c;obtain⟨_,_,rfl,⟨a,rfl,i⟩,_,_,rfl,⟨b,rfl,g⟩,rfl⟩:=h;replace c:b≠0:=c;have d:cF 8 [.int i64 a,.int i64 b]=.int i64 (ib a b):=rfl;simp[vc8,fp,ev,ep,cN,eu,dC,fo,ft,fq,fX,den,U.den,B.den,fC,bc,db,eF,eD,eE,fD,bU,cV,pre,d,ib,c];exact⟨fun f e=>by omega,fun f e=>by omega⟩
attribute [local irreducible] TL
def vz(x:D):D:=.agg (x.A.drop 2)
def je(l:Taf)(n:Int):Taf:=l++List.replicate (n+1-l.length).toNat qw
def rE(x:D)(g:GS):GS:=
 let t:=je g.told (cD 0 x).q;let y:=t.getD (cD 0 x).q.toNat .top
 {g with told:=t.set (cD 0 x).q.toNat x,bad:=g.bad||((cD 0 y).q !=0&&((cD 1 y).q !=(cD 1 x).q|| !EZ (vz x) (vz y)))}
def Ja{l:Taf}{n:Int}(h:(l.length:Int)<=n):je (l++[qw]) n=je l n:=by unfold je;rw[dP,ai,aW];congr 1;rw[show(n+1-(l.length:Int)).toNat=(n+1-((l.length+1:Nat):Int)).toNat+1 by omega,List.replicate_succ];rfl
def Jb{l:Taf}{n:Int}(h:n<(l.length:Int)):je l n=l:=by unfold je;rw[show(n+1-(l.length:Int)).toNat=0 by omega];simp
def zeroV:Ty->Tan
 |.int k=>.int k 0
 |.bool=>.bool false
 |.list _=>.slice none 0 0
 |_=>.pointer none
def nY:Tac:=dY.cells.map zeroV
def Ji:Try.prog.built 78 []=some nY.toArray:=by kernel_rfl
def FX{w:Tam}{S:bE}:∀(j:Nat) u c,nY[j]?=some u->qw.cells[j]?=some c->cg w S u c:=by
 intro j u c e h
 have k:∀(l:List (Tan×D)),(∀p∈l,cg w S p.1 p.2)->∀(j:Nat) (u:Tan) (c:D),(l.map (·.1))[j]?=some u->(l.map (·.2))[j]?=some c->cg w S u c:=by intro l o j u c e h;rw[ab,dn]at e h;obtain⟨p,d,rfl⟩:=e;obtain⟨q,f,rfl⟩:=h;rw[d]at f;injection f with f;subst f;exact o p (bQ d)
 refine k (nY.zip qw.cells) ?_ j u c (by rw[show(nY.zip qw.cells).map (·.1)=nY from rfl];exact e) (by rw[show(nY.zip qw.cells).map (·.2)=qw.cells from rfl];exact h)
 have m:∀p∈nY.zip qw.cells,p=(Value.int i64 0,D.int i64 0)\/p=(.bool false,.bool false)\/p=(.slice none 0 0,.list []):=by have:nY.zip qw.cells=[(.int i64 0,.int i64 0),(.int i64 0,.int i64 0),(.int i64 0,.int i64 0),(.int i64 0,.int i64 0),(.int i64 0,.int i64 0),(.int i64 0,.int i64 0),(.int i64 0,.int i64 0),(.int i64 0,.int i64 0),(.int i64 0,.int i64 0),(.slice none 0 0,.list []),(.int i64 0,.int i64 0),(.bool false,.bool false),(.int i64 0,.int i64 0),(.int i64 0,.int i64 0),(.int i64 0,.int i64 0),(.bool false,.bool false),(.bool false,.bool false),(.int i64 0,.int i64 0),(.int i64 0,.int i64 0),(.int i64 0,.int i64 0),(.slice none 0 0,.list []),(.int i64 0,.int i64 0),(.int i64 0,.int i64 0),(.int i64 0,.int i64 0),(.slice none 0 0,.list []),(.slice none 0 0,.list []),(.bool false,.bool false),(.slice none 0 0,.list []),(.slice none 0 0,.list [])]:=rfl;rw[this];intro p d;simp only[aH,cb,or_false]at d;rcases d with rfl|rfl|rfl|rfl|rfl|rfl|rfl|rfl|rfl|rfl|rfl|rfl|rfl|rfl|rfl|rfl|rfl|rfl|rfl|rfl|rfl|rfl|rfl|rfl|rfl|rfl|rfl|rfl|rfl<;>first|exact .inl rfl|exact .inr (.inl rfl)|exact .inr (.inr rfl)
 intro p d;rcases m p d with rfl|rfl|rfl
 .exact .int _ _
 .exact .bool _
 exact .nil _ _
def FY:Has dY qw:=by
 have d:∀(c:Tal),(∀t∈c,t=.int i64\/t=.bool\/∃u,t=.list u)->dx (.V c) (c.map fun t=>match t with| .int k=>.int k 0| .bool=>.bool false| .list _=>.list [] |_=>.top):=by
  intro c
  induction c with
  |nil=>intro _;exact dy.2 rfl
  |cons t c ih=>
   intro h;refine aJ.2 ⟨_,_,rfl,?_,ih fun t e=>h t (aK _ e)⟩;rcases h t (by simp) with rfl|rfl|⟨u,rfl⟩
   .exact⟨0,rfl,by decide⟩
   .exact⟨_,rfl⟩
   exact⟨[],rfl,gM u,fun _ h=>by cases h⟩
 refine dU.2 ⟨_,rfl,d ([.int i64,.int i64]++C6) ?_⟩;intro t e
 have:∀t∈([.int i64,.int i64]++C6:Tal),(match t with| .int i64=>true| .bool=>true| .list _=>true|_=>false)=true:=by rw[<-bY];rfl
 have h:=this t e;cases t with
 |int k=>cases k<;>first|exact .inl rfl|(exact absurd h (by decide))
 |bool=>exact .inr (.inl rfl)
 |list u=>exact .inr (.inr ⟨u,rfl⟩)
 |_=>simp at h
def qm{f:Nat}{ps:Tal}{Pre:Taf->Prop}{Φ:Taf->D}{w:Tam}{S:bE}{ow:Ow}{vs:Tac}{dd:Taf}{c:Bool}(H:bu Try.prog f ⟨ps,[(false,[(.bool,none)])],none⟩ Pre Φ)(p:Wf w S ow)(E:vs.length=dd.length)(q:∀(i:Nat) v d,vs[i]?=some v->dd[i]?=some d->cg w S v d)(A:dx (.V ps) dd)(r:Pre dd)(t:Φ dd=.bool c):Calls Try.prog f vs.toArray w fun e F=>e=.returned (.bool c)/\bD aB aB w S ow F S ow/\Wf F S ow:=by
 refine(H.calls rfl w S vs dd p.s E q A r).mono ?_;rintro e y ⟨v,S',τ,rfl,hb,_,_,_,mE,_⟩
 have B:bD aB aB w S ow y S ow/\Wf y S ow:=⟨⟨hb.size,hb.os,hb.tape,hb.output,fun b _ m _ _=>hb.block b m,fun b m _ _=>hb.block b m,fun _ _ h=>h,fun b o C=>bn (hb.block b (p.s b o C)),fun _ _ h _=>h,fun _ _ h=>.inl h,fun _ _ h=>h,fun _ _ h=>.inl h⟩,
  ⟨fun b o C=>az (p.s b o C) hb.size,fun b l E=>az (p.o b l E) hb.size,p.d⟩⟩
 rw[t]at mE;rcases mE with⟨c',u,hq⟩|⟨u,_⟩
 .injection u with u;subst u;unfold gk at hq;simp only[aj,if_false]at hq;obtain⟨x,z,k⟩:=hq;injection z with z;subst z;have G:cg y S' v (.bool c):=k.1;rw[G.gU];exact⟨rfl,B⟩
 exact absurd rfl u
def kM{w0 w d:Tam}{S0 S e:bE}{kG ow ko:Ow}{X:Tai}(c:Wf w0 S0 kG)(f:Wf w S ow)(h:bD LG aB w0 S0 kG w S ow)(k:bD LG X w S ow d e ko)(l:∀b,X b->w0.heap.size<=b):bD LG aB w0 S0 kG d e ko:=
 (h.tr c f k (fun b h=>.inr (l b h))).mono (fun _ h=>h.elim id id) (fun _ h=>h)
section
variable{w0 w:Tam}{S0 S:bE}{kG ow:Ow}{b b6 b9 i:Nat}{g:GS}{R:GR}{Q:Iv}{a:Act}{xs:Tac}{j:Nat}{n:Int}
noncomputable def AB:Code:=.block 2 (.loop (.seq (.seq (.region 9 Nn true) (.cond (.tmp 57) .skip (.exit 2))) (.block 3 (.region 10 HC false))))
def K4(hQ:QP Q)(y:GM w S ow b (R.cells g.bad) R g)(lx:fF w S ow b9 78 xs)(hx:xs[0]?=some (.int i64 n))(h0:0<=n)(hn:n<=300000000000)(Y:g.told.length<=300000000001)(k:Kn 109 a [(9,.pointer (some ⟨b9,0,none⟩)),(8,.int i64 j),(6,.pointer (some ⟨b6,0,none⟩)),(0,aI b),(1,.int i64 i)])(t:∀a W o v,Kn 109 a [(9,.pointer (some ⟨b9,0,none⟩)),(8,.int i64 j),(6,.pointer (some ⟨b6,0,none⟩)),(0,aI b),(1,.int i64 i)]->bD LG aB w S ow W S o->GM W S o b ({R with told:=v}.cells g.bad) {R with told:=v} {g with told:=je g.told n}->(je g.told n).length<=300000000001->Q .normal a W):AB.wp Try.prog Q a w:=by
 unfold AB
 refine wp_block (wp_loop_ghost (fun mm a W=>∃(l:Taf) (v:Tan) (e:Ow),mm=(n+1-(l.length:Int)).toNat/\Kn 109 a [(9,.pointer (some ⟨b9,0,none⟩)),(8,.int i64 j),(6,.pointer (some ⟨b6,0,none⟩)),(0,aI b),(1,.int i64 i)]/\
  bD LG aB w S ow W S e/\GM W S e b ({R with told:=v}.cells g.bad) {R with told:=v} {g with told:=l}/\je l n=je g.told n/\l.length<=300000000001) (n+1-(g.told.length:Int)).toNat
  ⟨g.told,R.told,ow,rfl,k,bD.refl _ _ _ _ _,y,rfl,Y⟩ ?_)
 clear k;rintro mm a W ⟨l,v,e,rfl,k,EC,gm1,hfl,hll⟩;have O:=lx.J EC id;refine wp_seq (wp_seq (jy (n0:=8) aB mix (by exact hQ) abz (fun _=>by kernel_rfl) ?_));intro L e2;have f:=gm1.O e2;have C:=O.O e2;have B:=EC.Y y.wf gm1.wf e2;have s0:=SX.refl aB L;obtain⟨A,cap,hv⟩:=f.told.slice;have X:v=.slice A l.length cap:=hv
 repeat (first|refine sm k fun a k=>?_|refine ld k (C.cell id hx) fun a k=>?_|refine ld k (f.cell id rfl) fun a k=>?_)
 rw[show({R with told:=v}:GR).told=v from rfl,X]at k
 repeat (first|refine sm k fun a k=>?_|refine ld k (C.cell id hx) fun a k=>?_|refine ld k (f.cell id rfl) fun a k=>?_)
 refine cm (c:=decide ((l.length:Int)<=n)) k rfl rfl rfl fun a k=>?_;refine ay (bf k rfl ?_);have k:=k.sb (l:=[(9,.pointer (some ⟨b9,0,none⟩)),(8,.int i64 j),(6,.pointer (some ⟨b6,0,none⟩)),(0,aI b),(1,.int i64 i)]);by_cases hc:(l.length:Int)<=n
 .rw[if_pos (by simpa using hc)];refine wp_skip (wp_block (rg (fun J=>e J=some 12) hQ WR ?_));intro K e3;have m:=f.O e3;have N:=B.Y y.wf f.wf e3;have s0:=SX.refl (fun J=>e J=some 12) K;have U:¬e b=some 12:=by rw[m.obj.ow];decide
  repeat (first|refine sm k fun a k=>?_|refine ld k (m.cell U rfl) fun a k=>?_)
  refine mM (ps:=[]) (vs:=nY) k (by assumption) rfl (by decide) rfl Ji fun a k=>?_;refine mn (kk:=29) (T:=78) k (by decide) rfl (by decide) rfl (by kernel_rfl) rfl (fun _=>SX.alloc _ _ _) fun a k=>?_;obtain⟨F,r⟩:=bD.alloc m.wf (.cells (Value.agg nY.toArray).cells 78);have I:=m.J F r;refine nk k (by decide) rfl (by decide) fun ty a1 af=>?_;obtain⟨M,w',G,o,p,s,H⟩:=I.told.E0 (P:=Try.prog) (tt:=28) (by kernel_rfl) rfl r ty K.heap.size (d:=qw) FY (us:=nY) rfl (heap_alloc_new K _) (fun q u c h1 h2=>FX q u c h1 h2) (tM (by show l.length+1<=_;omega));have s1:SX (fun J=>e J=some 12) K w':=(SX.alloc _ _ _).trans (SX.iw (fun _ h=>h) p);refine⟨M,w',ic (k.op rfl) (k.op rfl) G,fun _=>s1,fun a k=>?_⟩;have x:=I.Fw p s H;obtain⟨Av,cv,E⟩:=H.slice
  repeat refine sm k fun a k=>?_
  refine jw (cur:={R with told:=v}.cells g.bad) k (by decide) rfl (by kernel_rfl) rfl rfl (by rw[E];rfl) x.obj.heap (by show 5<11;omega) (by rw[E];rfl) (fun h=>absurd rfl h) fun a k=>?_;refine ay ?_;obtain⟨z,V,Z⟩:=x.obj.set s (us:=({R with told:=v}.cells g.bad).set 5 M);have a0:=x.setObj z V Z;have sA:=N.Z y.wf m.wf F nE;have sB:=sA.eY y.wf r p (.inl (by decide));have sC:=sB.eY y.wf s z (.inl (by decide));refine⟨_,?_,l++[qw],M,o,rfl,k.sb,sC,a0,(Ja hc).trans hfl,by rw[ai,aW];omega⟩;rw[ai,aW];omega
 rw[if_neg (by simpa using hc)];refine wp_exit ?_;have hd:=Jb (l:=l) (n:=n) (by omega);rw[hd]at hfl;show Q .normal a L;refine t a L e v k B ?_ ?_
 .rw[<-hfl];exact f
 rw[<-hfl];exact hll
end
end Go.Proofs.Ytjhmkaninmgilaa
namespace Go.Proofs.Ytjhmkaninmgilaa
open Go Go.RowKit Go.dF Go.Proofs
def MQ{P:Tap}{ops:Tad}{Q:Iv}{S:Tae}{n n0 i d j t:Nat}{A:Bool}{a:Act}{w:Tam}{m:Tab}{L r:List OK}{op:Op}(k:Kn n a m)(s:S w)(F:(L[j]?).bind (·.1)=some t)(D:lk m t=some undef)(z:d<n)(h:∀B,Kn n B ((d,undef)::m)->TL P ops Q S n0 L r (i+1) B w):TL P ops Q S n0 L ((some d,op,some (j,A))::r) i a w:=by
 intro f E;obtain⟨⟨o,e,u⟩,c⟩:=tl f E;obtain⟨I,p,C,l,J,H⟩:=o;simp only[PU,ah]at u;obtain⟨rfl,rfl,rfl⟩:=u
 have q:(ops[j]?).bind (·.dst)=some t:=by
  rw[<-F,<-f];unfold bJ;rw[ab];cases e:ops[j]? with
  |none=>simp[e]
  |some o=>simp[e,PU]
 have v:Region.wanted ⟨some d,p,C,l,J,some (j,A)⟩ (yielded ops a.tmps)=false:=by unfold Region.wanted;have G:=k.2.2 t _ D;simp only[yielded,q,cq,G];rfl
 show mF P ops Q S n0 (r.length+1) i a w;unfold mF;rw[e];simp only;by_cases y:i<n0
 .rw[if_pos y];exact⟨s,undef,.inr ⟨v,rfl⟩,h _ (k.put d undef z) f c⟩
 rw[if_neg y];exact(YieldsIf.wpOp (S:=S) e (.inr ⟨v,rfl⟩) s ⟨fun _=>s,h _ (k.put d undef z) f c⟩)
attribute [local irreducible] TL
def ze{w:Tam}{S:bE}{x:D}{us:Tac}(h:Has dY x)(J:us.length=29)(p:∀(q:Nat) u c,us[q]?=some u->x.cells[q]?=some c->cg w S u c):
  cg w S (.agg (us.drop 2).toArray) (vz x)/\Has vw (vz x)/\us[0]?=some (.int i64 (cD 0 x).q)/\us[1]?=some (.int i64 (cD 1 x).q)/\∀u∈us,u.oneCell'=true:=by
 have H:=h;obtain⟨l,rfl,k⟩:=dU.1 h;have m:l.length=29:=by rw[fH k,Ty.dm];rfl
 obtain⟨G,f⟩:∃u,us[0]?=some u:=⟨_,aS (by omega)⟩;obtain⟨F,e⟩:∃u,us[1]?=some u:=⟨_,aS (by omega)⟩;obtain⟨W,r0,U,N,t⟩:=aJ.1 k;obtain⟨V,r,T,M,s⟩:=aJ.1 t;subst T;subst U;obtain⟨C,rfl,_⟩:=N;obtain⟨B,rfl,_⟩:=M;have P:=(p 0 G _ f rfl).cQ;have O:=(p 1 F _ e rfl).cQ;subst P O;refine⟨.agg _ _ (by rw[ba,J];show 29-2=r.length;simp only[bg]at m;omega) ?_,dU.2 ⟨_,rfl,s⟩,f,e,?_⟩
 .intro q u c o L;rw[aD]at o
  have A:(D.agg (.int i64 C:: .int i64 B::r)).cells[2+q]?=some c:=by show(D.int i64 C:: .int i64 B::r)[2+q]?=some c;rw[show 2+q=q+1+1 by omega];exact L
  exact p _ u c o A
 intro u o;obtain⟨q,E⟩:=aE o;have I:q<us.length:=(aO.1 E).1;obtain⟨K,v⟩:=cB H;have d:q<dY.cells.length:=by rw[jQ];omega
 obtain⟨c,z,y⟩:=v q (dY.cells[q]'d) (aS d);exact(p q u c E z).iE y (bY.1 (show dY.cells.all Ty.scalar=true from rfl) _ (aN d))
def LU{l:Taf}{n:Int}(h:0<=n):n.toNat<(je l n).length:=by unfold je;rw[ai,List.length_replicate];omega
section
variable{w0 w:Tam}{S0 S:bE}{kG ow:Ow}{b b6 b9 i:Nat}{g:GS}{R:GR}{Q:Iv}{a:Act}{vo xs:Tac}{j:Nat}{n:Int}{A6:Tao Addr}{c6:Nat}{cs:Taf}{x:D}
noncomputable def DL:Code:=.seq (.region 8 No false) (.seq AB (.seq (.region 11 HB true) (.seq (.region 12 HA false) (.seq (.seq (.region 13 Hz false) (.cond (.tmp 94) (.region 14 Dp false) .skip)) (.region 15 zP true)))))
def take_one(hQ:QP Q)(E:GM w S ow b (R.cells g.bad) R g)(lo:fF w S ow b6 75 vo)(h7:vo[6]?=some (.slice A6 cs.length c6))(i0:cg w S (.slice A6 cs.length c6) (.list cs))(i1:Has (.list dY) (.list cs))(hj:cs[j]?=some x)(h0:0<=(cD 0 x).q)(hn:(cD 0 x).q<=300000000000)(h8:g.told.length<=300000000001)(k:Kn 109 a [(8,.int i64 j),(6,.pointer (some ⟨b6,0,none⟩)),(0,aI b),(1,.int i64 i)])(d0:∀a W d3 v,Kn 109 a [(8,.int i64 j),(6,.pointer (some ⟨b6,0,none⟩)),(0,aI b),(1,.int i64 i)]->bD LG aB w S ow W S d3->GM W S d3 b ({R with told:=v}.cells (rE x g).bad) {R with told:=v} (rE x g)->(rE x g).told.length<=300000000001->Q .normal a W):DL.wp Try.prog Q a w:=by
 have a8:=mz i1 x (bQ hj);have i9:j<cs.length:=(aO.1 hj).1;generalize f2:(cD 0 x).q=n at h0 hn;unfold DL;refine wp_seq (rg aB hQ abA ?_);intro w1 e1;have Z:=E.O e1;have a5:=lo.O e1;have b7:=(bD.refl LG aB w S ow).Y E.wf E.wf e1;have s0:=SX.refl aB w1;obtain⟨bx,ox,cx,B,e2,g1,z,f6,P,j0,f5⟩:=y8 (i0.J (bD.O e1 aB aB S ow)) hj a8;have g0:=Z.wf.s _ _ g1;obtain⟨i2,i3,a6,h6,U⟩:=ze a8 z P
 repeat (first|refine sm k fun a k=>?_|refine ld k (a5.cell id h7) fun a k=>?_)
 rw[e2]at k;refine oR (el:=78) (sz:=29) k (by assumption) rfl (by decide) rfl rfl (by kernel_rfl) (by kernel_rfl) (by omega) (by omega) fun a k=>?_;rw[bP]at k;refine lN (vs:=B) k rfl z (fun w' t q v o=>eP g0 (fun h=>h) (f6 q v o) w' t) fun a k=>?_;refine jO (nn:=29) k (by decide) rfl (by decide) (by kernel_rfl) (fun zs _=>SX.alloc _ _ _) fun zs c2 a k=>?_;refine ln (vs:=B) (cur:=zs.toArray) k (by decide) rfl (by rw[z];kernel_rfl) rfl rfl rfl (heap_alloc_new w1 _) (by rw[bV];omega) U (fun h=>absurd rfl h) fun a k=>?_;refine ay ?_;rw[fill_eq c2 z];obtain⟨K,e0,L⟩:=kU (T:=78) (zs:=zs) (us:=B) Z.wf;have Y:=Z.J K e0;have h9:w.heap.size<=w1.heap.size:=b7.size;have a4:=a5.J K (fun e=>by have:=a5.lt;rw[show b6=w1.heap.size from e]at this;omega);have sA:=b7.Z E.wf Z.wf K (fun bb hb=>by rw[show bb=_ from hb];exact h9);have H:∀(q:Nat) u c,B[q]?=some u->x.cells[q]?=some c->cg _ S u c:=fun q u c p A=>(P q u c p A).J K;generalize j1:w1.heap.size=b9 at k L h9 sA Y a4 H⊢;generalize i5:(w1.alloc _).setRow b9 _=w2 at L sA Y a4 H⊢;have k:=k.sb (l:=[(9,.pointer (some ⟨b9,0,none⟩)),(8,.int i64 j),(6,.pointer (some ⟨b6,0,none⟩)),(0,aI b),(1,.int i64 i)]);clear K e0 i5 i2 e2 g1 f6 f5 g0 P s0 b7 a5 Z e1;rw[f2]at a6;refine wp_seq (K4 (by exact hQ) Y L a6 h0 hn h8 k ?_);intro a w3 f v3 k J b1 e3;have d5:=L.J J id;have d7:=a4.J J id;have sB:=kM E.wf Y.wf sA J nE;have b3:∀(q:Nat) u c,B[q]?=some u->x.cells[q]?=some c->cg w3 S u c:=fun q u c p A=>(H q u c p A).J J;have a7:=LU (l:=g.told) h0;have hN:((n.toNat:Nat):Int)=n:=Int.toNat_of_nonneg h0;obtain⟨y,hy⟩:∃y,(je g.told n)[n.toNat]?=some y:=⟨_,aS a7⟩;have h3:(je g.told n).getD n.toNat .top=y:=by rw[ae,hy,bz]
 have f3:Has dY y:=b1.told.all y (bQ hy);clear H L Y a4 sA J;refine wp_seq (jy (n0:=8) aB mix (by exact hQ) WQ (fun _=>by kernel_rfl) ?_);intro w4 e4;have I:=b1.O e4;have a2:=d5.O e4;have c1:=d7.O e4;have sC:=sB.Y E.wf b1.wf e4;have s0:=SX.refl aB w4;obtain⟨bt,g4,uy,a9,d1,f0,m,M,c7⟩:=I.told.elem hy;rw[jQ]at m M;obtain⟨f8,f9,h5,h4,c9⟩:=ze f3 m c7
 repeat (first|refine sm k fun a k=>?_|refine ld k (a2.cell id a6) fun a k=>?_|refine ld k (I.cell id rfl) fun a k=>?_)
 rw[<-hN]at k;rw[a9]at k;refine wQ (el:=78) (sz:=29) k rfl rfl a7 fun a k=>?_;refine lN (vs:=uy) k rfl m (fun w' t q v o=>eP d1 (fun h=>h) (M q v o) w' t) fun a k=>?_;refine jO (nn:=29) k (by decide) rfl (by decide) (by kernel_rfl) (fun zs _=>SX.alloc _ _ _) fun zs c2 a k=>?_;refine ln (vs:=uy) (cur:=zs.toArray) k (by decide) rfl (by rw[m];kernel_rfl) rfl rfl rfl (heap_alloc_new w4 _) (by rw[bV];omega) c9 (fun h=>absurd rfl h) fun a k=>?_;refine ay ?_;rw[fill_eq c2 m];obtain⟨C,d9,a0⟩:=kU (T:=78) (zs:=zs) (us:=uy) I.wf;have X:=I.J C d9;have g2:w.heap.size<=w4.heap.size:=sC.size;have a3:=c1.J C (fun e=>by have:=c1.lt;rw[show b6=w4.heap.size from e]at this;omega);have a1:=a2.J C (fun e=>by have:=a2.lt;rw[show b9=w4.heap.size from e]at this;omega);have sD:=sC.Z E.wf I.wf C (fun bb hb=>by rw[show bb=_ from hb];exact g2);have G:∀(q:Nat) u c,B[q]?=some u->x.cells[q]?=some c->cg _ S u c:=fun q u c p A=>((b3 q u c p A).J (bD.O e4 aB aB S f)).J C;have F:∀(q:Nat) u c,uy[q]?=some u->y.cells[q]?=some c->cg _ S u c:=fun q u c p A=>(c7 q u c p A).J C;generalize i7:w4.heap.size=d2 at k a0 g2 sD X a3 a1 G F⊢;generalize i4:(w4.alloc _).setRow d2 _=w5 at a0 sD X a3 a1 G F⊢;have k:=k.sb (l:=[(10,.pointer (some ⟨d2,0,none⟩)),(9,.pointer (some ⟨b9,0,none⟩)),(8,.int i64 j),(6,.pointer (some ⟨b6,0,none⟩)),(0,aI b),(1,.int i64 i)]);clear C d9 i4 a9 d1 f0 M c7 f8 s0 sC c1 a2 I e4 b3 sB d7 d5 b1;refine wp_seq (rg aB hQ WO ?_);intro w6 e6;have b0:=X.O e6;have c0:=a1.O e6;have d6:=a3.O e6;have b8:=a0.O e6;have sE:=sD.Y E.wf X.wf e6;have s0:=SX.refl aB w6;have O:∀(q:Nat) u c,B[q]?=some u->x.cells[q]?=some c->cg w6 S u c:=fun q u c p A=>(G q u c p A).J (bD.O e6 aB aB S f);have b2:∀(q:Nat) u c,uy[q]?=some u->y.cells[q]?=some c->cg w6 S u c:=fun q u c p A=>(F q u c p A).J (bD.O e6 aB aB S f)
 repeat refine sm k fun a k=>?_
 refine lN (vs:=B.drop 2) k rfl (by rw[ba,z]) (fun w' t q v o=>by rw[aD]at o;rw[av];exact c0.cell id o w' t) fun a k=>?_
 repeat refine sm k fun a k=>?_
 refine lN (vs:=uy.drop 2) k rfl (by rw[ba,m]) (fun w' t q v o=>by rw[aD]at o;rw[av];exact b8.cell id o w' t) fun a k=>?_
 refine gV (vs:=[.agg (B.drop 2).toArray,.agg (uy.drop 2).toArray]) k (by decide) rfl (by decide) c31.enter rfl (qm (dd:=[vz x,vz y]) (c:=EZ (vz x) (vz y)) c31 b0.wf rfl (fun q v d o hd=>by
  match q,o,hd with
  |0,o,hd=>injection o with o;injection hd with hd;subst o hd;exact(ze a8 z O).1
  |1,o,hd=>injection o with o;injection hd with hd;subst o hd;exact(ze f3 m b2).1) (aJ.2 ⟨_,_,rfl,i3,aJ.2 ⟨_,_,rfl,f9,dy.2 rfl⟩⟩) trivial rfl) ?_
 rintro e w7 ⟨rfl,G4,Yi⟩;refine⟨_,rfl,fun _=>G4.vi _,fun a k=>?_⟩;have s1:=G4.vi aB
 repeat refine sm k fun a k=>?_
 refine ay ?_;have g3:=b0.J G4 Yi;have g9:=c0.J G4 id;have i8:=d6.J G4 id;have g7:=b8.J G4 id;have sF:=sE.Z E.wf b0.wf G4 nE;have e5:∀(q:Nat) u c,B[q]?=some u->x.cells[q]?=some c->cg w7 S u c:=fun q u c p A=>(O q u c p A).J G4;generalize c4:EZ (vz x) (vz y)=same at k;have k:=k.sb (l:=[(11,.bool same),(10,.pointer (some ⟨d2,0,none⟩)),(9,.pointer (some ⟨b9,0,none⟩)),(8,.int i64 j),(6,.pointer (some ⟨b6,0,none⟩)),(0,aI b),(1,.int i64 i)]);clear G4 Yi s1 s0 sE d6 c0 b8 b0 e6 O b2 G F sD a3 a1 a0 X
 have last:∀(a:Act) (W:Tam) (c:Bool),GM W S f b ({R with told:=v3}.cells c) {R with told:=v3} {g with told:=je g.told n,bad:=c}->fF W S f b9 78 B->(∀(q:Nat) u c,B[q]?=some u->x.cells[q]?=some c->cg W S u c)->bD LG aB w S ow W S f->
   c=(g.bad||((cD 0 y).q !=0&&((cD 1 y).q !=(cD 1 x).q|| !same)))->Kn 109 a [(9,.pointer (some ⟨b9,0,none⟩)),(8,.int i64 j),(6,.pointer (some ⟨b6,0,none⟩)),(0,aI b),(1,.int i64 i)]->(Code.region 15 zP true).wp Try.prog Q a W:=by
  intro a W c E lx P st hc k;refine jy (n0:=7) aB mix (by exact hQ) WL (fun _=>by kernel_rfl) ?_;intro w8 e8;have r:=E.O e8;have D:=lx.O e8;have g6:=st.Z ‹GM w S ow b (R.cells g.bad) R g›.wf E.wf (bD.O e8 aB aB S f) nE;have s0:=SX.refl aB w8;obtain⟨bt,g4,i6,a9,f7,b4,d1,f0,b5,d8,f1⟩:=r.told.set (i:=n.toNat) (d:=x) (us:=B) r.wf a7 a8 (by rw[jQ];exact z) (fun q u c p A=>(P q u c p A).J (bD.O e8 aB aB S f));rw[jQ]at b4 b5 d8 f1
  repeat (first|refine sm k fun a k=>?_|refine ld k (r.cell id rfl) fun a k=>?_)
  refine ld k (D.cell id a6) fun a k=>?_;refine lN (vs:=B) k rfl z (fun w' t q v o=>by rw[av];exact D.cell id o w' t) fun a k=>?_;rw[<-hN]at k;rw[a9]at k;refine wQ (el:=78) (sz:=29) k rfl rfl a7 fun a k=>?_;refine ln (vs:=B) (cur:=i6) k (by decide) rfl (by rw[z];kernel_rfl) rfl rfl rfl f7 b4 U (fun h=>absurd rfl h) fun a k=>?_;refine ay ?_;have V:=r.Fw b5 d8 f1
  have f4:rE x g={g with told:=(je g.told n).set n.toNat x,bad:=c}:=by unfold rE;simp only;rw[f2,h3,c4,hc]
  refine d0 _ _ f v3 (k.sb) (g6.eY ‹GM w S ow b (R.cells g.bad) R g›.wf r.wf b5 (.inl (by decide))) ?_ ?_
  .rw[f4];exact V
  rw[f4];show((je g.told n).set n.toNat x).length<=_;rw[aQ];exact e3
 refine wp_seq (wp_seq (rg aB hQ WN ?_));intro w8 e8;have r:=g3.O e8;have D:=g9.O e8;have d4:=g7.O e8;have sG:=sF.Y E.wf g3.wf e8;have N:∀(q:Nat) u c,B[q]?=some u->x.cells[q]?=some c->cg w8 S u c:=fun q u c p A=>(e5 q u c p A).J (bD.O e8 aB aB S f);have s0:=SX.refl aB w8
 repeat (first|refine sm k fun a k=>?_|refine ld k (d4.cell id h5) fun a k=>?_)
 have mark:∀(a:Act),Kn 109 a [(9,.pointer (some ⟨b9,0,none⟩)),(8,.int i64 j),(6,.pointer (some ⟨b6,0,none⟩)),(0,aI b),(1,.int i64 i)]->(g.bad||((cD 0 y).q !=0&&((cD 1 y).q !=(cD 1 x).q|| !same)))=true->(Code.region 14 Dp false).wp Try.prog (Exit.then (Code.wp Try.prog (.region 15 zP true) Q) Q) a w8:=by
  intro a k hb;refine rg aB hQ WM ?_;intro w9 e9;have V:=r.O e9;have g8:=D.O e9;have g5:=sG.Y E.wf r.wf e9;have s0:=SX.refl aB w9
  repeat refine sm k fun a k=>?_
  refine jw (cur:={R with told:=v3}.cells g.bad) k (by decide) rfl (by kernel_rfl) rfl rfl rfl V.obj.heap (by show 10<11;omega) rfl (fun h=>absurd rfl h) fun a k=>?_;obtain⟨p,A⟩:=V.zh true;exact ay (last _ _ true A (g8.J p id) (fun q u c z1 z2=>((N q u c z1 z2).J (bD.O e9 aB aB S f)).J p) (g5.eY E.wf V.wf p (.inl (by decide))) hb.symm (k.sb))
 by_cases hz:(cD 0 y).q=0
 .refine cm (c:=false) k rfl rfl (by rw[hz];rfl) fun a k=>?_
  repeat refine sm k fun a k=>?_
  refine MQ k (by assumption) rfl rfl (by decide) fun a k=>?_;refine MQ k (by assumption) rfl rfl (by decide) fun a k=>?_
  repeat refine sm k fun a k=>?_
  refine pk k rfl rfl fun a k=>?_;refine ay (bf k rfl (wp_skip ?_));exact last _ _ g.bad r D N sG (by rw[hz];cases g.bad<;>rfl) (k.sb)
 have c3:((cD 0 y).q !=0)=true:=by simpa using hz
 refine cm (c:=true) k rfl rfl (congrArg some c3) fun a k=>?_
 repeat (first|refine sm k fun a k=>?_|refine ld k (D.cell id h6) fun a k=>?_|refine ld k (d4.cell id h4) fun a k=>?_)
 by_cases hq:((cD 1 y).q !=(cD 1 x).q)=true
 .refine cm (c:=true) k rfl rfl (congrArg some hq) fun a k=>?_
  repeat refine sm k fun a k=>?_
  refine pk k rfl rfl fun a k=>?_;refine pk k rfl rfl fun a k=>?_;refine ay (bf k rfl (mark a (k.sb) ?_));rw[c3,hq];cases g.bad<;>rfl
 have e7:((cD 1 y).q !=(cD 1 x).q)=false:=by simpa using hq
 refine cm (c:=false) k rfl rfl (congrArg some e7) fun a k=>?_
 repeat refine sm k fun a k=>?_
 refine qy k (by assumption) rfl (by decide) rfl fun a k=>?_;refine pk k rfl rfl fun a k=>?_;refine pk k rfl rfl fun a k=>?_;refine ay (bf k rfl ?_);cases same with
 |true=>
  refine wp_skip (last _ _ g.bad r D N sG (by rw[e7];cases g.bad<;>simp) (k.sb))
 |false=>
  refine mark a (k.sb) ?_;rw[c3];cases g.bad<;>simp
end
def pF(o:D)(lost:Bool)(g:GS):GS:=if g.net.length<400/\lost=false then{g with net:=g.net++(cD 5 o).A} else g
def iW(cs:Taf)(g:GS):GS:=cs.foldl (fun g x=>rE x g) g
def oX(i:Nat)(o:D)(lost:Bool)(g:GS):GS:=kB i (iW (cD 6 o).A (pF o lost (if(cD 0 o).W then mH i o g else g)))
structure Mu(g g':GS):Prop where
 ew:g'.ew=g.ew
 cO:g'.cO=g.cO
 aX:g'.aX=g.aX
 bG:g'.bG=g.bG
 saved:g'.saved.length=g.saved.length
def Mu.trans{g g' g'':GS}(h:Mu g g')(k:Mu g' g''):Mu g g'':=⟨k.ew.trans h.ew,k.cO.trans h.cO,k.aX.trans h.aX,k.bG.trans h.bG,k.saved.trans h.saved⟩
def Mu.V9{g g':GS}(h:Mu g g')(k:uI g):uI g':=by obtain⟨c,l,d,f,e⟩:=h;exact⟨by rw[c];exact k.n5,by rw[c,l];exact k.cO,by rw[c,d];exact k.aX,by rw[c,e];exact k.saved,by rw[f];exact k.lead,by rw[d];exact k.vl⟩
def Ga(i:Nat)(o:D)(g:GS):Mu g (mH i o g):=⟨rfl,rfl,rfl,rfl,by unfold mH;simp⟩
def RO(o:D)(l:Bool)(g:GS):Mu g (pF o l g):=by unfold pF;split<;>exact⟨rfl,rfl,rfl,rfl,rfl⟩
def PM(x:D)(g:GS):Mu g (rE x g):=⟨rfl,rfl,rfl,rfl,rfl⟩
def tT:∀(l:Taf) (g:GS),Mu g (iW l g)
 |[],g=>⟨rfl,rfl,rfl,rfl,rfl⟩
 |x::r,g=>(PM x g).trans (tT r _)
def GA{cs:Taf}{j:Nat}{x:D}(h:cs[j]?=some x)(g:GS):iW (cs.take (j+1)) g=rE x (iW (cs.take j) g):=by
 have c:cs.take (j+1)=cs.take j++[x]:=by rw[cT,h];rfl
 unfold iW;rw[c,List.foldl_append];rfl
def Lx:hP.bytes<=1000:=by decide+kernel
def ql{n:Nat}(h:n<=100000000000):nh hP n:=by refine⟨by simp only[maxLen];omega,?_⟩;have:n*hP.bytes<=100000000000*1000:=Nat.mul_le_mul h Lx;omega
section
variable{w0 w:Tam}{S0 S:bE}{kG ow:Ow}{b b6 b9 i:Nat}{g g':GS}{R:GR}{Q:Iv}{a:Act}{vo xs:Tac}{j:Nat}{n:Int}{A6:Tao Addr}{c6:Nat}{cs:Taf}{x:D}
noncomputable def vV:Code:=.seq (.seq (.region 5 Nr false) (.block 0 (.loop (.seq (.seq (.region 6 Nq false) (.cond (.tmp 42) .skip (.exit 0))) (.seq (.block 1 DL) (.region 7 Np false)))))) (.region 16 Dn false)
def Ft(w:Tam)(S:bE)(ow:Ow)(b:Nat)(g':GS):Iv:=bodyPost Try.prog Try.f14 (rD w S ow b g')
def Ci(F:QP Q)(C:∀a w,Ft w0 S0 kG b g' .normal a w->Q .normal a w)(u:Wf w0 S0 kG)(st:bD LG aB w0 S0 kG w S ow)(y:GM w S ow b (R.cells g.bad) R g)(U:R.la=R.lb)(N:R.va=R.vv)(hl:uI g)(hi:i<g.ew.length)(T:Ok (cG g i) 0)(lo:fF w S ow b6 75 vo)(A:vo[6]?=some (.slice A6 cs.length c6))(P:cg w S (.slice A6 cs.length c6) (.list cs))(E:Has (.list dY) (.list cs))(Y:∀x∈cs,0<=(cD 0 x).q/\(cD 0 x).q<=300000000000)(O:g.told.length<=300000000001)(hg:g'=kB i (iW cs g))(k:Kn 109 a [(6,.pointer (some ⟨b6,0,none⟩)),(0,aI b),(1,.int i64 i)]):vV.wp Try.prog Q a w:=by
 have a1:cs.length<=maxLen:=by obtain⟨l',Z,h2,_⟩:=bO.1 E;injection Z with Z;subst Z;exact h2.1
 have a0:maxLen<=9223372036854775807:=by decide
 unfold vV;refine wp_seq (wp_seq (rg aB F abD ?_));intro w1 e1;have p:=y.O e1;have G:=SX.refl aB w1
 repeat refine sm k fun a k=>?_
 refine ay ?_;have d:=(bD.refl LG aB w S ow).Y y.wf y.wf e1
 refine wp_block (wp_loop_ghost (fun mm a W=>∃(j:Nat) (v:Tan) (q:Ow),mm=cs.length-j/\j<=cs.length/\Kn 109 a [(8,.int i64 j),(6,.pointer (some ⟨b6,0,none⟩)),(0,aI b),(1,.int i64 i)]/\bD LG aB w S ow W S q/\
  GM W S q b ({R with told:=v}.cells (iW (cs.take j) g).bad) {R with told:=v} (iW (cs.take j) g)/\(iW (cs.take j) g).told.length<=300000000001) (cs.length-0)
  ⟨0,R.told,ow,rfl,aF _,k.sb,d,p,O⟩ ?_)
 clear k p d G e1 w1;rintro mm a W ⟨j,v,q,rfl,hjl,k,d,p,htj⟩;have J:=lo.J d id;refine wp_seq (wp_seq (rg aB F abC ?_));intro w2 e2;have o:=p.O e2;have z:=J.O e2;have t:=d.Y y.wf p.wf e2;have G:=SX.refl aB w2
 repeat (first|refine sm k fun a k=>?_|refine ld k (z.cell id A) fun a k=>?_)
 refine cm (c:=decide ((j:Int)<(cs.length:Int))) k rfl rfl rfl fun a k=>?_;refine ay (bf k rfl ?_);have k:=k.sb (l:=[(8,.int i64 j),(6,.pointer (some ⟨b6,0,none⟩)),(0,aI b),(1,.int i64 i)]);by_cases D:(j:Int)<(cs.length:Int)
 .rw[if_pos (by simpa using D)];refine wp_skip ?_;obtain⟨x,M⟩:∃x,cs[j]?=some x:=⟨_,aS (by omega)⟩;obtain⟨L,K⟩:=Y x (bQ M);have ht:=GA M g;refine wp_seq (wp_block (take_one (by exact F) o z A (P.J t) E M L K htj k ?_));intro a H I v3 k r m B;refine rg aB F abB ?_;intro w4 e4;have G:=SX.refl aB w4
  repeat refine sm k fun a k=>?_
  refine iK (s:=((j+1:Nat):Int)) k (by assumption) rfl (by decide) rfl rfl (wrap64 (by omega) (by omega)) fun a k=>?_
  repeat refine sm k fun a k=>?_
  refine ay ⟨cs.length-(j+1),by omega,j+1,v3,I,rfl,by omega,k.sb,(kM y.wf o.wf t r nE).Y y.wf m.wf e4,?_,?_⟩
  .rw[ht];exact m.O e4
  rw[ht];exact B
 rw[if_neg (by simpa using D)];refine wp_exit ?_;have V:j=cs.length:=by omega
 subst V;rw[dK]at o;show(Code.region 16 Dn false).wp Try.prog Q a w2;refine rg aB F WK ?_;intro H e3;have m:=o.O e3;have r:=(kM u y.wf st t nE).Y u o.wf e3;have G:=SX.refl aB H
 repeat refine sm k fun a k=>?_
 have f:=tT cs g;have X:kv H S q b (iW cs g):=⟨_,m,U,N⟩;refine gV (vs:=[aI b,.int i64 i]) k (by decide) rfl (by decide) Ko rfl (A8 X (f.V9 hl) (by rw[f.ew];exact hi) (by unfold cG;rw[f.ew];exact T)) ?_;rintro e w4 ⟨S',bT,rfl,rH,hg4⟩;refine⟨_,rfl,fun h=>absurd rfl h,fun a k=>?_⟩;refine ay (C _ _ (mb aaZ k ⟨S',bT,rfl,kM u m.wf r rH nE,by rw[hg];exact hg4⟩).2)
noncomputable def Ke:Code:=.seq (.seq (.region 3 Nu false) (.cond (.tmp 27) (.region 4 Ns true) .skip)) vV
def Fs{A5:Tao Addr}{c5:Nat}{ms:Taf}{o:D}{lost:Bool}(hQ:QP Q)(s:∀a w,Ft w0 S0 kG b g' .normal a w->Q .normal a w)(f:Wf w0 S0 kG)(st:bD LG aB w0 S0 kG w S ow)(gr:kv w S ow b g)(v:uI g)(hi:i<g.ew.length)(N:Ok (cG g i) 0)(lo:fF w S ow b6 75 vo)(H:vo[6]?=some (.slice A6 cs.length c6))(M:cg w S (.slice A6 cs.length c6) (.list cs))(V:Has (.list dY) (.list cs))(a9:vo[5]?=some (.slice A5 ms.length c5))(b0:cg w S (.slice A5 ms.length c5) (.list ms))(U:Has (.list hP) (.list ms))(c1:ms.length<=5000000000)(b1:(cD 5 o).A=ms)(W:∀x∈cs,0<=(cD 0 x).q/\(cD 0 x).q<=300000000000)(K:g.told.length<=300000000001)(hg:g'=kB i (iW cs (pF o lost g)))(k:Kn 109 a [(3,.bool lost),(6,.pointer (some ⟨b6,0,none⟩)),(0,aI b),(1,.int i64 i)]):Ke.wp Try.prog Q a w:=by
 obtain⟨R,gm,T,I⟩:=gr;unfold Ke;refine wp_seq (wp_seq (rg aB hQ abF ?_));intro w1 z;have q:=gm.O z;have G:=lo.O z;have E:=st.Y f gm.wf z;have s0:=SX.refl aB w1
 have go:∀(a:Act),pF o lost g=g->Kn 109 a [(6,.pointer (some ⟨b6,0,none⟩)),(0,aI b),(1,.int i64 i)]->vV.wp Try.prog Q a w1:=by intro a he k;rw[he]at hg;exact Ci hQ s f E q T I v hi N G H (M.J (bD.O z aB aB S ow)) V W K hg k
 obtain⟨A,c2,hv⟩:=q.net.slice
 repeat (first|refine sm k fun a k=>?_|refine ld k (q.cell id rfl) fun a k=>?_)
 rw[hv]at k
 repeat refine sm k fun a k=>?_
 by_cases X:decide ((g.net.length:Int)<400)=true
 .refine cm (c:=true) k rfl rfl (congrArg some X) fun a k=>?_
  repeat refine sm k fun a k=>?_
  refine qy k (by assumption) rfl (by decide) rfl fun a k=>?_;refine pk k rfl rfl fun a k=>?_;refine ay (bf k rfl ?_);cases lost with
  |true=>
   refine wp_skip (go a (by unfold pF;rw[if_neg (by simp)]) (k.sb))
  |false=>
   have k:=k.sb (l:=[(6,.pointer (some ⟨b6,0,none⟩)),(0,aI b),(1,.int i64 i)]);refine jy (n0:=7) (fun Z=>ow Z=some 11) mix (by exact hQ) abE (fun _=>by kernel_rfl) ?_;intro w2 Y;have m:=q.O Y;have t:=G.O Y;have a0:=E.Y f q.wf Y;have s0:=SX.refl (fun Z=>ow Z=some 11) w2;have a5:¬ow b=some 11:=by rw[m.obj.ow];decide
   have a7:¬ow b6=some 11:=by rw[t.ow];intro e;cases e
   repeat (first|refine sm k fun a k=>?_|refine ld k (t.cell a7 a9) fun a k=>?_|refine ld k (m.cell a5 rfl) fun a k=>?_)
   refine nk k (by decide) rfl (by decide) fun ty b8 af=>?_;obtain⟨A',c',F,a3,hA,b4,b5,b3⟩:=((b0.J (bD.O z aB aB S ow)).J (bD.O Y aB aB S ow)).source (fun d hd=>(cB (mz U d hd)).1);injection a3 with a6 _ a4;subst a6 a4;obtain⟨v',w',L,c0,p,u,O⟩:=m.net.mq (P:=Try.prog) (tt:=56) (ys:=ms) (by kernel_rfl) rfl m.wf ty A5 c5 F hA b4 b5 (mz U) b3 (ql (by have:=of_decide_eq_true X;omega));have s1:SX (fun Z=>ow Z=some 11) w2 w':=SX.iw (fun _ h=>h) p;refine⟨v',w',ic (k.op rfl) (k.op rfl) L,fun _=>s1,fun a k=>?_⟩;have y:=m.pb p u O;have a2:=t.J p id;have C:=a0.eY f m.wf p (.inl (by decide));obtain⟨Av,cv,J⟩:=O.slice
   repeat refine sm k fun a k=>?_
   refine jw (cur:=R.cells g.bad) k (by decide) rfl (by kernel_rfl) rfl rfl (by rw[J];rfl) y.obj.heap (by show 4<11;omega) (by rw[J];rfl) (fun h=>absurd rfl h) fun a k=>?_;refine ay ?_;obtain⟨r,a8,b2⟩:=y.obj.set u (us:=(R.cells g.bad).set 4 v');have b7:=y.setObj r a8 b2;have a1:=a2.J r id;have B:=C.eY f u r (.inl (by decide));have he:pF o false g={g with net:=g.net++ms}:=by unfold pF;rw[if_pos ⟨by have:=of_decide_eq_true X;omega,rfl⟩,b1]
   rw[he]at hg;exact Ci (R:={R with net:=v'}) (g:={g with net:=g.net++ms}) hQ s f B b7 T I ⟨v.n5,v.cO,v.aX,v.saved,v.lead,v.vl⟩ hi N a1 H ((((M.J (bD.O z aB aB S ow)).J (bD.O Y aB aB S ow)).J p).J r) V W K hg (k.sb)
 refine cm (c:=false) k rfl rfl (congrArg some (cE.2 X)) fun a k=>?_
 repeat refine sm k fun a k=>?_
 refine pk k rfl rfl fun a k=>?_;refine ay (bf k rfl (wp_skip ?_));exact go a (by unfold pF;rw[if_neg (by rintro⟨h1,_⟩;exact X (decide_eq_true (by omega)))]) (k.sb)
end
def IC{w:Tam}{S:bE}{ow:Ow}{b i:Nat}{g:GS}{vo:Tan}{o:D}{lost:Bool}(h:kv w S ow b g)(hn:pC ow)(hl:uI g)(hi:i<g.ew.length)(O:Ok (cG g i) 0)(ho:cg w S vo o)(a3:Has zk o)(b4:(cD 7 (g.saved.getD i .top)).A.length+(cD 3 o).A.length<=300000000000)(b5:(cD 5 o).A.length<=5000000000)(b8:∀x∈(cD 6 o).A,0<=(cD 0 x).q/\(cD 0 x).q<=300000000000)(a4:g.told.length<=300000000001):
  Calls Try.prog 14 [aI b,.int i64 i,vo,.bool lost].toArray w (rD w S ow b (oX i o lost g)):=by
 obtain⟨co,Z,rfl,rfl,a9,a6,c,t,C⟩:=ML ho a3 rfl
 obtain⟨E,r,p,m,f,c5,c6,d,rfl⟩:∃E r p m f c5 c6 d,co=[E,r,p,m,f,c5,c6,d]:=by
  have W:co.length=8:=a9
  match co,W with
  | [E,r,p,m,f,c5,c6,d],_=>exact⟨E,r,p,m,f,c5,c6,d,rfl⟩
 obtain⟨d0,d1,d2,d3,d4,d5,d6,d7,rfl⟩:∃E r p m f c5 c6 d,Z=[E,r,p,m,f,c5,c6,d]:=by
  have V:Z.length=8:=a6
  match Z,V with
  | [E,r,p,m,f,c5,c6,d],_=>exact⟨E,r,p,m,f,c5,c6,d,rfl⟩
 obtain⟨x0,L,b7⟩:=cJ t 0 .bool (by rw[Ty.dm];rfl);injection L with L;subst L;obtain⟨sv,rfl⟩:=b7;obtain rfl:=(c 0 _ _ rfl rfl).gU;obtain⟨x5,K,U⟩:=cJ t 5 (.list hP) (by rw[Ty.dm];rfl);injection K with K;subst K;obtain⟨x6,J,T⟩:=cJ t 6 (.list dY) (by rw[Ty.dm];rfl);injection J with J;subst J;have u:d5.A.length<=5000000000:=b5;have y:∀x∈d6.A,0<=(cD 0 x).q/\(cD 0 x).q<=300000000000:=b8;obtain⟨a8,A5,G,d8⟩:=tv (c 5 _ _ rfl rfl) U;obtain⟨a7,A6,F,c9⟩:=tv (c 6 _ _ rfl rfl) T;subst d8 c9;have N:=c 5 _ _ rfl rfl;have M:=c 6 _ _ rfl rfl;generalize e2:d5.A=s at a8 N c C u ho;generalize d9:d6.A=cs at a7 M c C y ho;subst a8 a7;have e0:Wf w S ow:=by obtain⟨R,B,_⟩:=h;exact B.wf
 refine kD Try.func14 Od XT afQ (by show 4<=109;omega) ?_;intro a k;have hQ:=jD (P:=Try.prog) (fn:=Try.f14) (R:=rD w S ow b (oX i (D.agg [.bool sv,d1,d2,d3,d4,.list s,.list cs,d7]) lost g));refine wp_seq (rg aB hQ abI ?_);intro w1 e1;refine rW (us:=[.bool sv,r,p,m,f,.slice A5 s.length G,.slice A6 cs.length F,d]) k (by decide) rfl (by decide) rfl rfl (fun h=>absurd rfl h) fun a k=>?_;refine ay ?_;obtain⟨R0,B,a5,a2⟩:=h;have z:=B.O e1;have sA:bD LG aB w S ow w1 S ow:=bD.O e1 LG aB S ow;obtain⟨A,a1⟩:=bD.alloc z.wf (.cells [.bool sv,r,p,m,f,.slice A5 s.length G,.slice A6 cs.length F,d].toArray 75);have I:=fF.new z.wf 75 [.bool sv,r,p,m,f,.slice A5 s.length G,.slice A6 cs.length F,d];have Y:=z.J A a1;have sB:=sA.Z B.wf z.wf A nE;have e6:w1.heap.size=w.heap.size:=by rw[e1.heap]
 generalize e5:w1.heap.size=b6 at k I;generalize w1.alloc _=w2 at I Y sB A a1⊢;clear A sA z e1;have k:=k.sb (l:=[(3,.bool lost),(6,.pointer (some ⟨b6,0,none⟩)),(0,aI b),(1,.int i64 i)]);refine wp_seq (wp_seq (rg aB hQ abH ?_));intro w3 e3;have X:=Y.O e3;have H:=I.O e3;have sC:=sB.Y B.wf Y.wf e3;have s0:=SX.refl aB w3
 repeat (first|refine sm k fun a k=>?_|refine ld k (H.cell id rfl) fun a k=>?_)
 refine ay (bf k rfl ?_);have k:=k.sb (l:=[(3,.bool lost),(6,.pointer (some ⟨b6,0,none⟩)),(0,aI b),(1,.int i64 i)]);cases sv with
 |false=>
  refine wp_skip (Fs (cs:=cs) (ms:=s) (o:=D.agg [.bool false,d1,d2,d3,d4,.list s,.list cs,d7]) (lost:=lost) (g:=g) (b6:=b6) (i:=i) (vo:=[.bool false,r,p,m,f,.slice A5 s.length G,.slice A6 cs.length F,d]) hQ (fun a w h=>h) B.wf sC ⟨R0,X,a5,a2⟩ hl hi O H rfl (M.J sC) T rfl (N.J sC) U u rfl y a4 rfl (k.sb))
 |true=>
  refine rg aB hQ abG ?_;intro w4 e4;have b1:=X.O e4;have a0:=H.O e4;have sD:=sC.Y B.wf X.wf e4;have s0:=SX.refl aB w4
  repeat refine sm k fun a k=>?_
  refine lN (vs:=[.bool true,r,p,m,f,.slice A5 s.length G,.slice A6 cs.length F,d]) k rfl rfl (fun w' b3 q v hv=>by rw[av];exact a0.cell id hv w' b3) fun a k=>?_;refine gV (vs:=[aI b,.int i64 i,.agg [.bool true,r,p,m,f,.slice A5 s.length G,.slice A6 cs.length F,d].toArray]) k (by decide) rfl (by decide) Ry rfl (II ⟨R0,b1,a5,a2⟩ hn (by rw[hl.saved];exact hi) (ho.J sD) a3 hi O b4) ?_;rintro e w5 ⟨S5,KD,rfl,tj,Ms⟩;refine⟨_,rfl,fun h=>absurd rfl h,fun a k=>?_⟩;refine ay ?_;have sE:=kM B.wf b1.wf sD tj nE;have b2:=a0.J tj id;have b0:=Ga i (D.agg [.bool true,d1,d2,d3,d4,.list s,.list cs,d7]) g;exact Fs (cs:=cs) (ms:=s) (o:=D.agg [.bool true,d1,d2,d3,d4,.list s,.list cs,d7]) (lost:=lost) (g:=mH i (D.agg [.bool true,d1,d2,d3,d4,.list s,.list cs,d7]) g) (b6:=b6) (i:=i) (vo:=[.bool true,r,p,m,f,.slice A5 s.length G,.slice A6 cs.length F,d]) hQ (fun a w h=>h) B.wf sE Ms (b0.V9 hl) hi O b2 rfl (M.J sE) T rfl (N.J sE) U u rfl y a4 rfl (k.sb)
def rM:Ob:=⟨[true],[ji],[ji],false⟩
section
variable{w w':Tam}{S S':bE}{ow bT:Ow}{l b:Nat}{s:RS}
def Po{i t:Int}(B:Wf w S ow)(hi:jX i64 i)(U:jX i64 t)(h:okB i t=true/\(i=0↔t=0))(W:1000<=l):
  Calls Try.prog 22 #[.int i64 i,.int i64 t] w fun e w'=>∃b S' bT,e=.returned (.pointer (some ⟨b,0,none⟩))/\bD (iI l) aB w S ow w' S' bT/\Wf w' S' bT/\kr w' S' bT l rM b [[.int i64 i,.int i64 t,.list []]]/\w.heap.size<=b:=by
 have r:cF 22 [.int i64 i,.int i64 t]=.ff [.ff [],qp i t []]:=by show lT i t=_;rw[lT,if_pos h]
 refine(cnw.zC _ rfl rfl w S (fun _=>0) (fun _=>.nilIface) [.int i64 i,.int i64 t] [.int i64 i,.int i64 t] [] ⟨B.s,⟨.int _ _,.int _ _,trivial⟩,rfl,fun o Q cs f=>by simp at f,fun i j hi=>by simp at hi,fun j k b m=>by simp[Ob.jH]at m,fun j o b m=>by simp[Ob.jH]at m,fun y=>by simp at y⟩ (aJ.2 ⟨_,_,rfl,⟨i,rfl,hi⟩,aJ.2 ⟨_,_,rfl,⟨t,rfl,U⟩,dy.2 rfl⟩⟩) ?_).mono ?_
 .refine⟨trivial,?_⟩;show((cF 22 [.int i64 i,.int i64 t]).A.getD 0 .top).iV=false;rw[r];rfl
 rintro e w1 ⟨v,S',τ',βn,rfl,f⟩;obtain⟨d0,n,hd,E,p,u⟩:=f.res;have F:Ob.new ⟨[false,false],[],[ji],true⟩=true:=rfl;rw[F]at p;simp only[if_true]at p;obtain⟨R,I⟩:=p;have g:cF 22 [.int i64 i,.int i64 t]=.ff (d0::n.map .agg):=hd;rw[r]at g;injection g with g;injection g with _ g;have D:n.length=1:=E
 obtain⟨A,rfl⟩:∃A,n=[A]:=by
  match n,D with
  | [A],_=>exact⟨A,rfl⟩
 have L:A=[.int i64 i,.int i64 t,.list []]:=by injection g with g _;injection g with g;exact g.symm
 subst L;have x:=u 0 ji _ rfl rfl;have N:kq ⟨[false,false],[],[ji],true⟩ (fun _=>0) βn 0=βn:=rfl;rw[N]at x
 have q:∀k,¬uB (⟨[false,false],[],[ji],true⟩:Ob) (fun _=>0) (fun _=>Value.nilIface) k:=by
  rintro k (⟨o,f,_⟩|⟨j,m,_⟩)
  .simp at f
  simp[Ob.jH]at m
 have G:∀k,uB rM (fun _=>βn) τ' k->w.heap.size<=k:=by
  rintro k (⟨o,f,rfl⟩|⟨j,m,a⟩)
  .exact I
  rcases f.gh j k (by unfold kP;exact m) a with c|c
  .exact c
  exact absurd c (q k)
 have C:=f.below.size
 classical
 refine⟨βn,S',fun k=>if uB rM (fun _=>βn) τ' k then some l else ow k,by rw[R],⟨C,f.below.os,f.below.tape,f.below.output,fun k l' a hl _=>f.below.block k a (q k),fun k a _ _=>f.below.block k a (q k),f.jG,f.keep,?_,?_,?_,?_⟩,⟨f.lt,?_,?_⟩,⟨fun _=>βn,τ',rfl,⟨f.lt,⟨rfl,trivial⟩,rfl,?_,?_,?_,?_,?_⟩,fun k a=>if_pos a⟩,I⟩
 .intro k l' a _;show(if uB rM (fun _=>βn) τ' k then some l else ow k)=some l';rw[if_neg (fun H=>by have:=G k H;have:=B.o k l' a;omega)];exact a
 .intro k o K;rcases f.new k o K with c|c|c
  .exact .inl c
  .exact .inr (.inl c)
  exact absurd c (q k)
 .intro k a V;show(if uB rM (fun _=>βn) τ' k then some l else ow k)=none;rw[if_neg (fun H=>by have:=G k H;omega)];exact V
 .intro k l' a;replace a:(if uB rM (fun _=>βn) τ' k then some l else ow k)=some l':=a;split at a
  .injection a with a;exact .inr a.symm
  exact .inl a
 .intro k l' a;replace a:(if uB rM (fun _=>βn) τ' k then some l else ow k)=some l':=a;split at a
  .rename_i H;obtain⟨z,T,Z,O,h4,h5,_⟩:=x;rcases H with⟨o,f,rfl⟩|⟨j,m,Js⟩
   .exact(aP.1 Z).1
   have M:j=0:=by have:rM.jH=[0]:=rfl;rw[this]at m;simpa using m
   subst M;have hc:=h5 2 _ (z[2]'(by rw[O];decide)) (.list []) rfl (aS _) rfl;obtain⟨_,hO⟩:=hc;obtain⟨xs,l2,_,a2,_⟩:=hO.own;exact(a2.lt k Js).2
  exact az (B.o k l' a) C
 .intro k o l' K a;replace a:(if uB rM (fun _=>βn) τ' k then some l else ow k)=some l':=a;split at a
  .injection a with a;omega
  rcases f.new k o K with c|c|c
  .exact B.d k o l' c a
  .have:=B.o k l' a;omega
  exact absurd c (q k)
 .intro o Q cs c J
  match o,c,J with
  |0,c,J=>
   injection c with c;injection J with J;subst c J;exact x
 .intro i j hi m _;have Y:i<1:=hi;have X:j<1:=m;omega
 .intro j k P m a c O;exact f.own j k P m a c O
 .intro j o P m E c;exact f.eV j 0 P m (by decide) c
 intro y;exact absurd y (by decide)
def I0{cells:Taf}(h:kr w S ow l rM b [cells])(k:bE)(B:∀b o,S b o->k b o)(p:∀b o,ow b=some l->k b o):cg w k (.pointer (some ⟨b,0,none⟩)) (.ptr cells)/\Has Hb (.ptr cells):=by
 obtain⟨m,G,A,c,a⟩:=h;obtain⟨t,I,F,q,E,C,H⟩:=c.cH 0 ji cells rfl rfl;have f:ow (m 0)=some l:=a _ (.inl ⟨0,by decide,rfl⟩);refine⟨?_,ik.2 ⟨_,rfl,(tL (c.cH 0 ji cells rfl rfl)).2⟩⟩;rw[<-A];refine .ptr (m 0) t cells (by rw[q,E]) (fun i _=>p _ i f) (fun i v e=>ja F e) ?_;intro i v d e z;have y:i<ji.length:=by rw[<-q];exact(aO.1 e).1
 have n:ji[i]?=some (ji[i]'y):=aS _;refine vd (C i _ v d n e z) B ?_;intro j T x r g u;exact p r u (a r (.inr ⟨j,dj.2 ⟨ji,by simp[rM],bH.2 ⟨_,bQ n,by rw[x];rfl⟩⟩,g⟩))
def Rj{bl:Nat}{g:Tac}{T:Tba}(h:kr w S ow l rM bl [cL s])(U:Wf w S ow)(C:fF w S ow b T g)(a6:1000<=l)(Z:g.length=51)(a1:g[13]?=some (.pointer (some ⟨bl,0,none⟩)))(hd:∀(i:Nat) r v d,lP[i]?=some r->g[i]?=some v->(cR s)[i]?=some d->(r.2=none->cg w S v d/\Has r.1 d)/\(∀H,r.2=some H->v=.slice none 0 0/\d=.list [])):
  ∃bT,(∀k,bT k=if k=b then some l else ow k)/\Wf w S bT/\kr w S bT l (dG 0) b [cR s,cL s]:=by
 obtain⟨β,X,R,M,L⟩:=h;obtain⟨v1,T1,b1,b2,b3,b4,b5⟩:=M.cH 0 ji (cL s) rfl rfl;rw[R]at b1 b5;have D:ow bl=some l:=by rw[<-R];exact L _ (.inl ⟨0,by decide,rfl⟩)
 have J:b≠bl:=fun e=>by rw[e]at C;rw[C.ow]at D;cases D
 have a5:(dG 0).jH=[1,2,3,4,5,6,0]:=rfl;have N:rM.jH=[0]:=rfl;let x:Taj:=fun j=>if j=0 then X 0 else .slice none 0 0
 let n:Nat->Nat:=fun o=>if o=0 then b else bl
 have p:∀j b',(x j).ownBlock=some b'->j=0/\(X 0).ownBlock=some b':=by
  intro j b' O;by_cases y:j=0
  .subst y;exact⟨rfl,O⟩
  have:x j=.slice none 0 0:=if_neg y;rw[this]at O;cases O
 have B:∀b',(X 0).ownBlock=some b'->ow b'=some l:=fun b' O=>L b' (.inr ⟨0,by rw[N];simp,O⟩)
 have K:∀k,uB (dG 0) n x k->k=b\/ow k=some l:=by
  rintro k (⟨o,f,rfl⟩|⟨j,y,m⟩)
  .by_cases A:o=0
   .exact .inl (if_pos A)
   exact .inr (by rw[show n o=bl from if_neg A];exact D)
  exact .inr (B k (p j k m).2)
 refine⟨fun k=>if k=b then some l else ow k,fun _=>rfl,⟨U.s,?_,?_⟩,⟨n,x,rfl,⟨U.s,⟨rfl,trivial⟩,rfl,?_,?_,?_,?_,?_⟩,?_⟩⟩
 .intro k l' m;replace m:(if k=b then some l else ow k)=some l':=m;split at m
  .rename_i e;rw[e];exact C.lt
  exact U.o k l' m
 .intro k o l' hs m;replace m:(if k=b then some l else ow k)=some l':=m;split at m
  .injection m with m;omega
  exact U.d k o l' hs m
 .intro o rc cs f u
  match o,f,u with
  |0,f,u=>
   injection f with f;injection u with u;subst f u;refine⟨g,T,C.heap,Z,rfl,?_,C.s⟩;intro i r v d F hv E;obtain⟨q,z⟩:=hd i r v d F hv E;obtain⟨t,Y⟩:=r;cases Y with
   |none=>exact q rfl
   |some H=>
    obtain⟨j,TT⟩:=H;obtain⟨rfl,rfl⟩:=z _ rfl
    have y:j≠0:=by
     intro e;subst e;have a:(lP.all fun r=>match r.2 with|some (j,_)=>j !=0&&decide (0<r.1.cells.length)|none=>true)=true:=by decide+kernel
     have:=bY.1 a _ (bQ F);simp at this
    have a0:0<t.cells.length:=by
     have a:(lP.all fun r=>match r.2 with|some (j,_)=>j !=0&&decide (0<r.1.cells.length)|none=>true)=true:=by decide+kernel
     have:=bY.1 a _ (bQ F);simp only[aT,bk]at this;exact this.2
    have I:x j=.slice none 0 0:=if_neg y;refine⟨I.symm,?_⟩;rw[I];exact⟨⟨[],rfl,gM t,fun _ h=>by cases h⟩,a0,[],[],rfl,fJ _ _ _ _,fun b R=>(by cases R),fun i d j v c h=>(by simp at h)⟩
  |1,f,u=>
   injection f with f;injection u with u;subst f u;refine⟨v1,T1,b1,b2,b3,?_,b5⟩;intro i r v d F hv E;have q:=b4 i r v d F hv E;obtain⟨t,Y⟩:=r;cases Y with
   |none=>exact q
   |some H=>
    obtain⟨j,TT⟩:=H
    have y:j=0:=by
     have a:(ji.all fun r=>match r.2 with|some (j,_)=>j==0|none=>true)=true:=by decide
     have:=bY.1 a _ (bQ F);simpa using this
    subst y;exact q
 .intro i j hi y V;have a3:i<2:=hi;have a2:j<2:=y
  have G:∀o,o<2->(o=0/\n o=b)\/(o=1/\n o=bl):=by
   intro o f;by_cases A:o=0
   .exact .inl ⟨A,if_pos A⟩
   exact .inr ⟨by omega,if_neg A⟩
  rcases G i a3 with⟨q,z⟩|⟨q,z⟩<;>rcases G j a2 with⟨W,h4⟩|⟨W,h4⟩
  .omega
  .rw[z,h4]at V;exact absurd V J
  .rw[z,h4]at V;exact absurd V.symm J
  omega
 .intro j k b' y m q z;rw[(p j b' q).1,(p k b' z).1]
 .intro j o b' y f q;have z:=(p j b' q).2;have W:=B b' z;by_cases A:o=0
  .rw[show n o=b from if_pos A];intro e;rw[e,C.ow]at W;cases W
  rw[show n o=bl from if_neg A,<-R];exact M.eV 0 0 b' (by rw[N];simp) (by decide) z
 .intro _ o c rc f u
  match o,f with
  |0,f=>
   injection f with f;subst f
   have Q:c=13:=by
    have a4:=(aO.1 u).1;have P:c<51:=a4;have a:((List.range 51).all fun j=>j==13|| !(lP[j]?==some Jq))=true:=by decide+kernel
    have:=bY.1 a c (cI.2 P);rw[u]at this;simp only[beq_self_eq_true,Bool.not_true,Bool.or_false,beq_iff_eq]at this;exact this
   subst Q;exact ja C.heap a1
  |1,f=>
   injection f with f;subst f;have a:(ji.all fun r=> !(r==Jq))=true:=by decide
   have:=bY.1 a _ (bQ u);simp at this
 intro k m;show(if k=b then some l else ow k)=some l;rcases K k m with q|q
 .rw[if_pos q]
 split
 .rfl
 exact q
end
def VW(id:Int)(fv fl:Taf)(term vote:Int)(le:Taf):RS:={dN with il:=.gI,id:=id,fv:=fv,fl:=fl,term:=term,vote:=vote,le:=le}
section
variable{w w':Tam}{S S':bE}{ow bT:Ow}{l b:Nat}{s:RS}
def KB{τ:Taj}{v:Tan}{d:D}{cs:List bF}(k:(cs.all fun r=>match r.2 with|some (j,_)=> !(BA j)|none=>true)=true)(h:im w 0 S τ [(true,cs)] v d):
  ∃(us:Tac) (ds:Taf),v=.agg us.toArray/\d=.agg ds/\us.length=cs.length/\ds.length=cs.length/\∀(i:Nat) r u y,cs[i]?=some r->us[i]?=some u->ds[i]?=some y->cg w S u y/\Has (ET r) y:=by
 rcases h with⟨c,e,hq⟩|⟨e,_⟩
 .injection e with e;subst e;unfold gk at hq;rw[if_pos rfl]at hq;obtain⟨us,ds,rfl,rfl,f,m,a⟩:=hq;refine⟨us,ds,rfl,rfl,f,m,fun i r u y n z x=>?_⟩;have p:=a i r u y n z x;have o:=bY.1 k r (bQ n);obtain⟨t,q⟩:=r;cases q with
  |none=>exact p
  |some jT=>
   obtain⟨j,T⟩:=jT;simp only[eT]at o;obtain⟨rfl,g⟩:=p;rw[o]at g;exact⟨g.rep,g.has⟩
 exact absurd rfl e
def LI{i t:Int}{le:Taf}(h:kr w S ow l rM b [[.int i64 i,.int i64 t,.list le]])(k:Wf w S ow)(z:gn i t le=true):
  Calls Try.prog 25 #[.pointer (some ⟨b,0,none⟩)] w fun e w'=>e=.returned (.tuple [.int i64 (fM i t le).1,.int i64 (fM i t le).2].toArray)/\bD aB aB w S ow w' S ow/\Wf w' S ow:=by
 obtain⟨y,B⟩:=I0 h (fun b o=>S b o\/ow b=some l) (fun _ _ h=>.inl h) (fun _ _ h=>.inr h);refine(c25.calls rfl w (fun b o=>S b o\/ow b=some l) [.pointer (some ⟨b,0,none⟩)] [.ptr [.int i64 i,.int i64 t,.list le]] (fun b o p=>p.elim (k.s b o) (k.o b l)) rfl ?_ (aJ.2 ⟨_,_,rfl,B,dy.2 rfl⟩) z).mono ?_
 .intro i v d n a
  match i,n,a with
  |0,n,a=>injection n with n;injection a with a;subst n a;exact y
 rintro e x ⟨v,S',τ,rfl,hb,_,_,_,mE,_⟩
 have u:bD aB aB w S ow x S ow/\Wf x S ow:=⟨⟨hb.size,hb.os,hb.tape,hb.output,fun b _ j _ _=>hb.block b j,fun b j _ _=>hb.block b j,fun _ _ h=>h,fun b o p=>bn (hb.block b (k.s b o p)),fun _ _ h _=>h,fun _ _ h=>.inl h,fun _ _ h=>h,fun _ _ h=>.inl h⟩,
  ⟨fun b o p=>az (k.s b o p) hb.size,fun b l A=>az (k.o b l A) hb.size,k.d⟩⟩
 refine⟨?_,u⟩;rcases mE with⟨c,hc,hq⟩|⟨hc,vs,ds,rfl,a,hvl,hdl,zt⟩
 .cases hc
 have e:cF 25 [.ptr [.int i64 i,.int i64 t,.list le]]=.ff [.int i64 (fM i t le).1,.int i64 (fM i t le).2]:=rfl;rw[e]at a;injection a with a;subst a;have m:vs.length=2:=hvl
 match vs,m with
 | [v0,v1],_=>
  have r:=zt 0 _ _ _ rfl rfl rfl;have q:=zt 1 _ _ _ rfl rfl rfl;unfold gk at r q;simp only[aj,if_false]at r q;obtain⟨G,g,r⟩:=r;obtain⟨F,f,q⟩:=q;injection g with g;injection f with f;subst g f;have E:=r.1.cQ;have C:=q.1.cQ;subst E C;rfl
def GO{i t pi pt:Int}{le es:Taf}{x:Tan}(h:kr w S ow l rM b [[.int i64 i,.int i64 t,.list le]])(B:Wf w S ow)(z:1000<=l)(y:dx (.V [I6,I6,.list dY,I6,I6,.list dY]) [.int i64 pi,.int i64 pt,.list es,.int i64 i,.int i64 t,.list le])(C:cg w S x (.list es))(E:gn i t le=true)(o:le.length<4294967296)(F:es.length<4294967296):
  Calls Try.prog 23 [.pointer (some ⟨b,0,none⟩),.int i64 pi,.int i64 pt,x].toArray w fun e w'=>∃S' bT,e=.returned (.tuple [.int i64 (iD i t le pi pt es).1,.bool (jf i t le pi pt es)].toArray)/\bD (iI l) aB w S ow w' S' bT/\Wf w' S' bT/\kr w' S' bT l rM b [[.int i64 i,.int i64 t,.list (iD i t le pi pt es).2]]:=by
 refine(kr.call (ob:=⟨[true,false,false,false],[ji],[ji],false⟩) (ob0:=rM) (n:=3) (vs:=[.int i64 pi,.int i64 pt,x]) (dd:=[.int i64 pi,.int i64 pt,.list es]) c23 rfl rfl rfl rfl rfl rfl (by decide) (.inr rfl) rfl z h B rfl rfl (fun q v d g f=>by
  match q,g,f with
  |0,g,f=>injection g with g;injection f with f;subst g f;exact .int _ _
  |1,g,f=>injection g with g;injection f with f;subst g f;exact .int _ _
  |2,g,f=>injection g with g;injection f with f;subst g f;exact C) y ⟨E,o,F⟩).mono ?_
 rintro e L ⟨v,S',bT,τ,I,outs,rfl,afV,P8,st,YC,P9,mE⟩;have e:cF 23 [.int i64 pi,.int i64 pt,.list es,.int i64 i,.int i64 t,.list le]=.ff [.ff [.int i64 (iD i t le pi pt es).1,.bool (jf i t le pi pt es)],.agg [.int i64 i,.int i64 t,.list (iD i t le pi pt es).2]]:=rfl;have a:cF 23 [.int i64 pi,.int i64 pt,.list es,.int i64 i,.int i64 t,.list le]=.ff (I::outs.map .agg):=afV;rw[e]at a;injection a with a;injection a with A j;subst A;have r:outs.length=1:=P8
 match outs,r with
 | [o1],_=>
  injection j with j;injection j with j;subst j;refine⟨S',bT,?_,st,YC,P9⟩;rcases mE with⟨c,hc,hq⟩|⟨hc,vs,ds,rfl,f,hvl,hdl,zt⟩
  .cases hc
  injection f with f;subst f;have p:vs.length=2:=hvl
  match vs,p with
  | [v0,v1],_=>
   have u:=zt 0 _ _ _ rfl rfl rfl;have o:=zt 1 _ _ _ rfl rfl rfl;unfold gk at u o;simp only[aj,if_false]at u o;obtain⟨K,m,u⟩:=u;obtain⟨J,k,o⟩:=o;injection m with m;injection k with k;subst m k;have H:=u.1.cQ;have G:=o.1.gU;subst H G;rfl
end
def XB:bJ (fG Ov [0,1,3,4,5,6,7,9,10,11,2,8,12,13,14])=[oM 96 0,
 oL 97 31 4,
 oF 99 65 5 0,
 oL 100 61 99,
 oM 101 8,
 oF 102 65 5 1,
 oL 103 63 102,
 oF 105 65 5 1,
 oF 106 63 105 0,
 oL 107 3 106,
 oC 98 26 #[(.tmp 97)] #[31],
 oC 104 27 #[(.tmp 103)] #[63],
 (some 108,.build 108 #[(1,.tmp 96),(2,.tmp 98),(3,.tmp 100),(4,.tmp 101),(5,.tmp 104),(6,.tmp 107)],none),
 (some 109,.box 108 (.tmp 108),none),
 oA 6 109]:=by kernel_rfl
def rS(id:Int)(fv fl:Taf)(term vote li lt:Int)(sv sl sd le:Taf):RS:={dN with il:=.gI,id:=id,fv:=fv,fl:=fl,term:=term,vote:=vote,pZ:=li,ng:=lt,sv:=sv,sl:=sl,gN:=sd,bB:=li,li:=li,lt:=lt,le:=le}
section
variable{w w':Tam}{S S':bE}{ow bT:Ow}{l b:Nat}{s:RS}
def pq{i lo hi:Int}(f:Wf w S ow)(k:jX i64 i)(j:jX i64 lo)(g:jX i64 hi)(h:ny i lo hi=true):Calls Try.prog 20 [.int i64 i,.int i64 lo,.int i64 hi].toArray w fun e w'=>e=.returned (.bool true)/\bD aB aB w S ow w' S ow/\Wf w' S ow:=
 qm (dd:=[.int i64 i,.int i64 lo,.int i64 hi]) U4 f rfl (fun q v d a c=>by
  match q,a,c with
  |0,a,c=>injection a with a;injection c with c;subst a c;exact .int _ _
  |1,a,c=>injection a with a;injection c with c;subst a c;exact .int _ _
  |2,a,c=>injection a with a;injection c with c;subst a c;exact .int _ _) (aJ.2 ⟨_,_,rfl,⟨_,rfl,k⟩,aJ.2 ⟨_,_,rfl,⟨_,rfl,j⟩,aJ.2 ⟨_,_,rfl,⟨_,rfl,g⟩,dy.2 rfl⟩⟩⟩) trivial (congrArg D.bool h)
def V6{a b c d e f g h:D}(x:Has iU (.agg [a,b,c,d,e,f,g,h])):Has (.list dY) h:=by obtain⟨l,j,k⟩:=dU.1 x;injection j with j;subst j;obtain⟨y,i,m⟩:=cJ k 7 (.list dY) (by rw[Ty.dm];rfl);injection i with i;subst i;exact m
def _root_.Go.dF.cg.BE{vs:Tac}{ds:Taf}(h:cg w S (.agg vs.toArray) (.agg ds))(i:Nat){u:Tan}{y:D}(d:vs[i]?=some u)(c:ds[i]?=some y):cg w S u y:=by
 obtain⟨P1,a,_,e⟩:=h.zd;injection a with a;have:vs=P1:=by simpa using congrArg Array.toList a
 subst this;exact e i _ _ d c
def MO(p:bF->Tan->D->Prop):List bF->Tac->Taf->Prop
 |r::rs,v::vs,d::ds=>p r v d/\MO p rs vs ds
 |[],[],[]=>True
 |_,_,_=>False
def F9{p:bF->Tan->D->Prop}:∀{f:List bF} {vs:Tac} {ds:Taf},MO p f vs ds->∀(i:Nat) r v d,f[i]?=some r->vs[i]?=some v->ds[i]?=some d->p r v d
 |r::f,v::vs,d::ds,h,0,_,_,_,e,c,a=>by injection e with e;injection c with c;injection a with a;subst e c a;exact h.1
 |r::f,v::vs,d::ds,h,i+1,_,_,_,e,c,a=>F9 h.2 i _ _ _ e c a
 |[],_,_,_,_,_,_,_,e,_,_=>by simp at e
 |_::_,[],_,_,_,_,_,_,_,c,_=>by simp at c
 |_::_,_::_,[],_,_,_,_,_,_,_,a=>by simp at a
def Mg{p:bF->Tan->D->Prop}{r:bF}{v:Tan}{d:D}{a:List bF}{vs:Tac}{ds:Taf}(e:p r v d)(c:MO p a vs ds):MO p (r::a) (v::vs) (d::ds):=⟨e,c⟩
def xW(w:Tam)(S:bE)(r:bF)(v:Tan)(d:D):Prop:=(r.2=none->cg w S v d/\Has r.1 d)/\∀a,r.2=some a->v=.slice none 0 0/\d=.list []
def tC{n:Int}(h:jX i64 n):xW w S (I6,none) (.int i64 n) (.int i64 n):=⟨fun _=>⟨.int _ _,n,rfl,h⟩,fun _ h=>by cases h⟩
def RK{c:Bool}:xW w S (.bool,none) (.bool c) (.bool c):=⟨fun _=>⟨.bool _,c,rfl⟩,fun _ h=>by cases h⟩
def vR{t:Ty}{v:Tan}{d:D}(h:cg w S v d/\Has t d):xW w S (t,none) v d:=⟨fun _=>h,fun _ h=>by cases h⟩
def RI{t:Ty}{a:Nat×Tba}:xW w S (t,some a) (.slice none 0 0) (.list []):=⟨fun h=>(by cases h),fun _ _=>⟨rfl,rfl⟩⟩
def RG{t:Ty}:xW w S (.list t,none) (.slice none 0 0) (.list []):=⟨fun _=>⟨.nil _ _,[],rfl,gM _,fun _ h=>by cases h⟩,fun _ h=>by cases h⟩
def RH{ts:Tal}:xW w S (.ptr (.V ts),none) (.pointer none) .gI:=⟨fun _=>⟨.gI,.inl rfl⟩,fun _ h=>by cases h⟩
def RJ{b:Nat}:xW w S (.box .nil,none) (.pointer (some ⟨b,0,none⟩)) (.ptr []):=⟨fun _=>⟨.ptr b [] [] rfl (fun _ h=>by cases h) (fun _ _ h=>by simp at h) (fun _ _ _ h=>by simp at h),[],rfl,dy.2 rfl⟩,fun _ h=>by cases h⟩
def kW{ds:Taf}(x:Has iU (.agg ds))(i:Nat)(t:Ty)(f:(zu++kz++[.list dY])[i]?=some t){d:D}(h:ds[i]?=some d):Has t d:=by obtain⟨l,c,e⟩:=dU.1 x;injection c with c;subst c;obtain⟨y,a,g⟩:=cJ e i t (by rw[Ty.dm];exact f);rw[h]at a;injection a with a;subst a;exact g
def Qy{a b c d e f g h:D}(x:Has iU (.agg [a,b,c,d,e,f,g,h])):Has Sn (.agg [c,d,e,f,g]):=
 dU.2 ⟨_,rfl,aJ.2 ⟨_,_,rfl,kW x 2 I6 rfl rfl,aJ.2 ⟨_,_,rfl,kW x 3 I6 rfl rfl,aJ.2 ⟨_,_,rfl,kW x 4 (.list I6) rfl rfl,aJ.2 ⟨_,_,rfl,kW x 5 (.list I6) rfl rfl,aJ.2 ⟨_,_,rfl,kW x 6 (.list (.int .u8)) rfl rfl,dy.2 rfl⟩⟩⟩⟩⟩⟩
def B2(id term vote li lt:Int)(bl:Nat)(e k1 d c a:Tan):Tac:=[.bool false,.int i64 0,.int i64 0,.slice none 0 0,.pointer none,.slice none 0 0,.slice none 0 0,.slice none 0 0,.int i64 id,e,k1,.int i64 term,.int i64 vote,.pointer (some ⟨bl,0,none⟩),.int i64 li,.int i64 lt,d,c,a,.int i64 li,.int i64 0,.int i64 0,.int i64 0,.int i64 0,.slice none 0 0]++List.replicate 18 (.int i64 0)++[.int i64 0,.slice none 0 0,.int i64 0,.int i64 0,.int i64 0,.int i64 0,.int i64 0,.slice none 0 0]
def Gs{id term vote li lt:Int}{bl:Nat}{j k1 i h g:Tan}{fv fl sv sl sd le:Taf}(p:jX i64 id)(o:jX i64 term)(n:jX i64 vote)(m:jX i64 li)(k:jX i64 lt)(f:cg w S j (.list fv)/\Has (.list I6) (.list fv))(e:cg w S k1 (.list fl)/\Has (.list I6) (.list fl))(d:cg w S i (.list sv)/\Has (.list I6) (.list sv))(c:cg w S h (.list sl)/\Has (.list I6) (.list sl))(a:cg w S g (.list sd)/\Has (.list (.int .u8)) (.list sd)):
  MO (xW w S) lP (B2 id term vote li lt bl j k1 i h g) (cR (rS id fv fl term vote li lt sv sl sd le)):=by
 have z:jX i64 0:=by decide
 iterate 51 refine Mg (by first|exact RK|exact tC z|exact RI|exact RH|exact RJ|exact tC p|exact tC o|exact tC n|exact tC m|exact tC k|exact vR f|exact vR e|exact vR d|exact vR c|exact vR a|exact RG) ?_
 trivial
def Rh{Q:Iv}{a:Act}{K bl L:Nat}{term vote li lt id:Int}{sv sl sd es:Taf}{s4 s5 s6 s7:Tan}(P:QP Q)(A:Wf w S ow)(N:fF w S ow K 65 [.int i64 term,.int i64 vote,.int i64 li,.int i64 lt,s4,s5,s6,s7])(H:cg w S (.agg [.int i64 term,.int i64 vote,.int i64 li,.int i64 lt,s4,s5,s6,s7].toArray) (.agg [.int i64 term,.int i64 vote,.int i64 li,.int i64 lt,.list sv,.list sl,.list sd,.list es]))(t:Has iU (.agg [.int i64 term,.int i64 vote,.int i64 li,.int i64 lt,.list sv,.list sl,.list sd,.list es]))(G:0<li->gF (.agg [.list sv,.list sl])=true/\1<=sd.length/\sd.length<=1048576)(k:Kn 110 a [(8,.pointer (some ⟨bl,0,none⟩)),(7,.bool true),(6,.pointer none),(5,.pointer (some ⟨K,0,none⟩)),(4,.pointer (some ⟨L,0,none⟩)),(0,.int i64 id)])(g:∀a W,Kn 110 a [(64,.bool false),(8,.pointer (some ⟨bl,0,none⟩)),(6,.pointer none),(5,.pointer (some ⟨K,0,none⟩)),(4,.pointer (some ⟨L,0,none⟩)),(0,.int i64 id)]->bD aB aB w S ow W S ow->Wf W S ow->Q .normal a W):(Code.region 3 NA false).wp Try.prog Q a w:=by
 refine rg aB P abX ?_;intro E C;have r:Wf E S ow:=⟨fun b o H=>by rw[C.heap];exact A.s b o H,fun b l O=>by rw[C.heap];exact A.o b l O,A.d⟩;have i:=N.O C;have p:bD aB aB w S ow E S ow:=bD.O C aB aB S ow;have X:=SX.refl aB E
 repeat refine sm k fun a k=>?_
 refine qy k (by assumption) rfl (by decide) rfl fun a k=>?_
 repeat refine sm k fun a k=>?_
 refine N4 k (by assumption) rfl (by decide) rfl rfl (by kernel_rfl) fun a k=>?_;refine pk k rfl rfl fun a k=>?_
 repeat (first|refine sm k fun a k=>?_|refine ld k (i.cell (fun h=>h) rfl) fun a k=>?_)
 by_cases J:li>0
 .obtain⟨M,Z,Y⟩:=G J;have x:=H.J p;obtain⟨_,T,q6,R⟩:=tv (x.BE 6 rfl rfl) (kW t 6 (.list (.int .u8)) rfl rfl);have I:s6=.slice T sd.length q6:=R;subst I;refine cm (c:=true) k rfl rfl (It J) fun a k=>?_
  repeat refine sm k fun a k=>?_
  refine lN (vs:=[s4,s5]) k rfl rfl (fun w' z q v f=>by
   match q,f with
   |0,f=>injection f with f;subst f;exact i.cell (fun h=>h) (j:=4) rfl w' z
   |1,f=>injection f with f;subst f;exact i.cell (fun h=>h) (j:=5) rfl w' z) fun a k=>?_
  refine gV (vs:=[.agg [s4,s5].toArray]) k (by decide) rfl (by decide) Yo.enter rfl (qm (dd:=[.agg [.list sv,.list sl]]) (c:=true) Yo r rfl (fun q v d f B=>by
   match q,f,B with
   |0,f,B=>
    injection f with f;injection B with B;subst f B
    exact .agg _ _ rfl (fun q u y n m=>by
     match q,n,m with
     |0,n,m=>injection n with n;injection m with m;subst n m;exact x.BE 4 rfl rfl
     |1,n,m=>injection n with n;injection m with m;subst n m;exact x.BE 5 rfl rfl)) (aJ.2 ⟨_,_,rfl,dU.2 ⟨_,rfl,aJ.2 ⟨_,_,rfl,kW t 4 (.list I6) rfl rfl,aJ.2 ⟨_,_,rfl,kW t 5 (.list I6) rfl rfl,dy.2 rfl⟩⟩⟩,dy.2 rfl⟩) trivial (congrArg D.bool M)) ?_
  rintro e V ⟨rfl,stc,hwc⟩;have sc:=stc.vi aB;refine⟨_,rfl,fun _=>sc,fun a k=>?_⟩;refine qy k (by assumption) rfl (by decide) rfl fun a k=>?_
  repeat (first|refine sm k fun a k=>?_|refine ld k (i.cell (fun h=>h) rfl) fun a k=>?_)
  refine gV (vs:=[.int i64 (sd.length:Int),.int i64 1,.int i64 1048576]) k (by decide) rfl (by decide) U4.enter rfl (pq hwc (jt (by omega) (by omega)) (by decide) (by decide) (by simp only[ny,aT,bk];omega)) ?_;rintro e U ⟨rfl,RR,RW⟩;have F:=sc.trans (RR.vi aB);refine⟨_,rfl,fun _=>F,fun a k=>?_⟩;refine qy k (by assumption) rfl (by decide) rfl fun a k=>?_;refine pk k rfl rfl fun a k=>?_;refine pk k rfl rfl fun a k=>?_;refine pk k rfl rfl fun a k=>?_;exact ay (g _ _ (k.sb) ((p.Z A r stc nE).Z A hwc RR nE) RW)
 refine cm (c:=false) k rfl rfl (DD J) fun a k=>?_
 repeat refine sm k fun a k=>?_
 iterate 6 refine MQ k (by assumption) rfl rfl (by decide) fun a k=>?_
 repeat refine sm k fun a k=>?_
 refine pk k rfl rfl fun a k=>?_;refine pk k rfl rfl fun a k=>?_;exact ay (g _ _ (k.sb) p r)
def A9{id term vote li lt:Int}{fv fl sv sl sd es:Taf}{c0 c1 s4 s5 s6 s7:Tan}(m:Wf w S ow)(e6:1000<=l)(k4:ny id 1 5=true)(c6:jX i64 id)(hc:cg w S (.agg [c0,c1].toArray) (.agg [.list fv,.list fl]))(g9:Has mI (.agg [.list fv,.list fl]))(hm:gF (.agg [.list fv,.list fl])=true)(n:cg w S (.agg [.int i64 term,.int i64 vote,.int i64 li,.int i64 lt,s4,s5,s6,s7].toArray) (.agg [.int i64 term,.int i64 vote,.int i64 li,.int i64 lt,.list sv,.list sl,.list sd,.list es]))(N:Has iU (.agg [.int i64 term,.int i64 vote,.int i64 li,.int i64 lt,.list sv,.list sl,.list sd,.list es]))(ht:ny term 0 MX=true)(f:ny vote 0 MX=true)(i9:jf li lt [] li lt es=true)(j6:eW es=true)(j9:cZ lt (iD li lt [] li lt es).2<=term)(k5:es.length<4294967296)(c3:gn li lt (iD li lt [] li lt es).2=true)(c4:okB li lt=true/\(li=0↔lt=0))(b1:jX i64 li)(E:jX i64 lt)(j7:0<li->gF (.agg [.list sv,.list sl])=true/\1<=sd.length/\sd.length<=1048576):
  Calls Try.prog 11 [.int i64 id,.agg [c0,c1].toArray,.agg [.int i64 term,.int i64 vote,.int i64 li,.int i64 lt,s4,s5,s6,s7].toArray].toArray w fun e w'=>∃b S' bT,e=.returned (.pointer (some ⟨b,0,none⟩))/\bD (iI l) aB w S ow w' S' bT/\Wf w' S' bT/\kr w' S' bT l (dG 0) b [cR (rS id fv fl term vote li lt sv sl sd (iD li lt [] li lt es).2),cL (rS id fv fl term vote li lt sv sl sd (iD li lt [] li lt es).2)]/\w.heap.size<=b:=by
 have i2:jX i64 term:=by simp only[ny,aT,bk]at ht;have j8:MX=1099511627776:=rfl;exact⟨by have:i64.min=-9223372036854775808:=rfl;omega,by have:i64.max=9223372036854775807:=rfl;omega⟩
 have i1:jX i64 vote:=by simp only[ny,aT,bk]at f;have j8:MX=1099511627776:=rfl;exact⟨by have:i64.min=-9223372036854775808:=rfl;omega,by have:i64.max=9223372036854775807:=rfl;omega⟩
 have i4:jX i64 0:=by decide
 have k3:jX i64 1:=by decide
 have k2:jX i64 5:=by decide
 have i3:jX i64 1099511627776:=by decide
 obtain⟨_,A7,q7,h7⟩:=tv (n.BE 7 rfl rfl) (V6 N);have k8:s7=.slice A7 es.length q7:=h7;subst k8;refine kD Try.func11 Of XV afS (by show 3<=110;omega) ?_;intro a k;have Z:=jD (P:=Try.prog) (fn:=Try.f11) (R:=fun e w'=>∃b S' bT,e=.returned (.pointer (some ⟨b,0,none⟩))/\bD (iI l) aB w S ow w' S' bT/\Wf w' S' bT/\kr w' S' bT l (dG 0) b [cR (rS id fv fl term vote li lt sv sl sd (iD li lt [] li lt es).2),cL (rS id fv fl term vote li lt sv sl sd (iD li lt [] li lt es).2)]/\w.heap.size<=b);refine wp_seq (rg aB Z ab0 ?_);intro w1 e1;refine rW (us:=[c0,c1]) k (by decide) rfl (by decide) rfl rfl (fun _=>SX.alloc _ _ _) fun a k=>?_;have sa:=SX.alloc aB w1 (.cells [c0,c1].toArray 31);refine rW (us:=[.int i64 term,.int i64 vote,.int i64 li,.int i64 lt,s4,s5,s6,.slice A7 es.length q7]) k (by decide) rfl (by decide) rfl rfl (fun _=>sa.trans (SX.alloc _ _ _)) fun a k=>?_;have sb:=sa.trans (SX.alloc aB _ (.cells [.int i64 term,.int i64 vote,.int i64 li,.int i64 lt,s4,s5,s6,.slice A7 es.length q7].toArray 65));refine sm k fun a k=>?_;refine ay ?_;have b0:Wf w1 S ow:=⟨fun b o n=>by rw[e1.heap];exact m.s b o n,fun b l C=>by rw[e1.heap];exact m.o b l C,m.d⟩;have sA:bD (iI l) aB w S ow w1 S ow:=bD.O e1 _ aB S ow;obtain⟨f0,a9⟩:=bD.alloc b0 (.cells [c0,c1].toArray 31);have d8:=fF.new b0 31 [c0,c1];obtain⟨d1,G⟩:=bD.alloc a9 (.cells [.int i64 term,.int i64 vote,.int i64 li,.int i64 lt,s4,s5,s6,.slice A7 es.length q7].toArray 65);have a4:=fF.new a9 65 [.int i64 term,.int i64 vote,.int i64 li,.int i64 lt,s4,s5,s6,.slice A7 es.length q7];have a5:=d8.J d1 (fun h=>h);have sC:=(sA.Z m b0 f0 nE).Z m a9 d1 nE;generalize l4:w1.heap.size=b4 at k d8 a5;generalize l3:(w1.alloc (.cells [c0,c1].toArray 31)).heap.size=b5 at k a4;generalize (w1.alloc (.cells [c0,c1].toArray 31)).alloc _=w3 at a4 a5 sC G⊢;clear f0 d1 a9 d8 sa sb sA b0 e1;have k:=k.sb (l:=[(6,.pointer none),(5,.pointer (some ⟨b5,0,none⟩)),(4,.pointer (some ⟨b4,0,none⟩)),(0,.int i64 id)]);refine wp_seq (rg aB Z abZ ?_);intro w4 e4;have e0:Wf w4 S ow:=⟨fun b o n=>by rw[e4.heap];exact G.s b o n,fun b l C=>by rw[e4.heap];exact G.o b l C,G.d⟩;have d7:=a5.O e4;have a3:=a4.O e4;have sD:=sC.Y m G e4;have J:=SX.refl aB w4
 repeat refine sm k fun a k=>?_
 refine gV (vs:=[.int i64 id,.int i64 1,.int i64 5]) k (by decide) rfl (by decide) U4.enter rfl (pq e0 c6 k3 k2 k4) ?_;rintro e w5 ⟨rfl,tj,RX⟩;refine⟨_,rfl,fun _=>tj.vi _,fun a k=>?_⟩;have s5:=tj.vi aB;have sE:=sD.Z m e0 tj nE
 repeat refine sm k fun a k=>?_
 refine lN (vs:=[c0,c1]) k rfl rfl (fun w' g q v f=>by rw[av];exact d7.cell (fun h=>h) f w' g) fun a k=>?_
 refine gV (vs:=[.agg [c0,c1].toArray]) k (by decide) rfl (by decide) Yo.enter rfl (qm (dd:=[.agg [.list fv,.list fl]]) (c:=true) Yo RX rfl (fun q v d f p=>by
  match q,f,p with
  |0,f,p=>injection f with f;injection p with p;subst f p;exact hc.J sE) (aJ.2 ⟨_,_,rfl,g9,dy.2 rfl⟩) trivial (congrArg D.bool hm)) ?_
 rintro e w6 ⟨rfl,yT,KH⟩;have d4:=s5.trans (yT.vi aB);refine⟨_,rfl,fun _=>d4,fun a k=>?_⟩;have sF:=sE.Z m RX yT nE;refine pk k rfl rfl fun a k=>?_
 repeat (first|refine sm k fun a k=>?_|refine ld k (a3.cell (fun h=>h) rfl) fun a k=>?_)
 refine gV (vs:=[.int i64 term,.int i64 0,.int i64 1099511627776]) k (by decide) rfl (by decide) U4.enter rfl (pq KH i2 i4 i3 ht) ?_;rintro e w7 ⟨rfl,G4,Yi⟩;have d3:=d4.trans (G4.vi aB);refine⟨_,rfl,fun _=>d3,fun a k=>?_⟩;have sG:=sF.Z m KH G4 nE;refine pk k rfl rfl fun a k=>?_
 repeat (first|refine sm k fun a k=>?_|refine ld k (a3.cell (fun h=>h) rfl) fun a k=>?_)
 refine gV (vs:=[.int i64 vote,.int i64 0,.int i64 1099511627776]) k (by decide) rfl (by decide) U4.enter rfl (pq Yi i1 i4 i3 f) ?_;rintro e w8 ⟨rfl,Yu,YB⟩;have f1:=d3.trans (Yu.vi aB);refine⟨_,rfl,fun _=>f1,fun a k=>?_⟩;have sH:=sG.Z m Yi Yu nE;refine pk k rfl rfl fun a k=>?_
 repeat refine sm k fun a k=>?_
 refine ay ?_;have g5:=(((d7.J tj (fun h=>h)).J yT (fun h=>h)).J G4 (fun h=>h)).J Yu (fun h=>h);have f7:=(((a3.J tj (fun h=>h)).J yT (fun h=>h)).J G4 (fun h=>h)).J Yu (fun h=>h);have k:=k.sb (l:=[(7,.bool true),(6,.pointer none),(5,.pointer (some ⟨b5,0,none⟩)),(4,.pointer (some ⟨b4,0,none⟩)),(0,.int i64 id)]);clear tj yT G4 Yu sC sD sE sF sG J s5 d4 d3 f1 a5 d7 a4 a3 e4 G e0 RX KH Yi;refine wp_seq (rg (fun T=>ow T=some l) Z abY ?_);intro w9 e9;have d9:Wf w9 S ow:=⟨fun b o n=>by rw[e9.heap];exact YB.s b o n,fun b l C=>by rw[e9.heap];exact YB.o b l C,YB.d⟩;have g4:=g5.O e9;have a2:=f7.O e9;have sI:=sH.Y m YB e9;have J:=SX.refl (fun T=>ow T=some l) w9;have a6:¬ow b5=some l:=by rw[a2.ow];intro h;cases h
 repeat (first|refine sm k fun a k=>?_|refine ld k (a2.cell a6 rfl) fun a k=>?_)
 refine gV (vs:=[.int i64 li,.int i64 lt]) k (by decide) rfl (by decide) cnw.enter rfl (Po (l:=l) d9 b1 E c4 e6) ?_;rintro e wa ⟨bl,Sa,RT,rfl,Yt,hwa,aau,hbl⟩;have sa:SX (fun T=>ow T=some l) w9 wa:=SX.iw (fun _ h=>h) Yt;refine⟨_,rfl,fun _=>sa,fun a k=>?_⟩
 repeat refine sm k fun a k=>?_
 refine ay ?_;have g3:=g4.J Yt (fun h=>h);have d6:=a2.J Yt (fun h=>h);have sJ:=sI.eY m d9 Yt rfl;have k7:=hc.J sJ;have h4:=n.J sJ;have j5:=sI.size;have k:=k.sb (l:=[(8,.pointer (some ⟨bl,0,none⟩)),(7,.bool true),(6,.pointer none),(5,.pointer (some ⟨b5,0,none⟩)),(4,.pointer (some ⟨b4,0,none⟩)),(0,.int i64 id)]);clear sa J Yt sI g4 a2 g5 f7 e9 d9 sH YB;refine wp_seq (wp_seq (Rh (by exact Z) hwa d6 h4 N j7 k ?_));intro a wb k K B;have EP:=g3.J K (fun h=>h);have f6:=d6.J K (fun h=>h);have sK:=sJ.Z m hwa K nE;have c2:=aau.J hwa B K (fun h=>h) rfl;refine bf k rfl (wp_skip ?_);have k:=k.sb (l:=[(8,.pointer (some ⟨bl,0,none⟩)),(6,.pointer none),(5,.pointer (some ⟨b5,0,none⟩)),(4,.pointer (some ⟨b4,0,none⟩)),(0,.int i64 id)]);have k6:=hc.J sK;have h0:=n.J sK;have i5:cg wb Sa (.slice A7 es.length q7) (.list es):=h0.BE 7 rfl rfl;clear K d6 g3 aau hwa k7 h4;refine wp_seq (wp_seq (rg (fun T=>RT T=some l) Z abW ?_));intro wc ec;have a8:Wf wc Sa RT:=⟨fun b o n=>by rw[ec.heap];exact B.s b o n,fun b l C=>by rw[ec.heap];exact B.o b l C,B.d⟩;have loc:=EP.O ec;have a1:=f6.O ec;have a0:bD aB aB wb Sa RT wc Sa RT:=bD.O ec aB aB Sa RT;have sL:=sK.Z m B a0 nE;have b9:=c2.J B a8 a0 (fun h=>h) rfl;have J:=SX.refl (fun T=>RT T=some l) wc;have a6:¬RT b5=some l:=by rw[a1.ow];intro h;cases h
 repeat (first|refine sm k fun a k=>?_|refine ld k (a1.cell a6 rfl) fun a k=>?_)
 refine gV (vs:=[.pointer (some ⟨bl,0,none⟩),.int i64 li,.int i64 lt,.slice A7 es.length q7]) k (by decide) rfl (by decide) c23.enter rfl (GO (i:=li) (t:=lt) (le:=[]) (es:=es) b9 a8 e6 (aJ.2 ⟨_,_,rfl,⟨_,rfl,b1⟩,aJ.2 ⟨_,_,rfl,⟨_,rfl,E⟩,aJ.2 ⟨_,_,rfl,V6 N,aJ.2 ⟨_,_,rfl,⟨_,rfl,b1⟩,aJ.2 ⟨_,_,rfl,⟨_,rfl,E⟩,aJ.2 ⟨_,_,rfl,bO.2 ⟨[],rfl,gM _,fun _ h=>by cases h⟩,dy.2 rfl⟩⟩⟩⟩⟩⟩) (i5.J a0) (eU.2 ⟨jE.1 c4.1,rfl⟩) (by decide) k5) ?_;rintro e wd ⟨Sd,GU,rfl,RR,RW,V4⟩;have sd:SX (fun T=>RT T=some l) wc wd:=SX.iw (fun _ h=>h) RR;refine⟨_,rfl,fun _=>sd,fun a k=>?_⟩;rw[i9]at k;refine sm k fun a k=>?_;refine qz (j:=0) k (by assumption) rfl (by decide) rfl rfl fun a k=>?_;refine qz (j:=1) k (by assumption) rfl (by decide) rfl rfl fun a k=>?_
 repeat refine sm k fun a k=>?_
 refine ay ?_;have g2:=loc.J RR (fun h=>h);have f5:=a1.J RR (fun h=>h);have sM:=sL.eY m a8 RR rfl;have k:=k.sb (l:=[(10,.bool true),(8,.pointer (some ⟨bl,0,none⟩)),(6,.pointer none),(5,.pointer (some ⟨b5,0,none⟩)),(4,.pointer (some ⟨b4,0,none⟩)),(0,.int i64 id)]);generalize l1:(iD li lt [] li lt es).2=le at V4 j9 c3 Z⊢;clear RR J sd a6 b9 a0 sL loc a1 a8 ec c2 B EP f6 sK k6 h0 i5;refine wp_seq (rg aB Z abV ?_);intro we ee;have M:Wf we Sd GU:=⟨fun b o n=>by rw[ee.heap];exact RW.s b o n,fun b l C=>by rw[ee.heap];exact RW.o b l C,RW.d⟩;have g1:=g2.O ee;have d5:=f5.O ee;have d0:bD aB aB wd Sd GU we Sd GU:=bD.O ee aB aB Sd GU;have sN:=sM.Z m RW d0 nE;have b8:=V4.J RW M d0 (fun h=>h) rfl;have J:=SX.refl aB we
 repeat refine sm k fun a k=>?_
 refine qy k (by assumption) rfl (by decide) rfl fun a k=>?_
 repeat (first|refine sm k fun a k=>?_|refine ld k (d5.cell (fun h=>h) rfl) fun a k=>?_)
 refine gV (vs:=[.slice A7 es.length q7]) k (by decide) rfl (by decide) c24.enter rfl (qm (dd:=[.list es]) (c:=true) c24 M rfl (fun q v d f p=>by
  match q,f,p with
  |0,f,p=>injection f with f;injection p with p;subst f p;exact(n.J sN).BE 7 rfl rfl) (aJ.2 ⟨_,_,rfl,V6 N,dy.2 rfl⟩) trivial (congrArg D.bool j6)) ?_
 rintro e wf ⟨rfl,X6,KG⟩;have sf:=X6.vi aB;refine⟨_,rfl,fun _=>sf,fun a k=>?_⟩;refine qy k (by assumption) rfl (by decide) rfl fun a k=>?_;refine pk k rfl rfl fun a k=>?_;refine ay (bf k rfl (wp_skip ?_));have g0:=g1.J X6 (fun h=>h);have f4:=d5.J X6 (fun h=>h);have b7:=b8.J M KG X6 (fun h=>h) rfl;have sO:=sN.Z m M X6 nE;have k:=k.sb (l:=[(8,.pointer (some ⟨bl,0,none⟩)),(6,.pointer none),(5,.pointer (some ⟨b5,0,none⟩)),(4,.pointer (some ⟨b4,0,none⟩)),(0,.int i64 id)]);clear X6 sf b8 J sN d0 g1 d5 M ee g2 f5 sM RW V4;refine wp_seq (wp_seq (rg aB Z abU ?_));intro wg eg;have L:Wf wg Sd GU:=⟨fun b o n=>by rw[eg.heap];exact KG.s b o n,fun b l C=>by rw[eg.heap];exact KG.o b l C,KG.d⟩;have c9:bD aB aB wf Sd GU wg Sd GU:=bD.O eg aB aB Sd GU;have sP:=sO.Z m KG c9 nE;have O:=b7.J KG L c9 (fun h=>h) rfl;have J:=SX.refl aB wg
 repeat refine sm k fun a k=>?_
 refine gV (vs:=[.pointer (some ⟨bl,0,none⟩)]) k (by decide) rfl (by decide) c25.enter rfl (LI O L c3) ?_;rintro e wh ⟨rfl,X5,UU⟩;have sh:=X5.vi aB;refine⟨_,rfl,fun _=>sh,fun a k=>?_⟩;refine sm k fun a k=>?_;refine qz (j:=0) k (by assumption) rfl (by decide) rfl rfl fun a k=>?_;refine qz (j:=1) k (by assumption) rfl (by decide) rfl rfl fun a k=>?_
 repeat refine sm k fun a k=>?_
 refine ay ?_;have f9:=(g0.O eg).J X5 (fun h=>h);have f3:=(f4.O eg).J X5 (fun h=>h);have b6:=O.J L UU X5 (fun h=>h) rfl;have sQ:=sP.Z m L X5 nE;have k:=k.sb (l:=[(12,.int i64 (fM li lt le).2),(8,.pointer (some ⟨bl,0,none⟩)),(6,.pointer none),(5,.pointer (some ⟨b5,0,none⟩)),(4,.pointer (some ⟨b4,0,none⟩)),(0,.int i64 id)]);clear X5 sh O J sP c9 L eg g0 f4 sO KG b7;refine wp_seq (rg aB Z abT ?_);intro wi ei;have F:Wf wi Sd GU:=⟨fun b o n=>by rw[ei.heap];exact UU.s b o n,fun b l C=>by rw[ei.heap];exact UU.o b l C,UU.d⟩;have j2:=f9.O ei;have f2:=f3.O ei;have c7:bD aB aB wh Sd GU wi Sd GU:=bD.O ei aB aB Sd GU;have sR:=sQ.Z m UU c7 nE;have h9:=b6.J UU F c7 (fun h=>h) rfl;have J:=SX.refl aB wi
 repeat (first|refine sm k fun a k=>?_|refine ld k (f2.cell (fun h=>h) rfl) fun a k=>?_)
 refine cm (c:=false) k rfl rfl (DD (by show¬cZ lt le>term;omega)) fun a k=>?_;refine ay (bf k rfl (wp_skip ?_));have k:=k.sb (l:=[(8,.pointer (some ⟨bl,0,none⟩)),(5,.pointer (some ⟨b5,0,none⟩)),(4,.pointer (some ⟨b4,0,none⟩)),(0,.int i64 id)]);clear J c7 sQ b6 f3 f9 UU ei;refine wp_seq (Sw (n0:=10) aB mix (by exact Z) XB (by kernel_rfl) ?_);intro wj ej;have a7:Wf wj Sd GU:=⟨fun b o n=>by rw[ej.heap];exact F.s b o n,fun b l C=>by rw[ej.heap];exact F.o b l C,F.d⟩;have j1:=j2.O ej;have A:=f2.O ej;have e8:bD aB aB wi Sd GU wj Sd GU:=bD.O ej aB aB Sd GU;have sS:=sR.Z m F e8 nE;have h8:=h9.J F a7 e8 (fun h=>h) rfl;have J:=SX.refl aB wj
 repeat refine sm k fun a k=>?_
 refine lN (vs:=[c0,c1]) k rfl rfl (fun w' g q v f=>by rw[av];exact j1.cell (fun h=>h) f w' g) fun a k=>?_
 repeat refine sm k fun a k=>?_
 refine lN (vs:=[.int i64 term,.int i64 vote]) k rfl rfl (fun w' g q v f=>by
  match q,f with
  |0,f=>injection f with f;subst f;exact A.cell (fun h=>h) (j:=0) rfl w' g
  |1,f=>injection f with f;subst f;exact A.cell (fun h=>h) (j:=1) rfl w' g) fun a k=>?_
 repeat refine sm k fun a k=>?_
 refine lN (vs:=[.int i64 li,.int i64 lt,s4,s5,s6]) k rfl rfl (fun w' g q v f=>by
  match q,f with
  |0,f=>injection f with f;subst f;exact A.cell (fun h=>h) (j:=2) rfl w' g
  |1,f=>injection f with f;subst f;exact A.cell (fun h=>h) (j:=3) rfl w' g
  |2,f=>injection f with f;subst f;exact A.cell (fun h=>h) (j:=4) rfl w' g
  |3,f=>injection f with f;subst f;exact A.cell (fun h=>h) (j:=5) rfl w' g
  |4,f=>injection f with f;subst f;exact A.cell (fun h=>h) (j:=6) rfl w' g) fun a k=>?_
 repeat (first|refine sm k fun a k=>?_|refine ld k (A.cell (fun h=>h) rfl) fun a k=>?_)
 refine gV (vs:=[.agg [c0,c1].toArray]) k (by decide) rfl (by decide) c26.enter rfl (Cv (dd:=[.agg [.list fv,.list fl]]) c26 rfl a7 rfl (fun q v d f p=>by
  match q,f,p with
  |0,f,p=>injection f with f;injection p with p;subst f p;exact hc.J sS) (aJ.2 ⟨_,_,rfl,g9,dy.2 rfl⟩) trivial) ?_
 rintro e wk ⟨vc,Sk,τk,rfl,kV,hwk,acy⟩;obtain⟨uc,dc,rfl,b3,g8,l0,e7⟩:=KB rfl acy;have sk:=kV.vi aB;refine⟨_,rfl,fun _=>sk,fun a k=>?_⟩;have sT:=sS.Z m a7 kV nE
 refine gV (vs:=[.agg [.int i64 li,.int i64 lt,s4,s5,s6].toArray]) k (by decide) rfl (by decide) c27.enter rfl (Cv (dd:=[.agg [.int i64 li,.int i64 lt,.list sv,.list sl,.list sd]]) c27 rfl hwk rfl (fun q v d f p=>by
  match q,f,p with
  |0,f,p=>
   injection f with f;injection p with p;subst f p
   exact .agg _ _ rfl (fun q u y x r=>by
    match q,x,r with
    |0,x,r=>injection x with x;injection r with r;subst x r;exact .int _ _
    |1,x,r=>injection x with x;injection r with r;subst x r;exact .int _ _
    |2,x,r=>injection x with x;injection r with r;subst x r;exact(n.J sT).BE 4 rfl rfl
    |3,x,r=>injection x with x;injection r with r;subst x r;exact(n.J sT).BE 5 rfl rfl
    |4,x,r=>injection x with x;injection r with r;subst x r;exact(n.J sT).BE 6 rfl rfl)) (aJ.2 ⟨_,_,rfl,Qy N,dy.2 rfl⟩) trivial) ?_
 rintro e wl ⟨vs,Sl,τl,rfl,Ys,YA,acx⟩;obtain⟨us,ds,rfl,b2,g7,k9,H⟩:=KB rfl acx;have d2:=sk.trans (Ys.vi aB);refine⟨_,rfl,fun _=>d2,fun a k=>?_⟩;have sU:=sT.Z m hwk Ys nE
 have i7:dc=[.list fv,.list fl]:=by have e:cF 26 [.agg [.list fv,.list fl]]=.agg [.list fv,.list fl]:=rfl;rw[e]at b3;injection b3 with b3;exact b3.symm
 have i6:ds=[.int i64 li,.int i64 lt,.list sv,.list sl,.list sd]:=by have e:cF 27 [.agg [.int i64 li,.int i64 lt,.list sv,.list sl,.list sd]]=.agg [.int i64 li,.int i64 lt,.list sv,.list sl,.list sd]:=rfl;rw[e]at b2;injection b2 with b2;exact b2.symm
 subst i7 i6;have e3:uc.length=2:=g8;have e2:us.length=5:=g7
 obtain⟨Y,X,j4⟩:∃Y X,uc=[Y,X]:=by
  match uc,e3 with
  | [Y,X],_=>exact⟨Y,X,rfl⟩
 obtain⟨m0,m1,W,V,U,j3⟩:∃m0 m1 W V U,us=[m0,m1,W,V,U]:=by
  match us,e2 with
  | [m0,m1,W,V,U],_=>exact⟨m0,m1,W,V,U,rfl⟩
 rw[j4]at k e7;rw[j3]at k H;have q0:=e7 0 _ _ _ rfl rfl rfl;have q1:=e7 1 _ _ _ rfl rfl rfl;have z0:=(H 0 _ _ _ rfl rfl rfl).1.cQ;have z1:=(H 1 _ _ _ rfl rfl rfl).1.cQ;have z2:=H 2 _ _ _ rfl rfl rfl;have z3:=H 3 _ _ _ rfl rfl rfl;have z4:=H 4 _ _ _ rfl rfl rfl;rw[z0,z1]at k;refine mM (ps:=[(1,.int i64 id),(2,.agg [Y,X].toArray),(3,.agg [.int i64 term,.int i64 vote].toArray),(4,.pointer (some ⟨bl,0,none⟩)),(5,.agg [.int i64 li,.int i64 lt,W,V,U].toArray),(6,.int i64 li)]) (vs:=B2 id term vote li lt bl Y X W V U) k (by assumption) rfl (by decide) rfl (by kernel_rfl) fun a k=>?_;refine rW (us:=B2 id term vote li lt bl Y X W V U) k (by decide) rfl (by decide) rfl rfl (fun _=>d2.trans (SX.alloc _ _ _)) fun a k=>?_;have sn:=d2.trans (SX.alloc aB wl (.cells (B2 id term vote li lt bl Y X W V U).toArray 108));refine sm k fun a k=>?_;refine ay ?_;obtain⟨z,g6⟩:=bD.alloc YA (.cells (B2 id term vote li lt bl Y X W V U).toArray 108);have f8:=fF.new YA 108 (B2 id term vote li lt bl Y X W V U);have h6:=(h8.J a7 hwk kV (fun h=>h) rfl).J hwk YA Ys (fun h=>h) rfl;have h5:=h6.J YA g6 z (fun h=>h) rfl;have I:=sU.Z m YA z nE;have i8:w.heap.size<=wl.heap.size:=sU.size;generalize l2:wl.heap.size=bN at k f8 i8;have j5:=z.size;obtain⟨bT,e5,g,i0⟩:=Rj (s:=rS id fv fl term vote li lt sv sl sd le) h5 g6 f8 e6 rfl rfl (F9 (Gs (bl:=bl) c6 i2 i1 b1 E ⟨(q0.1.J Ys).J z,q0.2⟩ ⟨(q1.1.J Ys).J z,q1.2⟩ ⟨z2.1.J z,z2.2⟩ ⟨z3.1.J z,z3.2⟩ ⟨z4.1.J z,z4.2⟩))
 have j0:bD (iI l) aB w S ow _ Sl bT:=⟨I.size,I.os,I.tape,I.output,I.GY,I.free,I.jG,I.cell,fun b' l' Q h2=>by
   rw[e5];have h3:=I.keep b' l' Q h2;split
   .rename_i e;have:=m.o b' l' Q;omega
   .exact h3,I.new,fun b' Q h2=>by
   rw[e5,if_neg (by omega)];exact I.um b' Q h2,fun b' l' Q=>by
   rw[e5]at Q;split at Q
   .injection Q with Q;exact .inr Q.symm
   exact I.iw b' l' Q⟩
 exact wp_ret (r9 aa1 k rfl ⟨bN,Sl,bT,rfl,j0,g,i0,i8⟩).1
def Lw{id term vote:Int}{fv fl es:Taf}{c0 c1 s4 s5 s6 s7:Tan}(o:Wf w S ow)(k:1000<=l)(m:ny id 1 5=true)(c:jX i64 id)(u:cg w S (.agg [c0,c1].toArray) (.agg [.list fv,.list fl]))(g:Has mI (.agg [.list fv,.list fl]))(t:gF (.agg [.list fv,.list fl])=true)(r:cg w S (.agg [.int i64 term,.int i64 vote,.int i64 0,.int i64 0,s4,s5,s6,s7].toArray) (.agg [.int i64 term,.int i64 vote,.int i64 0,.int i64 0,.list [],.list [],.list [],.list es]))(f:Has iU (.agg [.int i64 term,.int i64 vote,.int i64 0,.int i64 0,.list [],.list [],.list [],.list es]))(q:ny term 0 MX=true)(p:ny vote 0 MX=true)(d:jf 0 0 [] 0 0 es=true)(i:eW es=true)(j:cZ 0 (iD 0 0 [] 0 0 es).2<=term)(n:es.length<4294967296)(a:gn 0 0 (iD 0 0 [] 0 0 es).2=true):
  Calls Try.prog 11 [.int i64 id,.agg [c0,c1].toArray,.agg [.int i64 term,.int i64 vote,.int i64 0,.int i64 0,s4,s5,s6,s7].toArray].toArray w fun e w'=>∃b S' bT,e=.returned (.pointer (some ⟨b,0,none⟩))/\bD (iI l) aB w S ow w' S' bT/\Wf w' S' bT/\kr w' S' bT l (dG 0) b [cR (VW id fv fl term vote (iD 0 0 [] 0 0 es).2),cL (VW id fv fl term vote (iD 0 0 [] 0 0 es).2)]/\w.heap.size<=b:=
 A9 (li:=0) (lt:=0) (sv:=[]) (sl:=[]) (sd:=[]) o k m c u g t r f q p d i j n a ⟨by decide,by decide⟩ (by decide) (by decide) (fun h=>absurd h (by decide))
end
def Jt(n:Nat):Taf:=(List.range n).map fun i=>.int i64 ((i+1:Nat):Int)
def Px(n:Nat):Jt (n+1)=Jt n++[.int i64 ((n+1:Nat):Int)]:=by unfold Jt;rw[List.range_succ,ck];rfl
def Kj(n:Nat):(Jt n).length=n:=by unfold Jt;simp
def Mk(v n:Nat):Taf:=(List.range n).map fun i=>.int i64 ((v+i+1:Nat):Int)
def Pn(v n:Nat):Mk v (n+1)=Mk v n++[.int i64 ((v+n+1:Nat):Int)]:=by unfold Mk;rw[List.range_succ,ck];rfl
def Kh(v n:Nat):(Mk v n).length=n:=by unfold Mk;simp
def uK:D:=.agg [.int i64 0,.int i64 0,.int i64 0,.int i64 0,.list [],.list [],.list [],.list []]
def G8(v l i:Nat):RS:=VW ((i+1:Nat):Int) (Jt v) (Mk v l) 0 0 []
def gB(v l j:Nat):GS:=⟨Jt v,Mk v l,(List.range j).map (G8 v l),List.replicate j uK,[],[],[],List.replicate j (.int i64 0),[],List.replicate j [],false⟩
def Rt(v l j:Nat):gB v l (j+1)={gB v l j with ew:=(gB v l j).ew++[G8 v l j],saved:=(gB v l j).saved++[uK],aX:=(gB v l j).aX++[[]],cO:=(gB v l j).cO++[.int i64 0]}:=by unfold gB;simp only[List.range_succ,ck,cM,List.map_nil,List.replicate_succ']
def gJ:Tan:=.slice none 0 0
def R0(v c:Tan):GR:=⟨v,c,gJ,gJ,gJ,gJ,gJ,gJ,gJ,gJ,[],[],[],[]⟩
def AZ:Has iU uK:=
 dU.2 ⟨_,rfl,aJ.2 ⟨_,_,rfl,⟨0,rfl,by decide⟩,aJ.2 ⟨_,_,rfl,⟨0,rfl,by decide⟩,aJ.2 ⟨_,_,rfl,⟨0,rfl,by decide⟩,aJ.2 ⟨_,_,rfl,⟨0,rfl,by decide⟩,aJ.2 ⟨_,_,rfl,bO.2 ⟨[],rfl,gM _,fun _ h=>by cases h⟩,aJ.2 ⟨_,_,rfl,bO.2 ⟨[],rfl,gM _,fun _ h=>by cases h⟩,aJ.2 ⟨_,_,rfl,bO.2 ⟨[],rfl,gM _,fun _ h=>by cases h⟩,aJ.2 ⟨_,_,rfl,bO.2 ⟨[],rfl,gM _,fun _ h=>by cases h⟩,dy.2 rfl⟩⟩⟩⟩⟩⟩⟩⟩⟩
section
variable{w w':Tam}{S S':bE}{ow bT:Ow}{b i n:Nat}{vs:Tac}{R:GR}{g:GS}{X:Tai}
def GM.G8{j:Nat}(h:GM w S ow b vs R g)(c:bD (iI (1000+j)) X w S ow w' S' bT)(k:Wf w' S' bT)(q:g.ew.length<=j)(p:g.aX.length<=5):GM w' S' bT b vs R g:=
 ⟨k,h.obj.J c cu,h.fv.J c,h.fl.J c,h.arr.J h.wf c cu,h.rn,fun i s d=>let ⟨o,f,e,m⟩:=h.ew i s d;⟨o,f,e.J h.wf k c (by have:=(aO.1 d).1;simp only[iI];omega) rfl,m⟩,h.saved.J h.wf c cu,h.net.J h.wf c cu,h.told.J h.wf c cu,h.bG.J h.wf c cu,h.cO.J h.wf c cu,h.read.J h.wf c cu,h.oH.J h.wf c cu,h.xH,fun i l d=>let ⟨v,f,e⟩:=h.pD i l d;⟨v,f,e.J h.wf c (by have:=(aO.1 d).1;simp only[iI];omega)⟩⟩
def GM.XZ{bs:Nat}{s:RS}(h:GM w S ow b vs R g)(e:kr w S ow (1000+g.ew.length) (dG 0) bs [cR s,cL s]):GM w S ow b vs {R with lb:=R.lb++[bs]} {g with ew:=g.ew++[s]}:=
 ⟨h.wf,h.obj,h.fv,h.fl,h.arr,by simp[h.rn],fun i f c=>by
  simp only at c⊢;rw[dE]at c;split at c
  .rename_i d;obtain⟨q,p,o,m⟩:=h.ew i f c;exact⟨q,by rw[dE,if_pos (by rw[h.rn];exact d)];exact p,o,m⟩
  have k:i=g.ew.length:=by have:=(aO.1 c).1;simp at this;omega
  subst k;simp at c;subst c;exact⟨bs,by rw[dE,if_neg (by rw[h.rn];omega),h.rn];simp,e,fE e⟩,h.saved,h.net,h.told,h.bG,h.cO,h.read,h.oH,h.xH,h.pD⟩
def GM.RP(h:GM w S ow b vs R g)(m:g.aX.length<=5):GM w S ow b vs {R with vv:=R.vv++[gJ]} {g with aX:=g.aX++[[]]}:=
 ⟨h.wf,h.obj,h.fv,h.fl,h.arr,h.rn,h.ew,h.saved,h.net,h.told,h.bG,h.cO,h.read,h.oH,by simp[h.xH],fun i l c=>by
  simp only at c⊢;rw[dE]at c;split at c
  .rename_i d;obtain⟨v,k,f⟩:=h.pD i l c;exact⟨v,by rw[dE,if_pos (by rw[h.xH];exact d)];exact k,f⟩
  have e:i=g.aX.length:=by have:=(aO.1 c).1;simp at this;omega
  subst e;simp at c;subst c;exact⟨gJ,by rw[dE,if_neg (by rw[h.xH];omega),h.xH];simp,dB.nil (by decide) (by omega)⟩⟩
def GM.begin{v c:Tan}{xs ys:Taf}(e:Wf w S ow)(ob:uG w ow 0 b 59 ((R0 v c).cells false))(f:cg w S v (.list xs))(d:cg w S c (.list ys)):GM w S ow b ((R0 v c).cells false) (R0 v c) ⟨xs,ys,[],[],[],[],[],[],[],[],false⟩:=
 ⟨e,ob,f,d,kj.nil (by omega),rfl,fun i s h=>by simp at h,dB.nil (by decide) (by omega),dB.nil (by decide) (by omega),dB.nil (by decide) (by omega),dB.nil (by decide) (by omega),dB.nil (by decide) (by omega),dB.nil (by decide) (by omega),kj.nil (by omega),rfl,fun i l h=>by simp at h⟩
end
def nO(w:Tam)(S:bE)(v l:Nat):Iv:=bodyPost Try.prog Try.f9 (fun e w'=>∃b S' bT,e=.returned (aI b)/\bD LG aB w S (fun _=>none) w' S' bT/\kv w' S' bT b (gB v l (v+l)))
def Gx{n:Nat}(h:n<=10):nh iU n:=by
 have c:iU.bytes<=1000:=by decide
 refine⟨by simp only[maxLen];omega,?_⟩;have:n*iU.bytes<=10*1000:=Nat.mul_le_mul h c;omega
def FU{v l:Nat}(h:v+l<=5):Has mI (.agg [.list (Jt v),.list (Mk v l)]):=by
 have e:∀i:Nat,i<=5->Has I6 (.int i64 (i:Int)):=fun i c=>⟨_,rfl,⟨by have:i64.min=-9223372036854775808:=rfl;omega,by have:i64.max=9223372036854775807:=rfl;omega⟩⟩;refine dU.2 ⟨_,rfl,aJ.2 ⟨_,_,rfl,bO.2 ⟨_,rfl,nK (by rw[Kj];omega),fun x d=>?_⟩,aJ.2 ⟨_,_,rfl,bO.2 ⟨_,rfl,nK (by rw[Kh];omega),fun x d=>?_⟩,dy.2 rfl⟩⟩⟩
 .obtain⟨i,c,rfl⟩:=bq.1 d;have:=cI.1 c;exact e _ (by omega)
 obtain⟨i,c,rfl⟩:=bq.1 d;have:=cI.1 c;exact e _ (by omega)
def Ar{v l:Nat}(d:1<=v)(c:v+l<=5):gF (.agg [.list (Jt v),.list (Mk v l)])=true:=by
 obtain rfl|rfl|rfl|rfl|rfl:v=1\/v=2\/v=3\/v=4\/v=5:=by omega
 all_goals obtain rfl|rfl|rfl|rfl|rfl:l=0\/l=1\/l=2\/l=3\/l=4:=by omega
 all_goals first|omega|decide
section
variable{w:Tam}{S:bE}{ow:Ow}{b j n v l:Nat}{R:GR}{Q:Iv}{a:Act}
noncomputable def D1:Code:=.seq (.region 13 M8 false) (.seq (.region 14 M7 true) (.seq (.region 15 M6 false) (.region 16 M5 false)))
def zV:Tac:=[.int i64 0,.int i64 0,.int i64 0,.int i64 0,gJ,gJ,gJ,gJ]
def Me(hQ:QP Q)(gm:GM w S ow b (R.cells false) R (gB v l j))(h3:R.la=R.lb)(h0:R.va=R.vv)(hj:j<n)(hn:n<=5)(h1:1<=v)(f0:v+l<=5)(k:Kn 97 a [(8,.int i64 ((j+1:Nat):Int)),(5,aI b),(0,.int i64 n)])(d1:∀a W S' bT R',Kn 97 a [(8,.int i64 ((j+1:Nat):Int)),(5,aI b),(0,.int i64 n)]->bD LG aB w S ow W S' bT->GM W S' bT b (R'.cells false) R' (gB v l (j+1))->R'.la=R'.lb->R'.va=R'.vv->Q .normal a W):D1.wp Try.prog Q a w:=by
 unfold D1;have o:=gm.wf;have f2:(gB v l j).ew.length=j:=by unfold gB;simp
 have g9:(gB v l j).aX.length=j:=by unfold gB;simp
 refine wp_seq (rg (fun t=>ow t=some 10) hQ aa7 ?_);intro w1 e1;have E:=gm.O e1;have d8:=(bD.refl LG aB w S ow).Y o o e1;have s0:=SX.refl (fun t=>ow t=some 10) w1;have C:¬ow b=some 10:=by rw[E.obj.ow];decide
 repeat (first|refine sm k fun a k=>?_|refine ld k (E.cell C rfl) fun a k=>?_)
 refine mM (ps:=[]) (vs:=zV) k (by assumption) rfl (by decide) rfl (by kernel_rfl) fun a k=>?_;refine mn (kk:=8) (T:=65) k (by decide) rfl (by decide) rfl (by kernel_rfl) rfl (fun _=>SX.alloc _ _ _) fun a k=>?_;obtain⟨r,z⟩:=bD.alloc E.wf (.cells (Value.agg zV.toArray).cells 65);have x:=E.J r z;refine nk k (by decide) rfl (by decide) fun ty c4 af=>?_
 obtain⟨v',w',p,bT,D,c7,d0⟩:=x.saved.E0 (P:=Try.prog) (tt:=55) (by kernel_rfl) rfl z ty w1.heap.size (d:=uK) AZ (us:=zV) rfl (heap_alloc_new w1 _) (by
  intro q u c f m
  match q,f,m with
  |0,f,m=>injection f with f;injection m with m;subst f m;exact .int _ _
  |1,f,m=>injection f with f;injection m with m;subst f m;exact .int _ _
  |2,f,m=>injection f with f;injection m with m;subst f m;exact .int _ _
  |3,f,m=>injection f with f;injection m with m;subst f m;exact .int _ _
  |4,f,m=>injection f with f;injection m with m;subst f m;exact .nil _ _
  |5,f,m=>injection f with f;injection m with m;subst f m;exact .nil _ _
  |6,f,m=>injection f with f;injection m with m;subst f m;exact .nil _ _
  |7,f,m=>injection f with f;injection m with m;subst f m;exact .nil _ _) (Gx (by unfold gB;simp;omega))
 have s1:SX (fun t=>ow t=some 10) w1 w':=(SX.alloc _ _ _).trans (SX.iw (fun _ h=>h) D);refine⟨v',w',ic (k.op rfl) (k.op rfl) p,fun _=>s1,fun a k=>?_⟩;have b1:=x.Cl D c7 d0;obtain⟨Av,cv,f1⟩:=d0.slice
 repeat refine sm k fun a k=>?_
 refine jw (cur:=R.cells false) k (by decide) rfl (by kernel_rfl) rfl rfl (by rw[f1];rfl) b1.obj.heap (by show 3<11;omega) (by rw[f1];rfl) (fun h=>absurd rfl h) fun a k=>?_;refine ay ?_;obtain⟨c3,a3,e2⟩:=b1.obj.set c7 (us:=(R.cells false).set (0+3) v');have U:=b1.setObj c3 a3 e2;have Z:=((d8.Z o E.wf r nE).eY o z D (.inl (by decide))).eY o c7 c3 (.inl (by decide));have k:=k.sb (l:=[(8,.int i64 ((j+1:Nat):Int)),(5,aI b),(0,.int i64 n)]);generalize a6:({R with saved:=v'}:GR)=A at U;have b7:A.la=A.lb:=by rw[<-a6];exact h3
 have e7:A.va=A.vv:=by rw[<-a6];exact h0
 have g1:(R.cells false).set (0+3) v'=A.cells false:=by rw[<-a6];rfl
 rw[g1]at U;clear c3 D r d8 b1 x E s1 s0 e1 d0 p a6 gm e2;rw[g1]at Z a3⊢;generalize w'.setRow _ _=w4 at U Z a3⊢;refine wp_seq (jy (n0:=11) (fun t=>bT t=some (1000+j)\/bT t=some 1) mix (by exact hQ) aa6 (fun _=>by kernel_rfl) ?_);intro w5 e5;have B:=U.O e5;have d7:=Z.Y o a3 e5;have s0:=SX.refl (fun t=>bT t=some (1000+j)\/bT t=some 1) w5
 have C:¬(bT b=some (1000+j)\/bT b=some 1):=by rw[B.obj.ow];rintro(h|h)<;>injection h with h<;>omega
 repeat refine sm k fun a k=>?_
 refine ld k (B.cell C (j:=2) rfl) fun a k=>?_
 repeat refine sm k fun a k=>?_
 refine lN (vs:=[A.fv,A.fl]) k rfl rfl (fun w' e3 q v hv=>by
  match q,hv with
  |0,hv=>injection hv with hv;subst hv;exact B.cell C (j:=0) rfl w' e3
  |1,hv=>injection hv with hv;subst hv;exact B.cell C (j:=1) rfl w' e3) fun a k=>?_
 refine mM (ps:=[]) (vs:=zV) k (by assumption) rfl (by decide) rfl (by kernel_rfl) fun a k=>?_;have f7:ny ((j+1:Nat):Int) 1 5=true:=by simp only[ny,aT,bk];omega
 have f8:jX i64 ((j+1:Nat):Int):=⟨by have:i64.min=-9223372036854775808:=rfl;omega,by have:i64.max=9223372036854775807:=rfl;omega⟩;have d2:(iD 0 0 [] 0 0 []).2=[]:=rfl
 have M:=Lw (l:=1000+j) (id:=((j+1:Nat):Int)) (term:=0) (vote:=0) (fv:=Jt v) (fl:=Mk v l) (es:=[]) (c0:=A.fv) (c1:=A.fl) (s4:=gJ) (s5:=gJ) (s6:=gJ) (s7:=gJ) B.wf (by omega) f7 f8
  (.agg [A.fv,A.fl] _ rfl (fun q u y f hy=>by
   match q,f,hy with
   |0,f,hy=>injection f with f;injection hy with hy;subst f hy;exact B.fv
   |1,f,hy=>injection f with f;injection hy with hy;subst f hy;exact B.fl)) (FU f0) (Ar h1 f0)
  (.agg [.int i64 0,.int i64 0,.int i64 0,.int i64 0,gJ,gJ,gJ,gJ] _ rfl (fun q u c f m=>by
   match q,f,m with
   |0,f,m=>injection f with f;injection m with m;subst f m;exact .int _ _
   |1,f,m=>injection f with f;injection m with m;subst f m;exact .int _ _
   |2,f,m=>injection f with f;injection m with m;subst f m;exact .int _ _
   |3,f,m=>injection f with f;injection m with m;subst f m;exact .int _ _
   |4,f,m=>injection f with f;injection m with m;subst f m;exact .nil _ _
   |5,f,m=>injection f with f;injection m with m;subst f m;exact .nil _ _
   |6,f,m=>injection f with f;injection m with m;subst f m;exact .nil _ _
   |7,f,m=>injection f with f;injection m with m;subst f m;exact .nil _ _)) AZ (by decide) (by decide) (by decide) (by decide) (by rw[d2];decide) (by decide) (by rw[d2];decide)
 rw[d2]at M;refine gV (vs:=[.int i64 ((j+1:Nat):Int),.agg [A.fv,A.fl].toArray,.agg zV.toArray]) k (by decide) rfl (by decide) Kq rfl M ?_;rintro e w6 ⟨bs,S6,ow6,rfl,yT,KH,aav,hbs⟩;have s6:SX (fun t=>bT t=some (1000+j)\/bT t=some 1) w5 w6:=SX.iw (fun _ h=>.inl h) yT;refine⟨_,rfl,fun _=>s6,fun a k=>?_⟩;have d4:=B.G8 yT KH (by show(gB v l j).ew.length<=j;omega) (by show(gB v l j).aX.length<=5;omega);have d6:=d7.eY o B.wf yT (.inr (by omega));refine mn (kk:=1) (T:=52) k (by decide) rfl (by decide) rfl (by kernel_rfl) rfl (fun _=>s6.trans (SX.alloc _ _ _)) fun a k=>?_;obtain⟨r,z⟩:=bD.alloc KH (.cells (aI bs).cells 52);have x:=d4.J r z;have b4:=aav.J KH z r (fun h=>h) rfl;have h2:A.la.length=j:=by rw[b7];exact d4.rn.trans f2
 refine nk k (by decide) rfl (by decide) fun ty c4 af=>?_;obtain⟨v7,w7,p,G,F,K,f4⟩:=x.arr.mq (P:=Try.prog) (tt:=54) (u:=aI bs) (by kernel_rfl) z ty ⟨w6.heap.size,0,none⟩ 1 (ja (vs:=[aI bs]) (heap_alloc_new w6 _) rfl) rfl (by rw[ao,h2];omega);have s7:SX (fun t=>bT t=some (1000+j)\/bT t=some 1) w5 w7:=(s6.trans (SX.alloc _ _ _)).trans (SX.iw (fun t h=>(yT.iw t 1 h).elim .inr (fun e=>by simp only[iI]at e;omega)) F);refine⟨v7,w7,ic (k.op rfl) (k.op rfl) p,fun _=>s7,fun a k=>?_⟩;have L:kj w7 G 1 52 v7 ((A.la++[bs]).map aI):=by rw[ck];exact f4
 have b0:=x.Oi F K L;have b6:=b4.J z K F cu rfl;obtain⟨i0,h7,e8⟩:=L.slice
 repeat refine sm k fun a k=>?_
 refine jw (cur:=A.cells false) k (by decide) rfl (by kernel_rfl) rfl rfl (by rw[e8];rfl) b0.obj.heap (by show 2<11;omega) (by rw[e8];rfl) (fun h=>absurd rfl h) fun a k=>?_;refine ay ?_;obtain⟨a0,J,e0⟩:=b0.obj.set K (us:=(A.cells false).set (0+2) v7);have g3:=b0.setObj a0 J e0;have b5:=b6.J K J a0 cu rfl
 have O:=g3.XZ (bs:=bs) (s:=G8 v l j) (by
  have e:1000+({gB v l j with saved:=(gB v l j).saved++[uK]}:GS).ew.length=1000+j:=by show 1000+(gB v l j).ew.length=1000+j;rw[f2]
  rw[e];exact b5)
 have Y:=((d6.Z o KH r nE).eY o z F (.inl (by decide))).eY o K a0 (.inl (by decide));have k:=k.sb (l:=[(8,.int i64 ((j+1:Nat):Int)),(5,aI b),(0,.int i64 n)]);generalize a5:({A with l:=v7,la:=A.la++[bs],lb:=A.lb++[bs]}:GR)=R2 at O;have f6:R2.la=R2.lb:=by rw[<-a5];show A.la++[bs]=A.lb++[bs];rw[b7]
 have b2:R2.va=R2.vv:=by rw[<-a5];exact e7
 have g0:(A.cells false).set (0+2) v7=R2.cells false:=by rw[<-a5];rfl
 rw[g0]at O;clear a0 F r d6 yT d7 g3 b0 x d4 B U s6 s7 s0 e5 f4 L p a5 aav b4 b6 b5 e0 Z M;rw[g0]at Y J⊢;generalize w7.setRow _ _=w8 at O Y J⊢;refine wp_seq (rg (fun t=>G t=some 2) hQ aa5 ?_);intro w9 e9;have x:=O.O e9;have qp:=Y.Y o J e9;have s0:=SX.refl (fun t=>G t=some 2) w9;have C:¬G b=some 2:=by rw[x.obj.ow];decide
 repeat (first|refine sm k fun a k=>?_|refine ld k (x.cell C rfl) fun a k=>?_)
 refine mn (kk:=1) (T:=29) k (by decide) rfl (by decide) rfl (by kernel_rfl) rfl (fun _=>SX.alloc _ _ _) fun a k=>?_;obtain⟨r,z⟩:=bD.alloc x.wf (.cells gJ.cells 29);have a9:=x.J r z;have g8:R2.va.length=j:=by rw[b2];exact a9.xH.trans g9
 refine nk k (by decide) rfl (by decide) fun ty c4 af=>?_;obtain⟨va,wa,p,a1,V,c6,c9⟩:=a9.oH.mq (P:=Try.prog) (tt:=57) (u:=gJ) (by kernel_rfl) z ty ⟨w9.heap.size,0,none⟩ 1 (ja (vs:=[gJ]) (heap_alloc_new w9 _) rfl) rfl (by rw[g8];omega);have s1:SX (fun t=>G t=some 2) w9 wa:=(SX.alloc _ _ _).trans (SX.iw (fun _ h=>h) V);refine⟨va,wa,ic (k.op rfl) (k.op rfl) p,fun _=>s1,fun a k=>?_⟩;have a8:=a9.Og V c6 c9;obtain⟨h9,h6,b3⟩:=c9.slice
 repeat refine sm k fun a k=>?_
 refine jw (cur:=R2.cells false) k (by decide) rfl (by kernel_rfl) rfl rfl (by rw[b3];rfl) a8.obj.heap (by show 7<11;omega) (by rw[b3];rfl) (fun h=>absurd rfl h) fun a k=>?_;refine ay ?_;obtain⟨b9,a2,d9⟩:=a8.obj.set c6 (us:=(R2.cells false).set (0+7) va);have a7:=(a8.setObj b9 a2 d9).RP (by show(gB v l j).aX.length<=5;omega);have c2:=((qp.Z o x.wf r nE).eY o z V (.inl (by decide))).eY o c6 b9 (.inl (by decide));have k:=k.sb (l:=[(8,.int i64 ((j+1:Nat):Int)),(5,aI b),(0,.int i64 n)]);generalize a4:({R2 with aX:=va,va:=R2.va++[gJ],vv:=R2.vv++[gJ]}:GR)=R3 at a7;have f5:R3.la=R3.lb:=by rw[<-a4];exact f6
 have e6:R3.va=R3.vv:=by rw[<-a4];show R2.va++[gJ]=R2.vv++[gJ];rw[b2]
 have f9:(R2.cells false).set (0+7) va=R3.cells false:=by rw[<-a4];rfl
 rw[f9]at a7;clear b9 V r qp a8 a9 x O s1 s0 e9 c9 p a4 d9 Y;rw[f9]at c2 a2⊢;generalize wa.setRow _ _=wc at a7 c2 a2⊢;refine rg (fun t=>a1 t=some 14) hQ aa4 ?_;intro wd ed;have N:=a7.O ed;have g4:=c2.Y o a2 ed;have s0:=SX.refl (fun t=>a1 t=some 14) wd;have C:¬a1 b=some 14:=by rw[N.obj.ow];decide
 repeat (first|refine sm k fun a k=>?_|refine ld k (N.cell C rfl) fun a k=>?_)
 refine mn (kk:=1) (T:=3) k (by decide) rfl (by decide) rfl (by kernel_rfl) rfl (fun _=>SX.alloc _ _ _) fun a k=>?_;obtain⟨r,I⟩:=bD.alloc N.wf (.cells (Value.int i64 0).cells 3);have g2:=N.J r I;refine nk k (by decide) rfl (by decide) fun ty c4 af=>?_
 obtain⟨vf,wf,p,g5,b8,H,f3⟩:=g2.cO.E0 (P:=Try.prog) (tt:=29) (by kernel_rfl) rfl I ty wd.heap.size (d:=.int i64 0) ⟨0,rfl,by decide⟩ (us:=[.int i64 0]) rfl (heap_alloc_new wd _) (by
   intro j u c f m
   match j,f,m with
   |0,f,m=>injection f with f;injection m with m;subst f m;exact .int _ _) (nK (by unfold gB;simp;omega))
 have s1:SX (fun t=>a1 t=some 14) wd wf:=(SX.alloc _ _ _).trans (SX.iw (fun _ h=>h) b8);refine⟨vf,wf,ic (k.op rfl) (k.op rfl) p,fun _=>s1,fun a k=>?_⟩;have d3:=g2.Ck b8 H f3;obtain⟨h8,h5,e4⟩:=f3.slice
 repeat refine sm k fun a k=>?_
 refine jw (cur:=R3.cells false) k (by decide) rfl (by kernel_rfl) rfl rfl (by rw[e4];rfl) d3.obj.heap (by show 8<11;omega) (by rw[e4];rfl) (fun h=>absurd rfl h) fun a k=>?_;refine ay ?_;obtain⟨d5,g7,g6⟩:=d3.obj.set H (us:=(R3.cells false).set (0+8) vf);have h4:=d3.setObj d5 g7 g6;refine d1 _ _ S6 g5 {R3 with cO:=vf} (k.sb) (((g4.Z o N.wf r nE).eY o I b8 (.inl (by decide))).eY o H d5 (.inl (by decide))) ?_ f5 e6;rw[Rt];exact h4
end
section
variable{w w0:Tam}{S S0:bE}{ow:Ow}{b n v l:Nat}{R:GR}{Q:Iv}{a:Act}
def _root_.Go.dF.Wf.O{c:Tam}(h:Wf w S ow)(e:vm w c):Wf c S ow:=⟨fun b o f=>by rw[e.heap];exact h.s b o f,fun b l g=>by rw[e.heap];exact h.o b l g,h.d⟩
noncomputable def We:Code:=.seq (.seq (.region 10 Nb false) (.block 4 (.loop (.seq (.seq (.region 11 Na false) (.cond (.tmp 49) .skip (.exit 4))) (.seq (.block 5 D1) (.region 12 M9 false)))))) (.seq (.region 17 M4 false) .ret)
def Md(U:n=v+l)(B:1<=v)(P:v+l<=5)(d:Wf w0 S0 (fun _=>none))(O:bD LG aB w0 S0 (fun _=>none) w S ow)(I:GM w S ow b (R.cells false) R (gB v l 0))(C:R.la=R.lb)(A:R.va=R.vv)(k:Kn 97 a [(5,aI b),(0,.int i64 n)]):
  We.wp Try.prog (nO w0 S0 v l) a w:=by
 have r:QP (nO w0 S0 v l):=jD;unfold We;refine wp_seq (wp_seq (rg aB r aba ?_));intro G E;have e:=I.O E;have u:=SX.refl aB G
 repeat refine sm k fun a k=>?_
 refine ay ?_;have f:=O.Y d I.wf E
 refine wp_block (wp_loop_ghost (fun H a W=>∃(j:Nat) (x:bE) (g:Ow) (i:GR),H=n-j/\j<=n/\Kn 97 a [(8,.int i64 ((j+1:Nat):Int)),(5,aI b),(0,.int i64 n)]/\bD LG aB w0 S0 (fun _=>none) W x g/\
  GM W x g b (i.cells false) i (gB v l j)/\i.la=i.lb/\i.va=i.vv) (n-0)
  ⟨0,S,ow,R,rfl,aF _,k.sb,f,e,C,A⟩ ?_)
 clear k e f u E G;rintro H a W ⟨j,x,g,i,rfl,hjn,k,f,e,aax,aat⟩;refine wp_seq (wp_seq (rg aB r aa9 ?_));intro N L;have h:=e.O L;have m:=f.Y d e.wf L;have u:=SX.refl aB N
 repeat refine sm k fun a k=>?_
 refine cm (c:=decide (((j+1:Nat):Int)<=(n:Int))) k rfl rfl rfl fun a k=>?_;refine ay (bf k rfl ?_);have k:=k.sb (l:=[(8,.int i64 ((j+1:Nat):Int)),(5,aI b),(0,.int i64 n)]);by_cases p:((j+1:Nat):Int)<=(n:Int)
 .rw[if_pos (by simpa using p)];refine wp_skip ?_;refine wp_seq (wp_block (Me (by exact r) h aax aat (by omega) (by omega) B P k ?_));intro a F T z R3 k y t q o;refine rg aB r aa8 ?_;intro M J;have u:=SX.refl aB M
  repeat refine sm k fun a k=>?_
  refine iK (s:=((j+1+1:Nat):Int)) k (by assumption) rfl (by decide) rfl rfl (wrap64 (by omega) (by omega)) fun a k=>?_
  repeat refine sm k fun a k=>?_
  refine ay ⟨n-(j+1),by omega,j+1,T,z,R3,rfl,by omega,k.sb,(kM d h.wf m y nE).Y d t.wf J,t.O J,q,o⟩
 rw[if_neg (by simpa using p)];refine wp_exit ?_;have D:j=v+l:=by omega
 subst D;refine wp_seq (rg aB r aa3 ?_);intro F K;have u:=SX.refl aB F
 repeat refine sm k fun a k=>?_
 refine ay (wp_ret (r9 aeY k rfl ⟨b,x,g,rfl,m.Y d h.wf K,i,h.O K,aax,aat⟩).1)
noncomputable def aaI:Code:=.seq (.seq (.region 6 VM false) (.block 2 (.loop (.seq (.seq (.region 7 VL false) (.cond (.tmp 32) .skip (.exit 2))) (.seq (.block 3 (.region 9 VJ false)) (.region 8 VK false)))))) We
def Mf{x:Tan}(a9:1<=v)(h5:v+l<=5)(q:Wf w0 S0 (fun _=>none))(st:bD LG aB w0 S0 (fun _=>none) w S ow)(g:Wf w S ow)(ob:uG w ow 0 b 59 ((R0 x gJ).cells false))(hx:cg w S x (.list (Jt v)))(k:Kn 97 a [(5,aI b),(1,.int i64 v),(0,.int i64 ((v+l:Nat):Int))]):
  aaI.wp Try.prog (nO w0 S0 v l) a w:=by
 have hQ:QP (nO w0 S0 v l):=jD;unfold aaI;refine wp_seq (wp_seq (rg aB hQ ae5 ?_));intro w1 e1;have s0:=SX.refl aB w1
 repeat refine sm k fun a k=>?_
 refine iK (s:=((v+1:Nat):Int)) k (by assumption) rfl (by decide) rfl rfl (wrap64 (by omega) (by omega)) fun a k=>?_
 repeat refine sm k fun a k=>?_
 refine ay ?_
 refine wp_block (wp_loop_ghost (fun mm a W=>∃(i:Nat) (e:Ow) (y:Tan),mm=l-i/\i<=l/\Kn 97 a [(7,.int i64 ((v+i+1:Nat):Int)),(5,aI b),(0,.int i64 ((v+l:Nat):Int))]/\bD LG aB w0 S0 (fun _=>none) W S e/\Wf W S e/\
  uG W e 0 b 59 ((R0 x y).cells false)/\cg W S x (.list (Jt v))/\dB W S e 20 3 I6 y (Mk v i)) (l-0)
  ⟨0,ow,gJ,rfl,aF _,k.sb,st.Y q g e1,g.O e1,ob.J (bD.O e1 aB aB S ow) (fun h=>h),hx.J (bD.O e1 aB aB S ow),dB.nil (by decide) (by omega)⟩ ?_)
 clear k s0 st g ob hx e1 w1;rintro mm a W ⟨i,e,y,rfl,hin,k,EC,YC,ob1,hx1,YG⟩;refine wp_seq (wp_seq (rg aB hQ ae4 ?_));intro w2 e2;have m:=YC.O e2;have G:=EC.Y q YC e2;have I:=ob1.J (bD.O e2 aB aB S e) (fun h=>h);have K:=hx1.J (bD.O e2 aB aB S e);have V:=YG.J YC (bD.O e2 aB aB S e) (fun h=>h);have s0:=SX.refl aB w2
 repeat refine sm k fun a k=>?_
 refine cm (c:=decide (((v+i+1:Nat):Int)<=((v+l:Nat):Int))) k rfl rfl rfl fun a k=>?_;refine ay (bf k rfl ?_);have k:=k.sb (l:=[(7,.int i64 ((v+i+1:Nat):Int)),(5,aI b),(0,.int i64 ((v+l:Nat):Int))]);by_cases X:((v+i+1:Nat):Int)<=((v+l:Nat):Int)
 .rw[if_pos (by simpa using X)];refine wp_skip ?_;refine wp_seq (wp_block (rg (fun E=>e E=some 20) hQ ae2 ?_));intro F e3;have C:=m.O e3;have a1:=G.Y q m e3;have p:=I.J (bD.O e3 aB aB S e) (fun h=>h);have a8:=K.J (bD.O e3 aB aB S e);have b3:=V.J m (bD.O e3 aB aB S e) (fun h=>h);have s0:=SX.refl (fun E=>e E=some 20) F;have a6:¬e b=some 20:=by rw[p.ow];decide
  have D:∀w',SX (fun E=>e E=some 20) F w'->w'.cell? ⟨b,0+1,none⟩=some y:=eP p.lt a6 (ja (j:=1) p.heap rfl)
  repeat (first|refine sm k fun a k=>?_|refine ld k (D) fun a k=>?_)
  refine mn (kk:=1) (T:=3) k (by decide) rfl (by decide) rfl (by kernel_rfl) rfl (fun _=>SX.alloc _ _ _) fun a k=>?_;obtain⟨r,L⟩:=bD.alloc C (.cells (Value.int i64 ((v+i+1:Nat):Int)).cells 3);have b2:=b3.J C r (fun h=>h);have a4:=p.J r id;have a7:=a8.J r;have b5:jX i64 ((v+i+1:Nat):Int):=⟨by have:i64.min=-9223372036854775808:=rfl;omega,by have:i64.max=9223372036854775807:=rfl;omega⟩;refine nk k (by decide) rfl (by decide) fun ty b6 af=>?_
  obtain⟨v',w',O,f,o,B,U⟩:=b2.E0 (P:=Try.prog) (tt:=29) (by kernel_rfl) rfl L ty F.heap.size (d:=.int i64 ((v+i+1:Nat):Int)) ⟨_,rfl,b5⟩ (us:=[.int i64 ((v+i+1:Nat):Int)]) rfl (heap_alloc_new F _) (by
   intro j u c N Y
   match j,N,Y with
   |0,N,Y=>injection N with N;injection Y with Y;subst N Y;exact .int _ _) (nK (by rw[Kh];omega))
  have s1:SX (fun E=>e E=some 20) F w':=(SX.alloc _ _ _).trans (SX.iw (fun _ h=>h) o);refine⟨v',w',ic (k.op rfl) (k.op rfl) O,fun _=>s1,fun a k=>?_⟩;have H:=a4.J o cu;have J:=a7.J o;obtain⟨Av,cv,M⟩:=U.slice
  repeat refine sm k fun a k=>?_
  refine jw (cur:=(R0 x y).cells false) k (by decide) rfl (by kernel_rfl) rfl rfl (by rw[M];rfl) H.heap (by show 1<11;omega) (by rw[M];rfl) (fun h=>absurd rfl h) fun a k=>?_;refine ay ?_;obtain⟨z,A,a3⟩:=H.set B (us:=((R0 x y).cells false).set (0+0+1) v');have b1:=U.J B z cu;have a5:=J.J z;have a0:=((a1.Z q C r nE).eY q L o (.inl (by decide))).eY q B z (.inl (by decide));have k:=k.sb (l:=[(7,.int i64 ((v+i+1:Nat):Int)),(5,aI b),(0,.int i64 ((v+l:Nat):Int))]);refine rg aB hQ ae3 ?_;intro w4 Z;have s0:=SX.refl aB w4
  repeat refine sm k fun a k=>?_
  refine iK (s:=((v+(i+1)+1:Nat):Int)) k (by assumption) rfl (by decide) rfl rfl (wrap64 (by omega) (by omega)) fun a k=>?_
  repeat refine sm k fun a k=>?_
  refine ay ⟨l-(i+1),by omega,i+1,f,v',rfl,by omega,k.sb,a0.Y q A Z,A.O Z,a3.J (bD.O Z aB aB S f) (fun h=>h),a5.J (bD.O Z aB aB S f),?_⟩;rw[Pn];exact b1.J A (bD.O Z aB aB S f) (fun h=>h)
 rw[if_neg (by simpa using X)];refine wp_exit ?_;have b4:i=l:=by omega
 subst b4;obtain⟨S',f,t,g,b0,_⟩:=V.freeze m;have a2:=I.J t cu;exact Md rfl a9 h5 q (G.eY q m t (.inl (by decide))) (GM.begin g a2 (K.J t) b0) rfl rfl (k.sb)
end
def yo{w:Tam}{S:bE}{n l:Nat}(x:Wf w S (fun _=>none))(h1:1<=n)(h5:n+l<=5):Calls Try.prog 9 [.int i64 ((n+l:Nat):Int),.int i64 n].toArray w fun e w'=>∃b S' p,e=.returned (aI b)/\bD LG aB w S (fun _=>none) w' S' p/\kv w' S' p b (gB n l (n+l)):=by
 refine kD Try.func9 Sj acW nt9 (by show 2<=97;omega) ?_;intro a k;have U:QP (nO w S n l):=jD;show Code.wp Try.prog _ (nO w S n l) a w;refine wp_seq (rg aB U afb ?_);intro w1 e1;have H:=SX.refl aB w1
 repeat refine sm k fun a k=>?_
 refine ay ?_;have r:=x.O e1;have Z:bD LG aB w S (fun _=>none) w1 S (fun _=>none):=bD.O e1 LG aB S _;refine wp_seq (rg aB U afa ?_);intro E D;have m:=r.O D;have G:=Z.Y x r D;have H:=SX.refl aB E;refine mM (ps:=[]) (vs:=(R0 gJ gJ).cells false) k (by assumption) rfl (by decide) rfl (by kernel_rfl) fun a k=>?_;refine rW (us:=(R0 gJ gJ).cells false) k (by decide) rfl (by decide) rfl rfl (fun _=>SX.alloc _ _ _) fun a k=>?_;have s1:=SX.alloc aB E (.cells ((R0 gJ gJ).cells false).toArray 59)
 repeat refine sm k fun a k=>?_
 refine ay ?_;obtain⟨y,q⟩:=bD.alloc m (.cells ((R0 gJ gJ).cells false).toArray 59);have t:=fF.new m 59 ((R0 gJ gJ).cells false);have g:=G.Z x m y nE;have c2:w.heap.size<=E.heap.size:=G.size;generalize c4:E.heap.size=b at k t c2;generalize E.alloc _=A at t y q g⊢
 have C:Wf A S (fun k=>if k=b then some 0 else none):=by
  refine⟨q.s,?_,?_⟩
  .intro k l z;split at z
   .rename_i e;rw[e];exact t.lt
   cases z
  intro k o l hs z;split at z
  .rename_i e;rw[e]at hs;exact absurd hs (t.s o)
  cases z
 have qp:bD LG aB w S (fun _=>none) A S (fun k=>if k=b then some 0 else none):=by
  refine⟨g.size,g.os,g.tape,g.output,fun _ _ _ h _=>?_,g.free,g.jG,g.cell,fun _ _ h=>?_,g.new,fun k hk _=>if_neg (by omega),?_⟩
  .cases h
  .cases h
  intro k l z;split at z
  .injection z with z;subst z;exact .inr (.inl (by omega))
  cases z
 have J:uG A (fun k=>if k=b then some 0 else none) 0 b 59 ((R0 gJ gJ).cells false):=⟨t.heap,if_pos rfl,by omega⟩;generalize (fun k=>if k=b then some 0 else none:Ow)=I at C qp J;have k:=k.sb (l:=[(5,aI b),(1,.int i64 n),(0,.int i64 ((n+l:Nat):Int))]);clear y q t g s1 H G m D Z r e1;refine wp_seq (wp_seq (rg aB U ae9 ?_));intro w5 e5;have H:=SX.refl aB w5
 repeat refine sm k fun a k=>?_
 refine ay ?_;have Y:=qp.Y x C e5;have a2:=J.J (bD.O e5 aB aB S I) (fun h=>h)
 refine wp_block (wp_loop_ghost (fun mm a W=>∃(i:Nat) (f:Ow) (v:Tan),mm=n-i/\i<=n/\Kn 97 a [(6,.int i64 ((i+1:Nat):Int)),(5,aI b),(1,.int i64 n),(0,.int i64 ((n+l:Nat):Int))]/\bD LG aB w S (fun _=>none) W S f/\Wf W S f/\
  uG W f 0 b 59 ((R0 v gJ).cells false)/\dB W S f 20 3 I6 v (Jt i)) (n-0)
  ⟨0,I,gJ,rfl,aF _,k.sb,Y,C.O e5,a2,dB.nil (by decide) (by omega)⟩ ?_)
 clear k Y a2 H e5 w5 J qp C I;rintro mm a W ⟨i,f,v,rfl,hin,k,EC,r,ob1,YG⟩;refine wp_seq (wp_seq (rg aB U ae8 ?_));intro E D;have m:=r.O D;have a0:=EC.Y x r D;have a3:=ob1.J (bD.O D aB aB S f) (fun h=>h);have a8:=YG.J r (bD.O D aB aB S f) (fun h=>h);have H:=SX.refl aB E
 repeat refine sm k fun a k=>?_
 refine cm (c:=decide (((i+1:Nat):Int)<=(n:Int))) k rfl rfl rfl fun a k=>?_;refine ay (bf k rfl ?_);have k:=k.sb (l:=[(6,.int i64 ((i+1:Nat):Int)),(5,aI b),(1,.int i64 n),(0,.int i64 ((n+l:Nat):Int))]);by_cases a9:((i+1:Nat):Int)<=(n:Int)
 .rw[if_pos (by simpa using a9)];refine wp_skip ?_;refine wp_seq (wp_block (rg (fun O=>f O=some 20) U ae6 ?_));intro A e3;have q:=m.O e3;have y:=a0.Y x m e3;have B:=a3.J (bD.O e3 aB aB S f) (fun h=>h);have b9:=a8.J m (bD.O e3 aB aB S f) (fun h=>h);have H:=SX.refl (fun O=>f O=some 20) A;have b4:¬f b=some 20:=by rw[B.ow];decide
  have N:∀w',SX (fun O=>f O=some 20) A w'->w'.cell? ⟨b,0,none⟩=some v:=eP B.lt b4 (ja (j:=0) B.heap rfl)
  repeat (first|refine sm k fun a k=>?_|refine ld k (N) fun a k=>?_)
  refine mn (kk:=1) (T:=3) k (by decide) rfl (by decide) rfl (by kernel_rfl) rfl (fun _=>SX.alloc _ _ _) fun a k=>?_;obtain⟨M,a4⟩:=bD.alloc q (.cells (Value.int i64 ((i+1:Nat):Int)).cells 3);have b8:=b9.J q M (fun h=>h);have b3:=B.J M id;have c1:jX i64 ((i+1:Nat):Int):=⟨by have:i64.min=-9223372036854775808:=rfl;omega,by have:i64.max=9223372036854775807:=rfl;omega⟩;refine nk k (by decide) rfl (by decide) fun ty c3 af=>?_
  obtain⟨v',w',a6,p,F,L,a7⟩:=b8.E0 (P:=Try.prog) (tt:=29) (by kernel_rfl) rfl a4 ty A.heap.size (d:=.int i64 ((i+1:Nat):Int)) ⟨_,rfl,c1⟩ (us:=[.int i64 ((i+1:Nat):Int)]) rfl (heap_alloc_new A _) (by
   intro j u c hu hc
   match j,hu,hc with
   |0,hu,hc=>injection hu with hu;injection hc with hc;subst hu hc;exact .int _ _) (nK (by rw[Kj];omega))
  have s1:SX (fun O=>f O=some 20) A w':=(SX.alloc _ _ _).trans (SX.iw (fun _ h=>h) F);refine⟨v',w',ic (k.op rfl) (k.op rfl) a6,fun _=>s1,fun a k=>?_⟩;have a1:=b3.J F cu;obtain⟨Av,cv,a5⟩:=a7.slice
  repeat refine sm k fun a k=>?_
  refine jw (cur:=(R0 v gJ).cells false) k (by decide) rfl (by kernel_rfl) rfl rfl (by rw[a5];rfl) a1.heap (by show 0<11;omega) (by rw[a5];rfl) (fun h=>absurd rfl h) fun a k=>?_;refine ay ?_;obtain⟨X,K,b2⟩:=a1.set L (us:=((R0 v gJ).cells false).set (0+0+0) v');have b7:=a7.J L X cu;have b0:=((y.Z x q M nE).eY x a4 F (.inl (by decide))).eY x L X (.inl (by decide));have k:=k.sb (l:=[(6,.int i64 ((i+1:Nat):Int)),(5,aI b),(1,.int i64 n),(0,.int i64 ((n+l:Nat):Int))]);refine rg aB U ae7 ?_;intro w4 e4;have H:=SX.refl aB w4
  repeat refine sm k fun a k=>?_
  refine iK (s:=((i+1+1:Nat):Int)) k (by assumption) rfl (by decide) rfl rfl (wrap64 (by omega) (by omega)) fun a k=>?_
  repeat refine sm k fun a k=>?_
  refine ay ⟨n-(i+1),by omega,i+1,p,v',rfl,by omega,k.sb,b0.Y x K e4,K.O e4,b2.J (bD.O e4 aB aB S p) (fun h=>h),?_⟩;rw[Px];exact b7.J K (bD.O e4 aB aB S p) (fun h=>h)
 rw[if_neg (by simpa using a9)];refine wp_exit ?_;have c0:i=n:=by omega
 subst c0;obtain⟨S',p,V,b5,b6,_⟩:=a8.freeze m;have b1:=a3.J V cu;exact Mf h1 h5 x (a0.eY x m V (.inl (by decide))) b5 b1 b6 (k.sb)
def RU(s:RS)(k:Nat):Bool:=gn s.li s.lt s.le&&decide (1<=s.id)&&decide (s.id<=5)&&decide (s.le.length+k<=1073741824)&&decide (s.msgs.length+k<=4294967296)&&decide (s.dX.length+k<=4294967296)&&decide (s.bM.length+k*1073741824<=274877906944)&&
 decide (s.aX.length+k<=4294967296)&&gF (.agg [.list s.fv,.list s.fl])&&(decide (s.li<=0)||gF (.agg [.list s.sv,.list s.sl]))&&eW s.le&&decide (0<=s.term)&&decide (s.term<=MX)&&s.reads.isEmpty
def zB{s:RS}{k:Nat}(h:RU s k=true):Ok s k:=by simp only[RU,aT,bk,bW,List.isEmpty_iff]at h;obtain⟨⟨⟨⟨⟨⟨⟨⟨⟨⟨⟨⟨⟨u,t⟩,r⟩,q⟩,p⟩,o⟩,n⟩,m⟩,l⟩,j⟩,f⟩,e⟩,d⟩,c⟩:=h;exact⟨u,t,r,q,p,o,by unfold G;exact n,m,l,fun v=>j.resolve_left (by omega),f,e,d,c⟩
def Ou{s:RS}{k:Nat}(h:Ok s k):RU s k=true:=by
 simp only[RU,aT,bk,bW,List.isEmpty_iff];refine⟨⟨⟨⟨⟨⟨⟨⟨⟨⟨⟨⟨⟨h.may,h.uA⟩,h.vj⟩,h.rI⟩,h.nm⟩,h.ne⟩,?_⟩,h.nv⟩,h.cf⟩,?_⟩,h.cl⟩,h.tm⟩,h.tx⟩,h.rd⟩
 .have:=h.nc;unfold G at this;exact this
 by_cases c:0<s.li
 .exact .inr (h.cs c)
 exact .inl (by omega)
def Yw(g:GS):Bool:=decide (g.ew.length<=5)&&decide (g.cO.length=g.ew.length)&&decide (g.aX.length=g.ew.length)&&decide (g.saved.length=g.ew.length)&&decide (g.bG.length<=2000000)&&g.aX.all fun l=>decide (l.length<=2000000)
def XC{g:GS}(h:Yw g=true):uI g:=by simp only[Yw,aT,bk,bY]at h;obtain⟨⟨⟨⟨⟨k,j⟩,f⟩,e⟩,d⟩,c⟩:=h;exact⟨k,j,f,e,d,c⟩
def XD{g:GS}(h:uI g):Yw g=true:=by simp only[Yw,aT,bk,bY];exact⟨⟨⟨⟨⟨h.n5,h.cO⟩,h.aX⟩,h.saved⟩,h.lead⟩,h.vl⟩
def UQ(i:Nat)(o:D)(g:GS):Bool:=Yw g&&decide (i<g.ew.length)&&RU (cG g i) 0&&decide ((cD 7 (g.saved.getD i .top)).A.length+(cD 3 o).A.length<=300000000000)&&decide ((cD 5 o).A.length<=5000000000)&&
 ((cD 6 o).A.all fun x=>decide (0<=(cD 0 x).q)&&decide ((cD 0 x).q<=300000000000))&&decide (g.told.length<=300000000001)
section
variable{w:Tam}{S:bE}{ow:Ow}{b i:Nat}{g:GS}{Q:Iv}{a:Act}
def qG{vo:Tan}{o:D}{lost:Bool}(h:kv w S ow b g)(f:pC ow)(e:cg w S vo o)(d:Has zk o)(c:UQ i o g=true):
  Calls Try.prog 14 [aI b,.int i64 i,vo,.bool lost].toArray w (rD w S ow b (oX i o lost g)):=by simp only[UQ,aT,bk,bY]at c;obtain⟨⟨⟨⟨⟨⟨q,p⟩,n⟩,m⟩,l⟩,k⟩,j⟩:=c;exact IC h f (XC q) p (zB n) e d m l k j
def hJ(i:Nat)(s:RS)(g:GS):GS:={g with ew:=g.ew.set i s}
def Fa(i:Nat)(x:Int)(g:GS):GS:=oX i (jz x (cG g i)).1 false (hJ i (jz x (cG g i)).2 g)
def Hr(i:Nat)(x:Int)(g:GS):Bool:=decide (i<g.ew.length)&&decide (g.aX.length<=5)&&RU (cG g i) 20&&UQ i (jz x (cG g i)).1 (hJ i (jz x (cG g i)).2 g)
def tU(m:D):Nat:=((cD 2 m).q-1).toNat
def Jr(m:D)(g:GS):Bool:=decide (1<=(cD 2 m).q)&&decide ((cD 2 m).q<=g.ew.length)
def qa(m:D)(g:GS):GS:=if Jr m g then oX (tU m) (jo m (cG g (tU m))).1 false (hJ (tU m) (jo m (cG g (tU m))).2 g) else g
def zp(m:D)(g:GS):Bool:= !Jr m g||(decide (g.aX.length<=5)&&decide (g.ew.length<=5)&&RU (cG g (tU m)) (20+(cD 12 m).A.length)&&decide ((cD 12 m).A.length<=2147483648)&&UQ (tU m) (jo m (cG g (tU m))).1 (hJ (tU m) (jo m (cG g (tU m))).2 g))
def Qj(g:GS):GS:=g.net.foldl (fun g m=>qa m g) {g with net:=[]}
def uf:Taf->GS->Bool
 |[],_=>true
 |m::r,g=>zp m g&&uf r (qa m g)
def iG(hi:i<g.ew.length):g.ew[i]?=some (cG g i):=by unfold cG;rw[ae,aS hi];rfl
def I3{j:Int}(X:QP Q)(h:kv w S ow b g)(V:pC ow)(p:Hr 0 0 g=true)(k:Kn 54 a [(2,.int i64 j),(1,aI b)])(d:∀a W P m,Kn 54 a [(2,.int i64 j),(1,aI b)]->bD LG aB w S ow W P m->kv W P m b (Fa 0 0 g)->Q .normal a W):(Code.region 5 Nz false).wp Try.prog Q a w:=by
 obtain⟨R,r,f,A⟩:=h;simp only[Hr,aT,bk]at p;obtain⟨⟨⟨F,B⟩,o⟩,n⟩:=p;refine rg (fun M=>ow M=some 1000) X abN ?_;intro T O;have c:=r.O O;have x:=(bD.refl LG aB w S ow).Y r.wf r.wf O;have s0:=SX.refl (fun M=>ow M=some 1000) T;have z:¬ow b=some 1000:=by rw[c.obj.ow];decide
 obtain⟨L,q,D,U⟩:=c.ew 0 _ (iG F);obtain⟨Z,Y,J,H,C,G⟩:=c.arr.elem (i:=0) (u:=aI L) (by rw[f,ab,q];rfl);have I:(R.la.map aI).length=g.ew.length:=by rw[ao,f];exact c.rn
 have y:¬ow Z=some 1000:=by rw[C];decide
 repeat (first|refine sm k fun a k=>?_|refine ld k (c.cell z rfl) fun a k=>?_)
 rw[J]at k;refine Db (el:=52) (sz:=1) (s:=0) k (by assumption) rfl (by decide) rfl rfl (by kernel_rfl) (by kernel_rfl) (by rw[I];exact F) fun a k=>?_;refine ky (v:=aI L) k (by assumption) rfl (by decide) rfl (by kernel_rfl) (by kernel_rfl) (eP H y (by rw[bK];exact G)) fun a k=>?_;refine gV (vs:=[aI L,.int i64 0]) k (by decide) rfl (by decide) YM.enter rfl (xm D c.wf (by omega) (by decide) (zB o)) ?_;rintro e w2 ⟨v,S2,EO,rfl,nf,ud,EW,YF,UY⟩;refine⟨_,rfl,fun _=>SX.iw (fun _ h=>h) nf,fun a k=>?_⟩;have K:=c.uJ (i:=0) nf ud F q EW (fE EW) B;have t:=x.eY r.wf c.wf nf (.inr (by omega));have E:pC EO:=V.J nf (fun l N=>by simp only[iI]at N;subst N;exact .inr (by omega));refine gV (vs:=[aI b,.int i64 ((0:Nat):Int),v,.bool false]) k (by decide) rfl (by decide) qL rfl (qG (g:=hJ 0 (jz 0 (cG g 0)).2 g) ⟨_,K,f,A⟩ E YF UY n) ?_;rintro e w4 ⟨S4,UP,rfl,rH,hg4⟩;refine⟨_,rfl,fun h=>absurd rfl h,fun a k=>?_⟩;exact ay (d _ _ S4 UP (k.sb) (kM r.wf ud t rH nE) hg4)
end
end Go.Proofs.Ytjhmkaninmgilaa
namespace Go.Proofs.Ytjhmkaninmgilaa
open Go Go.RowKit Go.dF Go.Proofs
variable{w w':Wd}{s t:RS}{lg:Taf}{g:GS}{i:Nat}{x:D}
structure EG(w:Wd)(g:GS):Prop where
 ok:CY w
 ew:∀(i:Nat) s,g.ew[i]?=some s->s.id=(i:Int)+1/\0<=s.term/\∃lg,fb w s.id lg s.role s
 net:∀m∈g.net,uH w m
 told:∀(i:Nat) y,g.told[i]?=some y->ix y=0\/ix y=i/\Ce w y
 lead:∀T:Nat,iC g.bG T≠0->w.ll T≠[]/\w.ld T=iC g.bG T
 oH:∀i T:Nat,iC (g.aX.getD i []) T≠0->w.gr T (iC (g.aX.getD i []) T) ((i:Int)+1)
 PR:∀(i:Nat) s,g.ew[i]?=some s->iC g.cO i<=s.term
 bad:g.bad=false
def Sf(ms:Taf)(g:GS):Prop:=∃w,EG w g/\∀m∈ms,uH w m
def Ay{l:Taf}{i j:Nat}{n:Int}:iC (l.set i (.int i64 n)) j=if i=j/\i<l.length then n else iC l j:=by
 unfold iC;rw[ae,ae,bj];by_cases h:i=j
 .subst h;rw[if_pos rfl];by_cases a:i<l.length
  .rw[if_pos a,if_pos ⟨rfl,a⟩];rfl
  rw[if_neg a,if_neg (fun k=>a k.2),cC (by omega)]
 rw[if_neg h,if_neg (fun k=>h k.1)]
def qQ{l:Taf}{n:Int}{j:Nat}:iC (eK l n) j=iC l j:=by
 unfold iC eK;rw[ae,ae];by_cases h:j<l.length
 .rw[an h]
 rw[aL (by omega),cC (l:=l) (by omega),fI];split<;>rfl
def Ce.eq(c:CY w){y:D}(h:Ce w x)(k:Ce w y)(e:ix y=ix x):y=x:=by
 obtain⟨T,L,n,d,p,o,m⟩:=h;obtain⟨r,u,f,b,l,j,a⟩:=k;rw[e]at l j a
 have:some y=some x:=by
  rw[<-m,<-a];rcases Nat.le_total n f with q|q
  .exact((d.cmp c b q).2.2 _ (by omega)).symm
  exact(b.cmp c d q).2.2 _ (by omega)
 injection this
def EG.tell(h:EG w g)(c:Ce w x):EG w (rE x g):=by
 have l:1<=ix x:=by obtain⟨_,_,_,_,k,_⟩:=c;exact k
 have d:∀(j:Nat) y,(je g.told (ix x))[j]?=some y->ix y=0\/ix y=j/\Ce w y:=by
  intro j y b;unfold je at b;by_cases f:j<g.told.length
  .rw[an f]at b;exact h.told j y b
  rw[aL (by omega),fI]at b;split at b
  .injection b with b;subst b;exact .inl rfl
  cases b
 refine⟨h.ok,h.ew,h.net,fun j y b=>?_,h.lead,h.oH,h.PR,?_⟩
 .have a:((je g.told (ix x)).set (ix x).toNat x)[j]?=some y:=b;rw[bj]at a;split at a
  .split at a
   .injection a with a;subst a;exact .inr ⟨by omega,c⟩
   cases a
  exact d j y a
 show(g.bad||(ix ((je g.told (ix x)).getD (ix x).toNat .top) !=0&&(tm ((je g.told (ix x)).getD (ix x).toNat .top) !=tm x|| !EZ (vz x) (vz ((je g.told (ix x)).getD (ix x).toNat .top)))))=false;rw[h.bad,fW,ae];cases hq:(je g.told (ix x))[(ix x).toNat]? with
 |none=>rfl
 |some y=>
  show(ix y !=0&&(tm y !=tm x|| !EZ (vz x) (vz y)))=false;rcases d _ y hq with e|⟨e,b⟩
  .rw[e];rfl
  rw[c.eq h.ok b (by omega)];simp[EZ]
def EG.Sg:∀(cs:Taf) (g:GS),EG w g->(∀x∈cs,Ce w x)->EG w (iW cs g)
 |[],_,h,_=>h
 |x::r,g,h,hc=>EG.Sg r (rE x g) (h.tell (hc x br)) fun y a=>hc y (aK _ a)
def EG.note(h:EG w g)(hi:g.ew[i]?=some s):EG w (kB i g):=by
 obtain⟨n,v,lg,m⟩:=h.ew i s hi;have r:=h.PR i s hi;have p:cG g i=s:=by unfold cG;rw[ae,hi];rfl
 have l:((s.term.toNat:Nat):Int)=s.term:=by omega
 unfold kB;rw[p];dsimp only;split
 .refine⟨h.ok,h.ew,h.net,h.told,h.lead,h.oH,h.PR,?_⟩;show(g.bad||decide (s.term<iC g.cO i))=false;rw[h.bad,decide_eq_false (by omega)];rfl
 have d:EG w (pM i s {g with cO:=g.cO.set i (.int i64 s.term)}):=by
  refine⟨h.ok,h.ew,h.net,h.told,h.lead,fun j T b=>?_,fun j u b=>?_,?_⟩
  .have a:iC ((g.aX.set i ((eK (g.aX.getD i []) s.term).set s.term.toNat (.int i64 s.vote))).getD j []) T≠0:=b;show w.gr T (iC ((g.aX.set i ((eK (g.aX.getD i []) s.term).set s.term.toNat (.int i64 s.vote))).getD j []) T) ((j:Int)+1);rw[ae,bj]at a⊢;by_cases k:i=j
   .subst k;rw[if_pos rfl]at a⊢;by_cases e:i<g.aX.length
    .rw[if_pos e,bz,Ay,qQ]at a⊢;split at a<;>rename_i c
     .rw[if_pos c,<-n,<-c.1,l];exact m.vg a
     rw[if_neg c];exact h.oH i T a
    rw[if_neg e]at a;exact absurd rfl a
   rw[if_neg k,<-ae]at a⊢;exact h.oH j T a
  .have b:g.ew[j]?=some u:=b;show iC (g.cO.set i (.int i64 s.term)) j<=u.term;rw[Ay];split
   .rename_i c;rw[<-c.1,hi]at b;injection b with b;rw[b];exact ar _
   exact h.PR j u b
  show(g.bad||(iC (eK (g.aX.getD i []) s.term) s.term.toNat !=0&&s.vote !=iC (eK (g.aX.getD i []) s.term) s.term.toNat))=false;rw[h.bad,qQ,fW];by_cases f:iC (g.aX.getD i []) s.term.toNat=0
  .rw[f];rfl
  have:=h.oH i _ f;rw[l,<-n]at this;rw[<-(m.vt _ this).1];simp
 split
 .rename_i q;have e:=m.sv.ld q;rw[m.te]at e;have o:w.ll s.term≠[]:=e.1▸e.2.1;refine⟨d.ok,d.ew,d.net,d.told,fun T b=>?_,d.oH,d.PR,?_⟩
  .have a:iC ((eK g.bG s.term).set s.term.toNat (.int i64 ((i:Int)+1))) T≠0:=b;show w.ll T≠[]/\w.ld T=iC ((eK g.bG s.term).set s.term.toNat (.int i64 ((i:Int)+1))) T;rw[Ay,qQ]at a⊢;split at a<;>rename_i c
   .rw[if_pos c,<-c.1,l,<-n];exact⟨o,e.2.2.1⟩
   rw[if_neg c];exact h.lead T a
  show((pM i s {g with cO:=g.cO.set i (.int i64 s.term)}).bad||(iC (eK g.bG s.term) s.term.toNat !=0&&iC (eK g.bG s.term) s.term.toNat !=((i:Int)+1)))=false;rw[d.bad,qQ,fW];by_cases f:iC g.bG s.term.toNat=0
  .rw[f];rfl
  have:=(h.lead _ f).2;rw[l,e.2.2.1,n]at this;rw[<-this];simp
 exact d
def fb.step{y:Int}{r:Int}(h:fb w s.id lg r s)(b:By y w w')(j:CY w')(a:s.id≠y):fb w' s.id lg r s:=by obtain⟨o,u⟩:=b.X4 s.id a;refine⟨rfl,j,h.sv.step b a h.ok,o.trans h.te,h.lo,h.cm,h.c1,h.c2,h.rl,fun c k=>h.vt c (b.grx _ _ _ a k),fun k=>b.gr _ _ _ (h.vg k),fun k v l=>b.gr _ _ _ (h.vs k v l),fun k q n=>?_,fun m d=>(h.ms m d).mono b,fun m d=>(h.cs m d).mono b⟩;obtain⟨f,p,e⟩:=h.pe k q n;have:=(b.ak q.1 s.term).1;exact⟨f,by omega,e⟩
def EG.act{s':RS}(h:EG w g)(hi:g.ew[i]?=some s)(b:By s.id w w')(f:fb w' s.id lg s'.role s')(z:0<=s'.term):EG w' (hJ i s' g):=by
 obtain⟨C,D,r,B⟩:=h.ew i s hi
 have q:∀(j:Nat) u,(hJ i s' g).ew[j]?=some u->i=j/\u=s'\/i≠j/\g.ew[j]?=some u:=by
  intro j u a;have a:(g.ew.set i s')[j]?=some u:=a;rw[bj]at a;split at a
  .split at a
   .injection a with a;exact .inl ⟨by assumption,a.symm⟩
   cases a
  exact .inr ⟨by assumption,a⟩
 refine⟨f.ok,fun j u a=>?_,fun m A=>(h.net m A).mono b,fun j y v=>(h.told j y v).imp id fun k=>⟨k.1,k.2.mono b⟩,fun T p=>?_,fun j T p=>b.gr _ _ _ (h.oH j T p),fun j u a=>?_,h.bad⟩
 .rcases q j u a with⟨rfl,rfl⟩|⟨e,a⟩
  .have l:=f.id;exact⟨l.trans C,z,lg,by rw[l];exact f⟩
  obtain⟨d,c,o,n⟩:=h.ew j u a;exact⟨d,c,o,n.step b f.ok (by omega)⟩
 .obtain⟨d,c⟩:=h.lead T p;exact⟨(b.ll T).ne d,(b.ld T d).trans c⟩
 rcases q j u a with⟨rfl,rfl⟩|⟨e,a⟩
 .have d:=h.PR i s hi;have c:=b.tm s.id;have n:=f.te;rw[f.id]at n;rw[B.te,n]at c;exact cW d c
 exact h.PR j u a
def Sf.KW{o:D}{s':RS}{ms:Taf}(h:Sf ms g)(hi:g.ew[i]?=some s)(r:0<=s'.term)(u:∀w lg,(∀m∈ms,uH w m)->fb w s.id lg s.role s->SG w s (o,s')):Sf ms (oX i o false (hJ i s' g)):=by
 obtain⟨w,h,f⟩:=h;obtain⟨B,A,lg,v⟩:=h.ew i s hi;obtain⟨w',q,b,n,p,z⟩:=u w lg f v;have c:=h.act hi b n r;refine⟨w',?_,fun m e=>(f m e).mono b⟩;unfold oX
 have a:EG w' (if(cD 0 o).W then mH i o (hJ i s' g) else hJ i s' g):=by
  split
  .exact⟨c.ok,c.ew,c.net,c.told,c.lead,c.oH,c.PR,c.bad⟩
  exact c
 have l:(if(cD 0 o).W then mH i o (hJ i s' g) else hJ i s' g).ew=g.ew.set i s':=by split<;>rfl
 generalize (if(cD 0 o).W then mH i o (hJ i s' g) else hJ i s' g)=d at a l
 have k:EG w' (pF o false d)/\(pF o false d).ew=g.ew.set i s':=by
  unfold pF;split
  .refine⟨⟨a.ok,a.ew,fun m e=>?_,a.told,a.lead,a.oH,a.PR,a.bad⟩,l⟩;rcases aM.1 (show m∈d.net++(cD 5 o).A from e) with e|e
   .exact a.net m e
   exact p m e
  exact⟨a,l⟩
 generalize pF o false d=j at k;have y:=EG.Sg (cD 6 o).A j k.1 z;refine y.note (s:=s') ?_;rw[(tT (cD 6 o).A j).ew,k.2,bj,if_pos rfl,if_pos (aO.1 hi).1]
def Sf.tail{m:D}{ms:Taf}(h:Sf (m::ms) g):Sf ms g:=let ⟨w,h,k⟩:=h;⟨w,h,fun m a=>k m (aK _ a)⟩
def Sf.cut{net ms a:Taf}(h:Sf ms g)(c:∀m∈net,m∈g.net)(d:∀m∈a,m∈g.net\/m∈ms):Sf a {g with net:=net}:=by obtain⟨w,h,b⟩:=h;exact⟨w,⟨h.ok,h.ew,fun m k=>h.net m (c m k),h.told,h.lead,h.oH,h.PR,h.bad⟩,fun m k=>(d m k).elim (h.net m) (b m)⟩
variable{C M K n i:Nat}{N:Int}{s t:RS}{g:GS}
def tX(s:RS):D:=.agg [.int i64 s.term,.int i64 s.vote,.int i64 s.li,.int i64 s.lt,.list s.sv,.list s.sl,.list s.gN,.list s.le]
def cK.base{j:Nat}(h:cK C M s K)(hi:Idle s)(a:j<=K):cK (G j) j s j:=
 ⟨h.may,h.uA,h.vj,by have:=h.rI;omega,by rw[hi.msgs];simp,by have:=h.ne;omega,by rw[hi.G7];simp,by have:=h.nv;omega,h.cf,h.cs,h.cl,h.tm,h.tx,h.rd⟩
def cK.ok{j:Nat}(h:cK C M s K)(hi:Idle s)(b:j<=K)(a:j<=256):Ok s j:=
 ⟨h.may,h.uA,h.vj,by have:=h.rI;omega,by rw[hi.msgs];simp;omega,by have:=h.ne;omega,by
  rw[hi.G7];have:=aaJ a;have e:G 256=274877906944:=by unfold G;rfl
  simp only[fj];omega,by have:=h.nv;omega,h.cf,h.cs,h.cl,h.tm,h.tx,h.rd⟩
def FC(fv fl:Taf):Prop:=gF (.agg [.list fv,.list fl])=true/\Has mI (.agg [.list fv,.list fl])/\V3 (.agg [.list fv,.list fl])
structure GI(n K:Nat)(N:Int)(g:GS):Prop where
 len:uI g
 n1:g.ew.length=n
 cf:FC g.fv g.fl
 ew:∀(i:Nat) s,g.ew[i]?=some s->Idle s/\cK (G K) K s K/\Bs N s/\g.saved[i]?=some (tX s)
 net:∀m∈g.net,mK N m
 nl:g.net.length<=430
 told:(g.told.length:Int)<=N+1
 nn:0<=N
 sf:Sf [] g
def GI.get(h:GI n K N g)(hi:i<n):Idle (cG g i)/\cK (G K) K (cG g i) K/\Bs N (cG g i)/\g.saved[i]?=some (tX (cG g i)):=h.ew i _ (iG (by rw[h.n1];exact hi))
def GI.le{j:Nat}{f:Int}(h:GI n K N g)(o:j<=K)(e:N<=f):GI n j f g:=
 ⟨h.len,h.n1,h.cf,fun i s k=>let ⟨a,b,c,d⟩:=h.ew i s k;⟨a,b.base a o,c.mono e,d⟩,fun m l=>(h.net m l).mono e,h.nl,cW h.told (by omega),cW h.nn e,h.sf⟩
def Bd{l:Taf}{n:Int}(h:n<=5000)(a:l.length<=2000000):(eK l n).length<=2000000:=by unfold eK;rw[ai,List.length_replicate];omega
structure Nt(g g':GS):Prop where
 ew:g'.ew=g.ew
 saved:g'.saved=g.saved
 net:g'.net=g.net
 told:g'.told=g.told
 fv:g'.fv=g.fv
 fl:g'.fl=g.fl
def Kd(h:uI g)(i:Nat):Nt g (kB i g)/\uI (kB i g):=by
 unfold kB;dsimp only;split
 .exact⟨⟨rfl,rfl,rfl,rfl,rfl,rfl⟩,⟨h.n5,h.cO,h.aX,h.saved,h.lead,h.vl⟩⟩
 rename_i e;have d:(cG g i).term<=5000:=by omega
 have a:uI (pM i (cG g i) {g with cO:=g.cO.set i (.int i64 (cG g i).term)}):=by
  refine⟨h.n5,by show(g.cO.set i _).length=_;rw[aQ];exact h.cO,by show(g.aX.set i _).length=_;rw[aQ];exact h.aX,h.saved,h.lead,?_⟩;intro l b;rcases cX (show l∈g.aX.set i _ from b) with b|b
  .exact h.vl l b
  rw[b,aQ];refine Bd d ?_;by_cases c:i<g.aX.length
  .show(g.aX.getD i []).length<=_;rw[ae,aS c];exact h.vl _ (aN c)
  show(g.aX.getD i []).length<=_;rw[ae,cC (by omega)];exact aF _
 split
 .refine⟨⟨rfl,rfl,rfl,rfl,rfl,rfl⟩,⟨a.n5,a.cO,a.aX,a.saved,?_,a.vl⟩⟩;show((eK g.bG (cG g i).term).set _ _).length<=_;rw[aQ];exact Bd d h.lead
 exact⟨⟨rfl,rfl,rfl,rfl,rfl,rfl⟩,a⟩
def Cg{B:Int}:∀(cs:Taf) (g:GS),(∀x∈cs,(cD 0 x).q<=B)->(g.told.length:Int)<=B+1->((iW cs g).told.length:Int)<=B+1
 |[],g,_,h=>h
 |x::r,g,hc,h=>by refine Cg r (rE x g) (fun y a=>hc y (aK _ a)) ?_;have:=hc x br;show(((je g.told (cD 0 x).q).set _ x).length:Int)<=B+1;rw[aQ];unfold je;rw[ai,List.length_replicate];omega
def Fp:∀(cs:Taf) (g:GS),(iW cs g).net=g.net/\(iW cs g).saved=g.saved/\(iW cs g).fv=g.fv/\(iW cs g).fl=g.fl
 |[],g=>⟨rfl,rfl,rfl,rfl⟩
 |x::r,g=>Fp r (rE x g)
def QE(h:Inv s N t)(j:g.saved[i]?=some (tX s))(hi:i<g.ew.length):(mH i (bR t).1 (hJ i (bR t).2 g)).saved=g.saved.set i (tX t):=by
 have b:cG (hJ i (bR t).2 g) i=(bR t).2:=by show(g.ew.set i _).getD i dN=_;rw[ae,bj,if_pos rfl,if_pos hi];rfl
 unfold mH;dsimp only;rw[b];show g.saved.set i _=_;congr 1
 have f:(hJ i (bR t).2 g).saved.getD i .top=tX s:=by show g.saved.getD i .top=_;rw[ae,j];rfl
 rw[f];have a:cD 4 (bR t).1=t.il:=rfl;rcases h.lg with⟨l1,l2,l3,l4,l5,l6,l7⟩|⟨l1,l2,l3,l4⟩
 .have e:xh ((bR t).2.li+(bR t).2.le.length) (tX s) (bR t).1=s.le:=by unfold xh;rw[a,l1];rfl
  have d:zY (tX s) (bR t).1=[.int i64 s.li,.int i64 s.lt,.list s.sv,.list s.sl,.list s.gN]:=by unfold zY;rw[a,l1];rfl
  unfold DI;rw[e,d];have k:(if(cD 3 (bR t).1).A=[] then s.le else mG s.le (cD 0 ((cD 3 (bR t).1).A.getD 0 .top)).q++(cD 3 (bR t).1).A)=t.le:=l7;rw[k,<-l2,<-l3,<-l4,<-l5,<-l6];rfl
 have d:zY (tX s) (bR t).1=[.int i64 t.li,.int i64 t.lt,.list t.sv,.list t.sl,.list t.gN]:=by unfold zY;rw[a,l1];rfl
 have e:xh ((bR t).2.li+(bR t).2.le.length) (tX s) (bR t).1=t.le:=by
  unfold xh;rw[a,l1];show oW s.le t.li (decide (t.li+(t.le.length:Int)>t.li))=t.le;unfold oW;by_cases c:t.le=[]
  .rw[c];simp
  have l:0<t.le.length:=eQ.2 c;rw[decide_eq_true (by omega:t.li+(t.le.length:Int)>t.li)];have:=l4.resolve_left c;unfold xc at this;simp only[Bool.and_true];exact this
 unfold DI;rw[e,d,if_pos (show(cD 3 (bR t).1).A=[] from l2)];rfl
def GI.KW{o:D}{s':RS}{L:Nat}{ms:Taf}(h:GI n K N g)(hi:i<n)(hN:N<=100000000)(hL:K=L+28)(hg:Good (G K) K L (N+1) (cG g i) (o,s'))(hf:Sf ms g)(hs:∀w lg,(∀m∈ms,uH w m)->(lg.length:Int)<MX->fb w (cG g i).id lg (cG g i).role (cG g i)->SG w (cG g i) (o,s')):UQ i o (hJ i s' g)=true/\GI n L (N+1) (oX i o false (hJ i s' g))/\Sf ms (oX i o false (hJ i s' g)):=by
 obtain⟨t,q,Q,he⟩:=hg;obtain⟨ei,ek,eb,I⟩:=h.get hi;injection he with Y X;subst Y X;have c:i<g.ew.length:=by rw[h.n1];exact hi
 have U:cG (hJ i (bR t).2 g) i=(bR t).2:=by show(g.ew.set i _).getD i dN=_;rw[ae,bj,if_pos rfl,if_pos c];rfl
 have R:=Q.done;have id:=LN t;have b:(hJ i (bR t).2 g).ew.length=g.ew.length:=aQ;have l:uI (hJ i (bR t).2 g):=⟨by rw[b];exact h.len.n5,by rw[b];exact h.len.cO,by rw[b];exact h.len.aX,by rw[b];exact h.len.saved,h.len.lead,h.len.vl⟩;have e:t.msgs.length<=28:=by have:=Q.nm;omega
 have F:∀x∈t.bM,0<=(cD 0 x).q/\(cD 0 x).q<=N+1:=q.KL;have E:=hf.KW (iG c) (show 0<=(bR t).2.term from R.tm) (fun w lg h1 h2=>hs w lg h1 (by have h3:=h2.len;have h4:=eb.top;simp only[MX];omega) h2);refine⟨?_,?_,E⟩
 .unfold UQ;simp only[aT,bk,bY];refine⟨⟨⟨⟨⟨⟨XD l,by rw[b];exact c⟩,by rw[U];exact Ou (R.ok id (aF _) (by omega))⟩,?_⟩,?_⟩,?_⟩,?_⟩
  .show(cD 7 (g.saved.getD i .top)).A.length+t.dX.length<=_;rw[ae,I];show(cG g i).le.length+t.dX.length<=_;have:=ek.rI;have:=Q.ne;omega
  .show t.msgs.length<=_;omega
  .intro x S;have:=F x S;omega
  show g.told.length<=_;have:=h.told;omega
 refine(?_:Sf [] (oX i (bR t).1 false (hJ i (bR t).2 g))->GI n L (N+1) (oX i (bR t).1 false (hJ i (bR t).2 g))) (E.cut (fun m h=>h) (fun m h=>by cases h));unfold oX
 have p:(if(cD 0 (bR t).1).W then mH i (bR t).1 (hJ i (bR t).2 g) else hJ i (bR t).2 g).saved=g.saved.set i (tX t):=by
  show(if t.save=true then _ else _:GS).saved=_;by_cases T:t.save=true
  .rw[if_pos T];exact QE q I c
  rw[if_neg T];obtain⟨P,a2,a3,a4⟩:=q.ns (by simpa using T);obtain⟨l2,l3,l4,l5,l6,O⟩:=q.left a2;rw[P]at O;have O:(cG g i).le=t.le:=O;show g.saved=_;have:tX t=tX (cG g i):=by unfold tX;rw[a3,a4,l2,l3,l4,l5,l6,O]
  rw[this];refine dD fun j=>?_;rw[bj];by_cases y:i=j
  .subst y;rw[if_pos rfl,if_pos (aO.1 I).1,I]
  rw[if_neg y]
 generalize A:(if(cD 0 (bR t).1).W then mH i (bR t).1 (hJ i (bR t).2 g) else hJ i (bR t).2 g)=g1 at p
 have Z:Mu (hJ i (bR t).2 g) g1:=by
  rw[<-A];split
  .exact Ga _ _ _
  exact⟨rfl,rfl,rfl,rfl,rfl⟩
 have V:g1.net=g.net/\g1.told=g.told/\g1.fv=g.fv/\g1.fl=g.fl:=by rw[<-A];split<;>exact⟨rfl,rfl,rfl,rfl⟩
 have k:(∀m∈(pF (bR t).1 false g1).net,mK (N+1) m)/\(pF (bR t).1 false g1).net.length<=430/\(pF (bR t).1 false g1).told=g.told/\(pF (bR t).1 false g1).saved=g.saved.set i (tX t)/\(pF (bR t).1 false g1).fv=g.fv/\(pF (bR t).1 false g1).fl=g.fl:=by
  obtain⟨J,b2,b3,b4⟩:=V;unfold pF;split
  .rename_i hc;rw[J]at hc;refine⟨?_,?_,b2,p,b3,b4⟩
   .intro m e;rcases aM.1 (show m∈g1.net++t.msgs from e) with e|e
    .rw[J]at e;exact(h.net m e).mono (by omega)
    exact q.msg m e
   show(g1.net++t.msgs).length<=430;rw[ai,J];omega
  exact⟨by rw[J];exact fun m e=>(h.net m e).mono (by omega),by rw[J];exact h.nl,b2,p,b3,b4⟩
 have H:=Z.trans (RO (bR t).1 false g1);generalize pF (bR t).1 false g1=r at k H;obtain⟨c1,c2,c3,c4,c5,c6⟩:=k;have u:=Cg (B:=N+1) t.bM r (fun x S=>(F x S).2) (by rw[c3];have:=h.told;omega);obtain⟨d1,d2,d3,d4⟩:=Fp t.bM r;have f:=H.trans (tT t.bM r);show Sf [] (kB i (iW t.bM r))->GI n L (N+1) (kB i (iW t.bM r));generalize iW t.bM r=g3 at u d1 d2 d3 d4 f;obtain⟨d,v⟩:=Kd (f.V9 l) i;generalize kB i g3=g4 at d v;intro W;refine⟨v,?_,?_,?_,?_,?_,?_,by have:=h.nn;omega,W⟩
 .rw[d.ew,f.ew,b];exact h.n1
 .rw[d.fv,d.fl,d3,d4,c5,c6];exact h.cf
 .intro j s y;rw[d.ew,f.ew]at y;rw[d.saved,d2,c4];have a:(g.ew.set i (bR t).2)[j]?=some s:=y;rw[bj]at a⊢;by_cases z:i=j
  .subst z;rw[if_pos rfl,if_pos c]at a;injection a with a;subst a;rw[if_pos rfl,if_pos (aO.1 I).1];exact⟨id,R.base id (aU _),q.after,rfl⟩
  rw[if_neg z]at a⊢;obtain⟨P,a2,a3,a4⟩:=h.ew j s a;exact⟨P,a2.base P (by omega),a3.mono (by omega),a4⟩
 .rw[d.net,d1];exact c1
 .rw[d.net,d1];exact c2
 rw[d.told];exact u
attribute [local irreducible] TL
def oi:hP.cells.length=46:=rfl
section
variable{w w0:Tam}{S S0:bE}{ow kG:Ow}{b i j:Nat}{g:GS}{R:GR}{Q:Iv}{a:Act}
def kX{x n:Int}(p:Wf w S ow)(F:jX i64 x)(E:jX i64 n)(C:n≠0):Calls Try.prog 8 [.int i64 x,.int i64 n].toArray w fun e B=>e=.returned (.int i64 (ib x n))/\bD aB aB w S ow B S ow/\Wf B S ow:=by
 refine(c8.calls rfl w S [.int i64 x,.int i64 n] [.int i64 x,.int i64 n] p.s rfl (fun q v d c f=>by
  match q,c,f with
  |0,c,f=>injection c with c;injection f with f;subst c f;exact .int _ _
  |1,c,f=>injection c with c;injection f with f;subst c f;exact .int _ _) (aJ.2 ⟨_,_,rfl,⟨_,rfl,F⟩,aJ.2 ⟨_,_,rfl,⟨_,rfl,E⟩,dy.2 rfl⟩⟩) C).mono ?_
 rintro e A ⟨v,S',τ,rfl,hb,_,_,_,mE,_⟩
 have u:bD aB aB w S ow A S ow/\Wf A S ow:=⟨⟨hb.size,hb.os,hb.tape,hb.output,fun b _ m _ _=>hb.block b m,fun b m _ _=>hb.block b m,fun _ _ h=>h,fun b o z=>bn (hb.block b (p.s b o z)),fun _ _ h _=>h,fun _ _ h=>.inl h,fun _ _ h=>h,fun _ _ h=>.inl h⟩,
  ⟨fun b o z=>az (p.s b o z) hb.size,fun b l D=>az (p.o b l D) hb.size,p.d⟩⟩
 refine⟨?_,u⟩;have e:cF 8 [.int i64 x,.int i64 n]=.int i64 (ib x n):=rfl;rw[e]at mE;rcases mE with⟨c',r,hq⟩|⟨r,_⟩
 .injection r with r;subst r;unfold gk at hq;simp only[aj,if_false]at hq;obtain⟨y,t,k⟩:=hq;injection t with t;subst t;rw[k.1.cQ]
 exact absurd rfl r
def J4{A:Tao Addr}{t:Nat}{ms:Taf}{m:D}(h:cg w S (.slice A ms.length t) (.list ms))(F:ms[j]?=some m)(x:Has hP m)(E:∀z off,A=some ⟨z,off,none⟩->ow z=none):
  ∃(d:Nat) (us:Tac) (off:Nat),A=some ⟨d,off,none⟩/\ow d=none/\S d (off+j*46)/\us.length=46/\(∀(q:Nat) u,us[q]?=some u->w.cell? ⟨d,off+j*46+q,none⟩=some u)/\(∀(q:Nat) u c,us[q]?=some u->m.cells[q]?=some c->cg w S u c)/\us[2]?=some (.int i64 (cD 2 m).q):=by
 obtain⟨d,off,y,us,C,v,k,o,f⟩:=h.NO F x (by rw[oi];omega);rw[oi]at v k o;injection C with H _ _;subst H;refine⟨d,us,off,rfl,E d off rfl,v,k,o,f,?_⟩;obtain⟨B,p⟩:∃u,us[2]?=some u:=⟨_,aS (by omega)⟩;obtain⟨l,rfl,r⟩:=dU.1 x;obtain⟨I,e,s⟩:=cJ r 2 I6 (by rw[Ty.dm];rfl);obtain⟨n,rfl,J⟩:=s;have G:cD 2 (D.agg l)=.int i64 n:=by show l.getD 2 .top=_;rw[ae,e];rfl
 rw[p,G,(f 2 B _ p e).cQ];rfl
def DU{l:Nat}{T:Tba}{t:Ty}{A:Tao Addr}{n p:Nat}{xs:Taf}(h:dB w S ow l T t (.slice A n p) xs)(y:Wf w S ow):
  ∃q c,bD (iI l) aB w S ow w q c/\Wf w q c/\cg w q (.slice A n p) (.list xs)/\∀e k,A=some ⟨e,k,none⟩->c e=none:=by
 obtain⟨q,c,x,r,z,m⟩:=h.freeze y;refine⟨q,c,x,r,z,fun e k v=>?_⟩;obtain⟨C,B,_⟩:=h.own
 have o:ow e=some l:=by
  rcases B.2 with⟨d,_⟩|⟨g,He,cur,d,_⟩
  .rw[v]at d;cases d
  rw[v]at d;injection d with d _ _;injection d with d;injection d with u s;subst u s;exact h.iw e (by rw[v];rfl)
 cases hx:c e with
 |none=>rfl
 |some l'=>
  exfalso;rcases x.iw e l' hx with f|f
  .rw[o]at f;injection f with f;subst f;exact m e hx
  simp only[iI]at f;subst f;exact m e hx
def Da{P:Tap}{ops:Tad}{S:Tae}{n n0 i d:Nat}{m:Tab}{gd:Tao (Nat×Bool)}{L r:List OK}{x y:Tbb}{t t2:Tba}{kk:IntKind}{p q s:Int}(k:Kn n a m)(v:S w)(l:rq L m gd=some true)(o:d<n)(f:mD m x=some (.int kk p))(e:mD m y=some (.int kk q))(u:kk.wrap (p-q)=s)(h:∀c,Kn n c ((d,.int kk s)::m)->TL P ops Q S n0 L r (i+1) c w):TL P ops Q S n0 L ((some d,.binOp .sub t x y t2,gd)::r) i a w:=by subst u;refine qt k v l o (fun _ _ _ B _=>?_) h;have A:=k.op f;have z:=k.op e;unfold execOp;simp[A,z,eqGuard,binOp,Op.intArith]
noncomputable def DW:Code:=.seq (.region 32 H0 true) (.cond (.tmp 196) (.region 33 HZ true) .skip)
def RC{A:Tao Addr}{x:Nat}{ms:Taf}{m:D}(hQ:QP Q)(h:kv w S ow b g)(hn:pC ow)(hr:cg w S (.slice A ms.length x) (.list ms))(hu:∀N n,A=some ⟨N,n,none⟩->ow N=none)(hj:ms[j]?=some m)(hm:Has hP m)(B:zp m g=true)(k:Kn 359 a [(11,.int i64 (j:Int)),(10,.slice A ms.length x),(0,aI b)])(r:∀a W S' U,Kn 359 a [(11,.int i64 (j:Int)),(10,.slice A ms.length x),(0,aI b)]->bD LG aB w S ow W S' U->kv W S' U b (qa m g)->Q .normal a W):DW.wp Try.prog Q a w:=by
 obtain⟨R,M,C,V⟩:=h;have c6:j<ms.length:=(aO.1 hj).1;unfold DW;refine wp_seq (jy (n0:=19) aB mix (by exact hQ) Xg (fun _=>by kernel_rfl) ?_);intro w1 e1;have d:=M.O e1;have T:=(bD.refl LG aB w S ow).Y M.wf M.wf e1;have s0:=SX.refl aB w1;obtain⟨bm,O,n,rfl,b7,hS,X,L,a9,z⟩:=J4 (ow:=ow) (hr.J (bD.O e1 aB aB S ow)) hj hm hu;have a0:=d.wf.s _ _ hS
 repeat refine sm k fun a k=>?_
 refine oR (el:=49) (sz:=46) k (by assumption) rfl (by decide) rfl rfl (by kernel_rfl) (by kernel_rfl) (by omega) (by omega) fun a k=>?_;rw[bP]at k
 repeat (first|refine sm k fun a k=>?_|refine ld k (eP a0 (fun h=>h) (L 2 _ z)) fun a k=>?_)
 have J:∀(a:Act),Jr m g=false->Kn 359 a [(11,.int i64 (j:Int)),(10,.slice (some ⟨bm,n,none⟩) ms.length x),(0,aI b)]->Q .normal a w1:=by
  intro a E k;have hg:qa m g=g:=by unfold qa;rw[E];rfl
  refine r _ _ S ow k T ?_;rw[hg];exact⟨R,d,C,V⟩
 obtain⟨Al,c2,b9⟩:=d.arr.slice;have a1:(R.la.map aI).length=g.ew.length:=by rw[ao,C];exact d.rn
 by_cases h1:decide ((cD 2 m).q≥1)=true
 .refine cm (c:=true) k rfl rfl (congrArg some h1) fun a k=>?_
  repeat refine sm k fun a k=>?_
  refine oR (el:=49) (sz:=46) k (by assumption) rfl (by decide) rfl rfl (by kernel_rfl) (by kernel_rfl) (by omega) (by omega) fun a k=>?_;rw[bP]at k
  repeat (first|refine sm k fun a k=>?_|refine ld k (d.cell id rfl) fun a k=>?_|refine ld k (eP a0 (fun h=>h) (L 2 _ z)) fun a k=>?_)
  rw[b9]at k
  repeat refine sm k fun a k=>?_
  rw[a1]at k;by_cases h2:decide ((cD 2 m).q<=(g.ew.length:Int))=true
  .refine cm (c:=true) k rfl rfl (congrArg some h2) fun a k=>?_;refine pk k rfl rfl fun a k=>?_;refine ay (bf k rfl ?_);have k:=k.sb (l:=[(11,.int i64 (j:Int)),(10,.slice (some ⟨bm,n,none⟩) ms.length x),(0,aI b)]);have c9:=of_decide_eq_true h1;have c7:=of_decide_eq_true h2;have E:Jr m g=true:=by unfold Jr;rw[h2,show decide (1<=(cD 2 m).q)=true from h1];rfl
   have hg:qa m g=oX (tU m) (jo m (cG g (tU m))).1 false (hJ (tU m) (jo m (cG g (tU m))).2 g):=by unfold qa;rw[E];rfl
   unfold zp at B;rw[E,Bool.not_true,fW]at B;simp only[aT,bk]at B;obtain⟨⟨⟨⟨a8,Z⟩,H⟩,b5⟩,G⟩:=B;have F:(cD 2 m).q-1=((tU m:Nat):Int):=by unfold tU;omega
   have hi:tU m<g.ew.length:=by unfold tU;omega
   have p:i64.wrap ((cD 2 m).q-1)=((tU m:Nat):Int):=by rw[F];exact wrap64 (by omega) (by omega)
   generalize c4:tU m=i at F hi p H G hg;obtain⟨bs,I,b2,c3⟩:=d.ew i _ (iG hi);refine JB (n0:=23) (fun N=>ow N=some (1000+i)) mix (by exact hQ) Xf (by kernel_rfl) ?_;intro w2 e2;have f:=d.O e2;have a4:=T.Y M.wf d.wf e2;have P:=bD.O e2 aB aB S ow;have Y:=b2.J d.wf f.wf P (fun h=>h) rfl;have s1:=SX.refl (fun N=>ow N=some (1000+i)) w2;have a6:¬ow b=some (1000+i):=by rw[f.obj.ow];intro h;injection h with h;omega
   have K:¬ow bm=some (1000+i):=by rw[b7];intro h;cases h
   have t:=f.wf.s _ _ hS;have o:∀(q:Nat) u,O[q]?=some u->w2.cell? ⟨bm,n+j*46+q,none⟩=some u:=fun q u h=>(bn (by rw[e2.heap])).trans (L q u h);obtain⟨bl,c1,a2,b8,b1,b6⟩:=f.arr.elem (i:=i) (u:=aI bs) (by rw[C,ab,I];rfl);have a5:¬ow bl=some (1000+i):=by rw[b1];intro h;injection h with h;omega
   repeat refine sm k fun a k=>?_
   refine oR (el:=49) (sz:=46) k (by assumption) rfl (by decide) rfl rfl (by kernel_rfl) (by kernel_rfl) (by omega) (by omega) fun a k=>?_;rw[bP]at k
   repeat refine sm k fun a k=>?_
   refine ld k (eP t K (o 2 _ z)) fun a k=>?_;refine Da (s:=((i:Nat):Int)) k (by assumption) rfl (by decide) rfl rfl p fun a k=>?_
   repeat refine sm k fun a k=>?_
   refine ld k (f.cell a6 (j:=2) rfl) fun a k=>?_
   repeat refine sm k fun a k=>?_
   refine oR (el:=49) (sz:=46) k (by assumption) rfl (by decide) rfl rfl (by kernel_rfl) (by kernel_rfl) (by omega) (by omega) fun a k=>?_;rw[bP]at k
   repeat refine sm k fun a k=>?_
   refine ld k (eP t K (o 2 _ z)) fun a k=>?_;refine Da (s:=((i:Nat):Int)) k (by assumption) rfl (by decide) rfl rfl p fun a k=>?_;rw[a2]at k;refine wQ (el:=52) (sz:=1) k rfl rfl (by rw[a1];exact hi) fun a k=>?_;refine ky (v:=aI bs) k (by assumption) rfl (by decide) rfl (by kernel_rfl) (by kernel_rfl) (eP b8 a5 (by rw[bK];exact b6)) fun a k=>?_
   repeat refine sm k fun a k=>?_
   refine oR (el:=49) (sz:=46) k (by assumption) rfl (by decide) rfl rfl (by kernel_rfl) (by kernel_rfl) (by omega) (by omega) fun a k=>?_;rw[bP]at k;refine lN (vs:=O) k rfl X (fun w' a7 q v hv=>eP t K (o q v hv) w' a7) fun a k=>?_
   have b0:cg w2 S (.agg O.toArray) m:=by obtain⟨lm,rfl,b4⟩:=dU.1 hm;refine .agg O lm ?_ (fun q u y h3 h4=>(a9 q u y h3 h4).J P);have:=fH b4;rw[this,X,Ty.dm];rfl
   refine gV (vs:=[aI bs,.agg O.toArray]) k (by decide) rfl (by decide) c17.enter rfl (Cj Y f.wf (by omega) hm b0 (zB H) b5) ?_;rintro e w3 ⟨v,S3,G5,rfl,BR,PY,ME,hr3,ht3⟩;refine⟨_,rfl,fun _=>SX.iw (fun _ h=>h) BR,fun a k=>?_⟩;have c0:=f.uJ (i:=i) BR PY hi I ME (fE ME) a8;have a3:=a4.eY M.wf f.wf BR (.inr (by omega));have b3:pC G5:=hn.J BR (fun l hl=>by simp only[iI]at hl;subst hl;exact .inr (by omega));refine gV (vs:=[aI b,.int i64 ((i:Nat):Int),v,.bool false]) k (by decide) rfl (by decide) qL rfl (qG (g:=hJ i (jo m (cG g i)).2 g) ⟨_,c0,C,V⟩ b3 hr3 ht3 G) ?_;rintro e w5 ⟨S5,KD,rfl,tj,Z⟩;refine⟨_,rfl,fun h=>absurd rfl h,fun a k=>?_⟩;refine ay (r _ _ S5 KD (k.sb) (kM M.wf PY a3 tj nE) ?_);rw[hg];exact Z
  refine cm (c:=false) k rfl rfl (congrArg some (cE.2 h2)) fun a k=>?_;refine pk k rfl rfl fun a k=>?_;refine ay (bf k rfl (wp_skip (J _ (by unfold Jr;rw[cE.2 h2,Bool.and_false]) (k.sb))))
 refine cm (c:=false) k rfl rfl (congrArg some (cE.2 h1)) fun a k=>?_
 repeat refine sm k fun a k=>?_
 refine pk k rfl rfl fun a k=>?_;refine ay (bf k rfl (wp_skip (J _ (by unfold Jr;rw[show decide (1<=(cD 2 m).q)=false from cE.2 h1,Bool.false_and]) (k.sb))))
end
def IY{ms:Taf}{j:Nat}{m:D}{g:GS}(d:ms[j]?=some m)(h:uf (ms.drop j) g=true):zp m g=true/\uf (ms.drop (j+1)) (qa m g)=true:=by
 have c:j<ms.length:=(aO.1 d).1
 have e:ms.drop j=m::ms.drop (j+1):=by rw[cY c,(aO.1 d).2]
 rw[e]at h;simpa only[uf,aT]using h
def CK{ms:Taf}{j:Nat}{m:D}(c:ms[j]?=some m)(g:GS):(ms.take (j+1)).foldl (fun g m=>qa m g) g=qa m ((ms.take j).foldl (fun g m=>qa m g) g):=by
 have:ms.take (j+1)=ms.take j++[m]:=by rw[cT,c];rfl
 rw[this,List.foldl_append];rfl
section
variable{w w0:Tam}{S S0:bE}{ow kG:Ow}{b i j:Nat}{g g':GS}{R:GR}{Q:Iv}{a:Act}
noncomputable def yZ:Code:=.seq (.region 27 H6 false) (.seq (.region 28 H5 false) (.seq (.region 29 H4 false) (.block 5 (.loop (.seq (.seq (.region 30 H3 false) (.cond (.tmp 175) .skip (.exit 5))) (.seq (.block 6 DW) (.region 31 H2 false)))))))
def Fv(X:QP Q)(h:kv w S ow b g)(hn:pC ow)(b7:uf g.net {g with net:=[]}=true)(k:Kn 359 a [(0,aI b)])(N:∀a W S' a5,Kn 359 a [(0,aI b)]->bD LG aB w S ow W S' a5->kv W S' a5 b (Qj g)->Q .normal a W):yZ.wp Try.prog Q a w:=by
 obtain⟨R,gm,c0,b6⟩:=h;have d:=gm.wf;have c9:g.net.length<=maxLen:=gm.net.len.1;have c7:maxLen<=9223372036854775807:=by decide
 have z:=gm.net.all;unfold yZ;refine wp_seq (rg aB X Xl ?_);intro w1 e1;have f:=gm.O e1;have a4:=(bD.refl LG aB w S ow).Y d d e1;have H:=SX.refl aB w1;obtain⟨A,U,hv⟩:=f.net.slice
 repeat (first|refine sm k fun a k=>?_|refine ld k (f.cell id rfl) fun a k=>?_)
 refine ay ?_;have k:=k.sb (l:=[(10,R.net),(0,aI b)]);rw[hv]at k;have u:=f.net;rw[hv]at u;obtain⟨y,EO,x,L,b1,a9⟩:=DU u f.wf;have b5:=f.pb x L (dB.nil (w:=w1) (S:=y) (ow:=EO) (T:=49) (t:=hP) (l:=11) (by rw[oi];omega) (by omega));have a0:=a4.eY d f.wf x (.inl (by decide));clear u f a4 H e1;refine wp_seq (rg aB X Xk ?_);intro Z e3;have p:=b5.O e3;have a3:=a0.Y d L e3;have H:=SX.refl aB Z
 repeat refine sm k fun a k=>?_
 refine jw (cur:=R.cells g.bad) k (by decide) rfl (by kernel_rfl) rfl rfl rfl p.obj.heap (by show 4<11;omega) rfl (fun h=>absurd rfl h) fun a k=>?_;refine ay ?_;obtain⟨v,K,a6⟩:=p.obj.set p.wf (us:=(R.cells g.bad).set (0+4) gJ);have b4:=p.setObj v K a6;have F:=a3.eY d p.wf v (.inl (by decide));have M:=(b1.J (bD.O e3 aB aB y EO)).J v;have P:kv (Z.setRow b ((R.cells g.bad).set (0+4) gJ).toArray) y EO b {g with net:=[]}:=⟨{R with net:=gJ},b4,c0,b6⟩;have c6:pC EO:=hn.J x (fun l hl=>by simp only[iI]at hl;subst hl;exact .inl (by omega));have k:=k.sb (l:=[(10,.slice A g.net.length U),(0,aI b)]);have n:Wf (Z.setRow b ((R.cells g.bad).set (0+4) gJ).toArray) y EO:=K;show Code.wp Try.prog _ _ a (Z.setRow b ((R.cells g.bad).set (0+4) gJ).toArray);generalize Z.setRow b ((R.cells g.bad).set (0+4) gJ).toArray=w4 at P M F n⊢;clear b4 p b5 v a3 a0 K a6 H e3 x L b1;refine wp_seq (rg aB X Xj ?_);intro Y e5;have H:=SX.refl aB Y
 repeat refine sm k fun a k=>?_
 refine ay ?_;have b3:kv Y y EO b {g with net:=[]}:=by obtain⟨R',e,D,h2⟩:=P;exact⟨R',e.O e5,D,h2⟩
 have a2:=F.Y d n e5;have J:Wf Y y EO:=n.O e5;have b0:=M.J (bD.O e5 aB aB y EO)
 have b9:∀V r,A=some ⟨V,r,none⟩->V<Y.heap.size\/g.net.length=0:=by
  intro V r hA;by_cases hz:g.net.length=0
  .exact .inr hz
  left;obtain⟨m,B⟩:∃m,g.net[0]?=some m:=⟨_,aS (by omega)⟩;obtain⟨bm,us,c4,o,_,hS,_⟩:=J4 (ow:=EO) b0 B (z m (bQ B)) a9;rw[hA]at o;injection o with o;injection o with o _;subst o;exact(n.O e5).s _ _ hS
 refine wp_block (wp_loop_ghost (fun mm a W=>∃(j:Nat) (E:bE) (ko:Ow),mm=g.net.length-j/\j<=g.net.length/\Kn 359 a [(11,.int i64 (j:Int)),(10,.slice A g.net.length U),(0,aI b)]/\bD LG aB w S ow W E ko/\bD LG aB Y y EO W E ko/\
  kv W E ko b ((g.net.take j).foldl (fun g m=>qa m g) {g with net:=[]})/\uf (g.net.drop j) ((g.net.take j).foldl (fun g m=>qa m g) {g with net:=[]})=true) (g.net.length-0)
  ⟨0,y,EO,rfl,aF _,k.sb,a2,bD.refl _ _ _ _ _,b3,b7⟩ ?_)
 clear k H P M F b3 a2;rintro mm a W ⟨j,E,ko,rfl,hjn,k,yT,aeV,hg6,afW⟩;refine wp_seq (wp_seq (rg aB X Xi ?_));intro w7 e7;have I:Wf W E ko:=by obtain⟨_,e,_⟩:=hg6;exact e.wf
 have O:kv w7 E ko b ((g.net.take j).foldl (fun g m=>qa m g) {g with net:=[]}):=by obtain⟨R',e,D,h2⟩:=hg6;exact⟨R',e.O e7,D,h2⟩
 have G:=yT.Y d I e7;have q:=aeV.Y J I e7;have H:=SX.refl aB w7
 repeat refine sm k fun a k=>?_
 refine cm (c:=decide ((j:Int)<(g.net.length:Int))) k rfl rfl rfl fun a k=>?_;refine ay (bf k rfl ?_);have k:=k.sb (l:=[(11,.int i64 (j:Int)),(10,.slice A g.net.length U),(0,aI b)]);by_cases C:(j:Int)<(g.net.length:Int)
 .rw[if_pos (by simpa using C)];refine wp_skip ?_;obtain⟨m,B⟩:∃m,g.net[j]?=some m:=⟨_,aS (by omega)⟩;obtain⟨c3,c2⟩:=IY B afW;have b8:pC ko:=hn.J G (fun l hl=>hl);refine wp_seq (wp_block (RC (by exact X) O b8 (b0.J q) (fun V r hA=>?_) B (z m (bQ B)) c3 k ?_))
  .rcases b9 V r hA with D|D
   .exact q.um V D (a9 V r hA)
   omega
  intro a w8 S8 ow8 k a1 b2;have a8:Wf w7 E ko:=I.O e7;have a7:Wf w8 S8 ow8:=by obtain⟨_,e,_⟩:=b2;exact e.wf
  refine rg aB X Xh ?_;intro w9 e9;have H:=SX.refl aB w9
  repeat refine sm k fun a k=>?_
  refine iK (s:=((j+1:Nat):Int)) k (by assumption) rfl (by decide) rfl rfl (wrap64 (by omega) (by omega)) fun a k=>?_
  repeat refine sm k fun a k=>?_
  refine ay ⟨g.net.length-(j+1),by omega,j+1,S8,ow8,rfl,by omega,k.sb,(kM d a8 G a1 nE).Y d a7 e9,(kM J a8 q a1 nE).Y J a7 e9,?_,?_⟩
  .rw[CK B];obtain⟨R',e,D,h2⟩:=b2;exact⟨R',e.O e9,D,h2⟩
  rw[CK B];exact c2
 rw[if_neg (by simpa using C)];refine wp_exit ?_;have c1:j=g.net.length:=by omega
 subst c1;rw[dK]at O;exact N _ _ E ko (k.sb) G O
end
end Go.Proofs.Ytjhmkaninmgilaa
