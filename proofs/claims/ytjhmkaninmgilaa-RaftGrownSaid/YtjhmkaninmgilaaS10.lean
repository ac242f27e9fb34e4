/- Part 10 of the proof of RaftGrown; no condition. -/
import Derived.Test.YtjhmkaninmgilaaS07
import Derived.Test.YtjhmkaninmgilaaS05
import Derived.Test.YtjhmkaninmgilaaS04
import Derived.Test.YtjhmkaninmgilaaS09
set_option linter.defProp false
set_option linter.unusedVariables false
set_option linter.unusedSimpArgs false
set_option maxHeartbeats 4000000
open Go.IntKind (i64)
namespace Go.Proofs.Ytjhmkaninmgilaa
open Go Go.RowKit Go.dG Go.Proofs
def c81:bn Try.prog 81 s81 (pre 81) (cB 81):=by
 refine zF (vI (Φ:=cB) (Pre:=pre)) Try.func81 (v:=Zj) ?_;intro K h G;obtain⟨_,_,rfl,F,_,_,rfl,E,rfl⟩:=h;obtain⟨a,rfl,J,w⟩:=vt F;obtain⟨b,rfl,H,u⟩:=vt E;have A:cB 81 [.list (a.map (D.int i64)),.list (b.map (D.int i64))]=.bool (decide (a=b)):=by simp[cB,eW]
 simp[Zj,fc,ep,dZ,cF,eh,dw,fb,fg,ff,fJ,den,U.den,B.den,fy,aV,cO,ez,ev,ew,fA,bR,cK,ab,aS,bq,aj,pre,A];refine⟨fun h=>?_,fun h=>?_⟩
 .intro e;exact h (by rw[e])
 refine kT.intro (fun j=>∃n:Nat,j=[.bool false,.int i64 n]/\n<=a.length/\a.take n=b.take n) (fun j=>a.length-(I (.list j) 1).toNat) ⟨0,rfl,aB _,by simp⟩ ?_;intro j m C;obtain⟨n,rfl,t,d⟩:=C;clear m;rcases c:a[n]? with _|x
 .have z:=tk c;have f:¬((n:Int)<a.length):=by omega
  have e:n=a.length:=by omega
  subst e;rw[cH,dz (by omega)]at d;simp[bR,d]
 have f:=tg c;have i:(n:Int)<a.length:=by omega
 have r:=bT c;have o:IntKind.wrap i64 ((n:Int)+1)=(n:Int)+1:=wrap64 (by omega) (by omega);obtain⟨y,k⟩:∃y,b[n]?=some y:=⟨_,aR (by omega)⟩;have s:a.take (n+1)=a.take n++[x]:=by rw[ca,c,dQ]
 have p:b.take (n+1)=b.take n++[y]:=by rw[ca,k,dQ]
 have g:(n:Int)<b.length:=by omega
 simp[bR,c,k,i,g,o,Nat.not_le.2 f];refine⟨fun q e=>?_,fun l=>⟨⟨n+1,by simp,f,by rw[s,p,d,l]⟩,?_⟩⟩
 .rw[e,k]at c;injection c with c;exact q c.symm
 show a.length-((n:Int)+1).toNat<a.length-(n:Int).toNat;omega
def Uc:jf Try.prog pre cB [(81,s81)]:=aN c81 vI
def c62:bn Try.prog 62 s62 (pre 62) (cB 62):=by refine zF Uc Try.func62 (v:=Zv) ?_;intro q h p;obtain⟨_,_,rfl,k,_,_,rfl,j,rfl⟩:=h;obtain⟨m,o,rfl,f,b,i,d⟩:=vz k;obtain⟨l,n,rfl,e,a,g,c⟩:=vz j;simp[Zv,fc,ep,dZ,cF,eh,dw,fb,fg,ff,fJ,den,U.den,B.den,fy,aV,cO,ez,ev,ew,fA,bR,cK,ab,aS,bq,aj,pre,ahf,adB]
def Uu:jf Try.prog pre cB [(62,s62),(81,s81)]:=aN c62 Uc
def c31:bn Try.prog 31 s31 (pre 31) (cB 31):=by refine zF Uu Try.func31 (v:=afL) ?_;intro d h c;obtain⟨x,_,rfl,b,y,_,rfl,a,rfl⟩:=h;refine zH D.Z D.bool false (y:=KB x y) zK
def adR:jf Try.prog pre cB [(31,s31),(62,s62),(81,s81)]:=aN c31 Uu
def c8:bn Try.prog 8 s8 (pre 8) (cB 8):=by refine zF adR Try.func8 (v:=vc8) ?_;intro j h c;obtain⟨_,_,rfl,⟨a,rfl,i⟩,_,_,rfl,⟨b,rfl,g⟩,rfl⟩:=h;replace c:b≠0:=c;have d:cB 8 [.int i64 a,.int i64 b]=.int i64 (Ch a b):=rfl;simp[vc8,fc,ep,dZ,cF,eh,dw,fb,fg,ff,fJ,den,U.den,B.den,fy,aV,cO,ez,ev,ew,fA,bR,cK,pre,d,Ch,c];exact⟨fun f e=>by omega,fun f e=>by omega⟩
attribute [local irreducible] TL
def BU(x:D):D:=.agg (x.V.drop 2)
def jA(l:Tah)(n:Int):Tah:=l++List.replicate (n+1-l.length).toNat oh
def qS(x:D)(g:GS):GS:=
 let t:=jA g.told (cD 0 x).J;let y:=t.getD (cD 0 x).J.toNat .top
 {g with told:=t.set (cD 0 x).J.toNat x,bad:=g.bad||((cD 0 y).J !=0&&((cD 1 y).J !=(cD 1 x).J|| !KB (BU x) (BU y)))}
def IL{l:Tah}{n:Int}(h:(l.length:Int)<=n):jA (l++[oh]) n=jA l n:=by unfold jA;rw[cX,ah,ba];congr 1;rw[show(n+1-(l.length:Int)).toNat=(n+1-((l.length+1:Nat):Int)).toNat+1 by omega,List.replicate_succ];rfl
def IM{l:Tah}{n:Int}(h:n<(l.length:Int)):jA l n=l:=by unfold jA;rw[show(n+1-(l.length:Int)).toNat=0 by omega];simp
def zeroV:Ty->Tao
 |.int k=>.int k 0
 |.bool=>.bool false
 |.list _=>.slice none 0 0
 |_=>.pointer none
def mH:Tad:=eD.cells.map zeroV
def IV:Try.prog.built 78 []=some mH.toArray:=by kernel_rfl
def F6{w:Tan}{S:bG}:∀(j:Nat) u c,mH[j]?=some u->oh.cells[j]?=some c->bV w S u c:=by
 intro j u c e h
 have k:∀(l:List (Tao×D)),(∀p∈l,bV w S p.1 p.2)->∀(j:Nat) (u:Tao) (c:D),(l.map (·.1))[j]?=some u->(l.map (·.2))[j]?=some c->bV w S u c:=by intro l o j u c e h;rw[ab,cQ]at e h;obtain⟨p,d,rfl⟩:=e;obtain⟨q,f,rfl⟩:=h;rw[d]at f;injection f with f;subst f;exact o p (bT d)
 refine k (mH.zip oh.cells) ?_ j u c (by rw[show(mH.zip oh.cells).map (·.1)=mH from rfl];exact e) (by rw[show(mH.zip oh.cells).map (·.2)=oh.cells from rfl];exact h)
 have m:∀p∈mH.zip oh.cells,p=(Value.int i64 0,D.int i64 0)\/p=(.bool false,.bool false)\/p=(.slice none 0 0,.list []):=by have:mH.zip oh.cells=[(.int i64 0,.int i64 0),(.int i64 0,.int i64 0),(.int i64 0,.int i64 0),(.int i64 0,.int i64 0),(.int i64 0,.int i64 0),(.int i64 0,.int i64 0),(.int i64 0,.int i64 0),(.int i64 0,.int i64 0),(.int i64 0,.int i64 0),(.slice none 0 0,.list []),(.int i64 0,.int i64 0),(.bool false,.bool false),(.int i64 0,.int i64 0),(.int i64 0,.int i64 0),(.int i64 0,.int i64 0),(.bool false,.bool false),(.bool false,.bool false),(.int i64 0,.int i64 0),(.int i64 0,.int i64 0),(.int i64 0,.int i64 0),(.slice none 0 0,.list []),(.int i64 0,.int i64 0),(.int i64 0,.int i64 0),(.int i64 0,.int i64 0),(.slice none 0 0,.list []),(.slice none 0 0,.list []),(.bool false,.bool false),(.slice none 0 0,.list []),(.slice none 0 0,.list [])]:=rfl;rw[this];intro p d;simp only[aH,dv,or_false]at d;rcases d with rfl|rfl|rfl|rfl|rfl|rfl|rfl|rfl|rfl|rfl|rfl|rfl|rfl|rfl|rfl|rfl|rfl|rfl|rfl|rfl|rfl|rfl|rfl|rfl|rfl|rfl|rfl|rfl|rfl<;>first|exact .inl rfl|exact .inr (.inl rfl)|exact .inr (.inr rfl)
 intro p d;rcases m p d with rfl|rfl|rfl
 .exact .int _ _
 .exact .bool _
 exact .nil _ _
def F7:Has eD oh:=by
 have d:∀(c:Tam),(∀t∈c,t=.int i64\/t=.bool\/∃u,t=.list u)->dr (.Y c) (c.map fun t=>match t with| .int k=>.int k 0| .bool=>.bool false| .list _=>.list [] |_=>.top):=by
  intro c
  induction c with
  |nil=>intro _;exact dk.2 rfl
  |cons t c ih=>
   intro h;refine aA.2 ⟨_,_,rfl,?_,ih fun t e=>h t (ao _ e)⟩;rcases h t (by simp) with rfl|rfl|⟨u,rfl⟩
   .exact⟨0,rfl,by decide⟩
   .exact⟨_,rfl⟩
   exact⟨[],rfl,gy u,fun _ h=>by cases h⟩
 refine eA.2 ⟨_,rfl,d ([.int i64,.int i64]++Dw) ?_⟩;intro t e
 have:∀t∈([.int i64,.int i64]++Dw:Tam),(match t with| .int i64=>true| .bool=>true| .list _=>true|_=>false)=true:=by rw[<-bU];rfl
 have h:=this t e;cases t with
 |int k=>cases k<;>first|exact .inl rfl|(exact absurd h (by decide))
 |bool=>exact .inr (.inl rfl)
 |list u=>exact .inr (.inr ⟨u,rfl⟩)
 |_=>simp at h
def pX{f:Nat}{ps:Tam}{Pre:Tah->Prop}{Φ:Tah->D}{w:Tan}{S:bG}{ow:Ow}{vs:Tad}{dd:Tah}{c:Bool}(G:bn Try.prog f ⟨ps,[(false,[(.bool,none)])],none⟩ Pre Φ)(p:Wf w S ow)(C:vs.length=dd.length)(q:∀(i:Nat) v d,vs[i]?=some v->dd[i]?=some d->bV w S v d)(A:dr (.Y ps) dd)(r:Pre dd)(t:Φ dd=.bool c):Calls Try.prog f vs.toArray w fun e E=>e=.returned (.bool c)/\bB ax ax w S ow E S ow/\Wf E S ow:=by
 refine(G.calls rfl w S vs dd p.s C q A r).mono ?_;rintro e y ⟨v,S',τ,rfl,hb,_,_,_,mM,_⟩
 have B:bB ax ax w S ow y S ow/\Wf y S ow:=⟨⟨hb.size,hb.os,hb.tape,hb.output,fun b _ m _ _=>hb.block b m,fun b m _ _=>hb.block b m,fun _ _ h=>h,fun b o hs=>bj (hb.block b (p.s b o hs)),fun _ _ h _=>h,fun _ _ h=>.inl h,fun _ _ h=>h,fun _ _ h=>.inl h⟩,
  ⟨fun b o hs=>ar (p.s b o hs) hb.size,fun b l C=>ar (p.o b l C) hb.size,p.d⟩⟩
 rw[t]at mM;rcases mM with⟨c',u,hq⟩|⟨u,_⟩
 .injection u with u;subst u;unfold fY at hq;simp only[ai,if_false]at hq;obtain⟨x,z,k⟩:=hq;injection z with z;subst z;have F:bV y S' v (.bool c):=k.1;rw[F.gV];exact⟨rfl,B⟩
 exact absurd rfl u
def jl{w0 w d:Tan}{S0 S e:bG}{kJ ow iT:Ow}{X:Taj}(c:Wf w0 S0 kJ)(f:Wf w S ow)(h:bB LG ax w0 S0 kJ w S ow)(k:bB LG X w S ow d e iT)(l:∀b,X b->w0.heap.size<=b):bB LG ax w0 S0 kJ d e iT:=
 (h.tr c f k (fun b h=>.inr (l b h))).mono (fun _ h=>h.elim id id) (fun _ h=>h)
section
variable{w0 w:Tan}{S0 S:bG}{kJ ow:Ow}{b b6 b9 i:Nat}{g:GS}{R:GR}{Q:O3}{a:Act}{xs:Tad}{j:Nat}{n:Int}
noncomputable def AW:Code:=.block 2 (.loop (.seq (.seq (.region 9 NN true) (.cond (.tmp 57) .skip (.exit 2))) (.block 3 (.region 10 HE false))))
def KN(hQ:QP Q)(y:GM w S ow b (R.cells g.bad) R g)(lx:fU w S ow b9 78 xs)(hx:xs[0]?=some (.int i64 n))(h0:0<=n)(hn:n<=300000000000)(Y:g.told.length<=300000000001)(k:Kn 109 a [(9,.pointer (some ⟨b9,0,none⟩)),(8,.int i64 j),(6,.pointer (some ⟨b6,0,none⟩)),(0,bM b),(1,.int i64 i)])(t:∀a W o v,Kn 109 a [(9,.pointer (some ⟨b9,0,none⟩)),(8,.int i64 j),(6,.pointer (some ⟨b6,0,none⟩)),(0,bM b),(1,.int i64 i)]->bB LG ax w S ow W S o->GM W S o b ({R with told:=v}.cells g.bad) {R with told:=v} {g with told:=jA g.told n}->(jA g.told n).length<=300000000001->Q .normal a W):AW.wp Try.prog Q a w:=by
 unfold AW
 refine wp_block (wp_loop_ghost (fun mm a W=>∃(l:Tah) (v:Tao) (e:Ow),mm=(n+1-(l.length:Int)).toNat/\Kn 109 a [(9,.pointer (some ⟨b9,0,none⟩)),(8,.int i64 j),(6,.pointer (some ⟨b6,0,none⟩)),(0,bM b),(1,.int i64 i)]/\
  bB LG ax w S ow W S e/\GM W S e b ({R with told:=v}.cells g.bad) {R with told:=v} {g with told:=l}/\jA l n=jA g.told n/\l.length<=300000000001) (n+1-(g.told.length:Int)).toNat
  ⟨g.told,R.told,ow,rfl,k,bB.refl _ _ _ _ _,y,rfl,Y⟩ ?_)
 clear k;rintro mm a W ⟨l,v,e,rfl,k,GX,gm1,hfl,hll⟩;have O:=lx.O GX id;refine wp_seq (wp_seq (fV (n0:=8) ax mix (by exact hQ) acs (fun _=>by kernel_rfl) ?_));intro L e2;have f:=gm1.W e2;have C:=O.W e2;have B:=GX.eN y.wf gm1.wf e2;have s0:=SX.refl ax L;obtain⟨A,cap,hv⟩:=f.told.slice;have X:v=.slice A l.length cap:=hv
 repeat (first|refine sm k fun a k=>?_|refine ld k (C.cell id hx) fun a k=>?_|refine ld k (f.cell id rfl) fun a k=>?_)
 rw[show({R with told:=v}:GR).told=v from rfl,X]at k
 repeat (first|refine sm k fun a k=>?_|refine ld k (C.cell id hx) fun a k=>?_|refine ld k (f.cell id rfl) fun a k=>?_)
 refine cm (c:=decide ((l.length:Int)<=n)) k rfl rfl rfl fun a k=>?_;refine av (bw k rfl ?_);have k:=k.sb (l:=[(9,.pointer (some ⟨b9,0,none⟩)),(8,.int i64 j),(6,.pointer (some ⟨b6,0,none⟩)),(0,bM b),(1,.int i64 i)]);by_cases hc:(l.length:Int)<=n
 .rw[if_pos (by simpa using hc)];refine wp_skip (wp_block (rg (fun J=>e J=some 12) hQ W9 ?_));intro K e3;have m:=f.W e3;have N:=B.eN y.wf f.wf e3;have s0:=SX.refl (fun J=>e J=some 12) K;have U:¬e b=some 12:=by rw[m.obj.ow];decide
  repeat (first|refine sm k fun a k=>?_|refine ld k (m.cell U rfl) fun a k=>?_)
  refine gU (ps:=[]) (vs:=mH) k (by assumption) rfl (by decide) rfl IV fun a k=>?_;refine lX (kk:=29) (T:=78) k (by decide) rfl (by decide) rfl (by kernel_rfl) rfl (fun _=>SX.alloc _ _ _) fun a k=>?_;obtain⟨F,r⟩:=bB.alloc m.wf (.cells (Value.agg mH.toArray).cells 78);have I:=m.O F r;refine tO k (by decide) rfl (by decide) fun ty a1 af=>?_;obtain⟨M,w',G,o,p,s,H⟩:=I.told.Fa (P:=Try.prog) (tt:=28) (by kernel_rfl) rfl r ty K.heap.size (d:=oh) F7 (us:=mH) rfl (heap_alloc_new K _) (fun q u c h1 h2=>F6 q u c h1 h2) (tE (by show l.length+1<=_;omega));have s1:SX (fun J=>e J=some 12) K w':=(SX.alloc _ _ _).trans (SX.iu (fun _ h=>h) p);refine⟨M,w',jj (k.op rfl) (k.op rfl) G,fun _=>s1,fun a k=>?_⟩;have x:=I.FD p s H;obtain⟨Av,cv,E⟩:=H.slice
  repeat refine sm k fun a k=>?_
  refine jV (cur:={R with told:=v}.cells g.bad) k (by decide) rfl (by kernel_rfl) rfl rfl (by rw[E];rfl) x.obj.heap (by show 5<11;omega) (by rw[E];rfl) (fun h=>absurd rfl h) fun a k=>?_;refine av ?_;obtain⟨z,V,Z⟩:=x.obj.set s (us:=({R with told:=v}.cells g.bad).set 5 M);have a0:=x.setObj z V Z;have sA:=N.eC y.wf m.wf F nE;have sB:=sA.fF y.wf r p (.inl (by decide));have sC:=sB.fF y.wf s z (.inl (by decide));refine⟨_,?_,l++[oh],M,o,rfl,k.sb,sC,a0,(IL hc).trans hfl,by rw[ah,ba];omega⟩;rw[ah,ba];omega
 rw[if_neg (by simpa using hc)];refine wp_exit ?_;have hd:=IM (l:=l) (n:=n) (by omega);rw[hd]at hfl;show Q .normal a L;refine t a L e v k B ?_ ?_
 .rw[<-hfl];exact f
 rw[<-hfl];exact hll
end
end Go.Proofs.Ytjhmkaninmgilaa
namespace Go.Proofs.Ytjhmkaninmgilaa
open Go Go.RowKit Go.dG Go.Proofs
def Ff{P:Tba}{ops:Tae}{Q:O3}{S:Taf}{n n0 i d j t:Nat}{A:Bool}{a:Act}{w:Tan}{m:Tac}{L r:List OK}{op:Op}(k:Kn n a m)(s:S w)(F:(L[j]?).bind (·.1)=some t)(D:lk m t=some undef)(z:d<n)(h:∀B,Kn n B ((d,undef)::m)->TL P ops Q S n0 L r (i+1) B w):TL P ops Q S n0 L ((some d,op,some (j,A))::r) i a w:=by
 intro f E;obtain⟨⟨o,e,u⟩,c⟩:=sY f E;obtain⟨I,p,C,l,J,H⟩:=o;simp only[P5,ae]at u;obtain⟨rfl,rfl,rfl⟩:=u
 have q:(ops[j]?).bind (·.dst)=some t:=by
  rw[<-F,<-f];unfold bK;rw[ab];cases e:ops[j]? with
  |none=>simp[e]
  |some o=>simp[e,P5]
 have v:Region.wanted ⟨some d,p,C,l,J,some (j,A)⟩ (yielded ops a.tmps)=false:=by unfold Region.wanted;have G:=k.2.2 t _ D;simp only[yielded,q,cg,G];rfl
 show mg P ops Q S n0 (r.length+1) i a w;unfold mg;rw[e];simp only;by_cases y:i<n0
 .rw[if_pos y];exact⟨s,undef,.inr ⟨v,rfl⟩,h _ (k.put d undef z) f c⟩
 rw[if_neg y];exact(YieldsIf.wpOp (S:=S) e (.inr ⟨v,rfl⟩) s ⟨fun _=>s,h _ (k.put d undef z) f c⟩)
attribute [local irreducible] TL
def zw{w:Tan}{S:bG}{x:D}{us:Tad}(h:Has eD x)(J:us.length=29)(p:∀(q:Nat) u c,us[q]?=some u->x.cells[q]?=some c->bV w S u c):
  bV w S (.agg (us.drop 2).toArray) (BU x)/\Has zR (BU x)/\us[0]?=some (.int i64 (cD 0 x).J)/\us[1]?=some (.int i64 (cD 1 x).J)/\∀u∈us,u.oneCell'=true:=by
 have H:=h;obtain⟨l,rfl,k⟩:=eA.1 h;have m:l.length=29:=by rw[gh k,Ty.dT];rfl
 obtain⟨G,f⟩:∃u,us[0]?=some u:=⟨_,aR (by omega)⟩;obtain⟨F,e⟩:∃u,us[1]?=some u:=⟨_,aR (by omega)⟩;obtain⟨W,X,U,N,t⟩:=aA.1 k;obtain⟨V,r,T,M,s⟩:=aA.1 t;subst T;subst U;obtain⟨C,rfl,_⟩:=N;obtain⟨B,rfl,_⟩:=M;have P:=(p 0 G _ f rfl).dj;have O:=(p 1 F _ e rfl).dj;subst P O;refine⟨.agg _ _ (by rw[bh,J];show 29-2=r.length;simp only[bu]at m;omega) ?_,eA.2 ⟨_,rfl,s⟩,f,e,?_⟩
 .intro q u c o L;rw[aL]at o
  have A:(D.agg (.int i64 C:: .int i64 B::r)).cells[2+q]?=some c:=by show(D.int i64 C:: .int i64 B::r)[2+q]?=some c;rw[show 2+q=q+1+1 by omega];exact L
  exact p _ u c o A
 intro u o;obtain⟨q,E⟩:=au o;have I:q<us.length:=(aD.1 E).1;obtain⟨K,v⟩:=cZ H;have d:q<eD.cells.length:=by rw[jF];omega
 obtain⟨c,z,y⟩:=v q (eD.cells[q]'d) (aR d);exact(p q u c E z).iH y (bU.1 (show eD.cells.all Ty.scalar=true from rfl) _ (aF d))
def Ly{l:Tah}{n:Int}(h:0<=n):n.toNat<(jA l n).length:=by unfold jA;rw[ah,List.length_replicate];omega
section
variable{w0 w:Tan}{S0 S:bG}{kJ ow:Ow}{b b6 b9 i:Nat}{g:GS}{R:GR}{Q:O3}{a:Act}{vo xs:Tad}{j:Nat}{n:Int}{A6:Tap Addr}{c6:Nat}{cs:Tah}{x:D}
noncomputable def D8:Code:=.seq (.region 8 NO false) (.seq AW (.seq (.region 11 HD true) (.seq (.region 12 HC false) (.seq (.seq (.region 13 HB false) (.cond (.tmp 94) (.region 14 DR false) .skip)) (.region 15 Ak true)))))
def take_one(hQ:QP Q)(E:GM w S ow b (R.cells g.bad) R g)(lo:fU w S ow b6 75 vo)(h6:vo[6]?=some (.slice A6 cs.length c6))(h8:bV w S (.slice A6 cs.length c6) (.list cs))(i0:Has (.list eD) (.list cs))(hj:cs[j]?=some x)(h0:0<=(cD 0 x).J)(hn:(cD 0 x).J<=300000000000)(h7:g.told.length<=300000000001)(k:Kn 109 a [(8,.int i64 j),(6,.pointer (some ⟨b6,0,none⟩)),(0,bM b),(1,.int i64 i)])(c9:∀a W d2 v,Kn 109 a [(8,.int i64 j),(6,.pointer (some ⟨b6,0,none⟩)),(0,bM b),(1,.int i64 i)]->bB LG ax w S ow W S d2->GM W S d2 b ({R with told:=v}.cells (qS x g).bad) {R with told:=v} (qS x g)->(qS x g).told.length<=300000000001->Q .normal a W):D8.wp Try.prog Q a w:=by
 have a8:=mQ i0 x (bT hj);have i8:j<cs.length:=(aD.1 hj).1;generalize f1:(cD 0 x).J=n at h0 hn;unfold D8;refine wp_seq (rg ax hQ acu ?_);intro w1 e1;have Z:=E.W e1;have a5:=lo.W e1;have b7:=(bB.refl LG ax w S ow).eN E.wf E.wf e1;have s0:=SX.refl ax w1;obtain⟨bx,ox,cx,B,e0,g0,z,f5,P,i9,f4⟩:=zm (h8.O (bB.W e1 ax ax S ow)) hj a8;have f9:=Z.wf.s _ _ g0;obtain⟨i1,i2,a6,h5,U⟩:=zw a8 z P
 repeat (first|refine sm k fun a k=>?_|refine ld k (a5.cell id h6) fun a k=>?_)
 rw[e0]at k;refine ot (el:=78) (sz:=29) k (by assumption) rfl (by decide) rfl rfl (by kernel_rfl) (by kernel_rfl) (by omega) (by omega) fun a k=>?_;rw[cY]at k;refine lN (vs:=B) k rfl z (fun w' t q v o=>eP f9 (fun h=>h) (f5 q v o) w' t) fun a k=>?_;refine mn (nn:=29) k (by decide) rfl (by decide) (by kernel_rfl) (fun zs _=>SX.alloc _ _ _) fun zs c2 a k=>?_;refine lv (vs:=B) (cur:=zs.toArray) k (by decide) rfl (by rw[z];kernel_rfl) rfl rfl rfl (heap_alloc_new w1 _) (by rw[cb];omega) U (fun h=>absurd rfl h) fun a k=>?_;refine av ?_;rw[fill_eq c2 z];obtain⟨K,d9,L⟩:=nV (T:=78) (zs:=zs) (us:=B) Z.wf;have Y:=Z.O K d9;have h9:w.heap.size<=w1.heap.size:=b7.size;have a4:=a5.O K (fun e=>by have:=a5.lt;rw[show b6=w1.heap.size from e]at this;omega);have sA:=b7.eC E.wf Z.wf K (fun bb hb=>by rw[show bb=_ from hb];exact h9);have H:∀(q:Nat) u c,B[q]?=some u->x.cells[q]?=some c->bV _ S u c:=fun q u c p A=>(P q u c p A).O K;generalize j0:w1.heap.size=b9 at k L h9 sA Y a4 H⊢;generalize i4:(w1.alloc _).setRow b9 _=w2 at L sA Y a4 H⊢;have k:=k.sb (l:=[(9,.pointer (some ⟨b9,0,none⟩)),(8,.int i64 j),(6,.pointer (some ⟨b6,0,none⟩)),(0,bM b),(1,.int i64 i)]);clear K d9 i4 i1 e0 g0 f5 f4 f9 P s0 b7 a5 Z e1;rw[f1]at a6;refine wp_seq (KN (by exact hQ) Y L a6 h0 hn h7 k ?_);intro a w3 f v3 k J b1 e2;have d4:=L.O J id;have d6:=a4.O J id;have sB:=jl E.wf Y.wf sA J nE;have b3:∀(q:Nat) u c,B[q]?=some u->x.cells[q]?=some c->bV w3 S u c:=fun q u c p A=>(H q u c p A).O J;have a7:=Ly (l:=g.told) h0;have hN:((n.toNat:Nat):Int)=n:=Int.toNat_of_nonneg h0;obtain⟨y,hy⟩:∃y,(jA g.told n)[n.toNat]?=some y:=⟨_,aR a7⟩;have g9:(jA g.told n).getD n.toNat .top=y:=by rw[ag,hy,bq]
 have f2:Has eD y:=b1.told.all y (bT hy);clear H L Y a4 sA J;refine wp_seq (fV (n0:=8) ax mix (by exact hQ) W8 (fun _=>by kernel_rfl) ?_);intro w4 e4;have I:=b1.W e4;have a2:=d4.W e4;have c1:=d6.W e4;have sC:=sB.eN E.wf b1.wf e4;have s0:=SX.refl ax w4;obtain⟨bt,g3,uy,a9,d0,e7,m,M,c5⟩:=I.told.elem hy;rw[jF]at m M;obtain⟨f7,f8,h4,h3,c7⟩:=zw f2 m c5
 repeat (first|refine sm k fun a k=>?_|refine ld k (a2.cell id a6) fun a k=>?_|refine ld k (I.cell id rfl) fun a k=>?_)
 rw[<-hN]at k;rw[a9]at k;refine zg (el:=78) (sz:=29) k rfl rfl a7 fun a k=>?_;refine lN (vs:=uy) k rfl m (fun w' t q v o=>eP d0 (fun h=>h) (M q v o) w' t) fun a k=>?_;refine mn (nn:=29) k (by decide) rfl (by decide) (by kernel_rfl) (fun zs _=>SX.alloc _ _ _) fun zs c2 a k=>?_;refine lv (vs:=uy) (cur:=zs.toArray) k (by decide) rfl (by rw[m];kernel_rfl) rfl rfl rfl (heap_alloc_new w4 _) (by rw[cb];omega) c7 (fun h=>absurd rfl h) fun a k=>?_;refine av ?_;rw[fill_eq c2 m];obtain⟨C,d8,a0⟩:=nV (T:=78) (zs:=zs) (us:=uy) I.wf;have X:=I.O C d8;have g1:w.heap.size<=w4.heap.size:=sC.size;have a3:=c1.O C (fun e=>by have:=c1.lt;rw[show b6=w4.heap.size from e]at this;omega);have a1:=a2.O C (fun e=>by have:=a2.lt;rw[show b9=w4.heap.size from e]at this;omega);have sD:=sC.eC E.wf I.wf C (fun bb hb=>by rw[show bb=_ from hb];exact g1);have G:∀(q:Nat) u c,B[q]?=some u->x.cells[q]?=some c->bV _ S u c:=fun q u c p A=>((b3 q u c p A).O (bB.W e4 ax ax S f)).O C;have F:∀(q:Nat) u c,uy[q]?=some u->y.cells[q]?=some c->bV _ S u c:=fun q u c p A=>(c5 q u c p A).O C;generalize i6:w4.heap.size=d1 at k a0 g1 sD X a3 a1 G F⊢;generalize i3:(w4.alloc _).setRow d1 _=w5 at a0 sD X a3 a1 G F⊢;have k:=k.sb (l:=[(10,.pointer (some ⟨d1,0,none⟩)),(9,.pointer (some ⟨b9,0,none⟩)),(8,.int i64 j),(6,.pointer (some ⟨b6,0,none⟩)),(0,bM b),(1,.int i64 i)]);clear C d8 i3 a9 d0 e7 M c5 f7 s0 sC c1 a2 I e4 b3 sB d6 d4 b1;refine wp_seq (rg ax hQ W7 ?_);intro w6 e6;have b0:=X.W e6;have c0:=a1.W e6;have d5:=a3.W e6;have b8:=a0.W e6;have sE:=sD.eN E.wf X.wf e6;have s0:=SX.refl ax w6;have O:∀(q:Nat) u c,B[q]?=some u->x.cells[q]?=some c->bV w6 S u c:=fun q u c p A=>(G q u c p A).O (bB.W e6 ax ax S f);have b2:∀(q:Nat) u c,uy[q]?=some u->y.cells[q]?=some c->bV w6 S u c:=fun q u c p A=>(F q u c p A).O (bB.W e6 ax ax S f)
 repeat refine sm k fun a k=>?_
 refine lN (vs:=B.drop 2) k rfl (by rw[bh,z]) (fun w' t q v o=>by rw[aL]at o;rw[aq];exact c0.cell id o w' t) fun a k=>?_
 repeat refine sm k fun a k=>?_
 refine lN (vs:=uy.drop 2) k rfl (by rw[bh,m]) (fun w' t q v o=>by rw[aL]at o;rw[aq];exact b8.cell id o w' t) fun a k=>?_
 refine iB (vs:=[.agg (B.drop 2).toArray,.agg (uy.drop 2).toArray]) k (by decide) rfl (by decide) c31.enter rfl (pX (dd:=[BU x,BU y]) (c:=KB (BU x) (BU y)) c31 b0.wf rfl (fun q v d o hd=>by
  match q,o,hd with
  |0,o,hd=>injection o with o;injection hd with hd;subst o hd;exact(zw a8 z O).1
  |1,o,hd=>injection o with o;injection hd with hd;subst o hd;exact(zw f2 m b2).1) (aA.2 ⟨_,_,rfl,i2,aA.2 ⟨_,_,rfl,f8,dk.2 rfl⟩⟩) trivial rfl) ?_
 rintro e w7 ⟨rfl,G6,YJ⟩;refine⟨_,rfl,fun _=>G6.xL _,fun a k=>?_⟩;have s1:=G6.xL ax
 repeat refine sm k fun a k=>?_
 refine av ?_;have g2:=b0.O G6 YJ;have g8:=c0.O G6 id;have i7:=d5.O G6 id;have g6:=b8.O G6 id;have sF:=sE.eC E.wf b0.wf G6 nE;have e3:∀(q:Nat) u c,B[q]?=some u->x.cells[q]?=some c->bV w7 S u c:=fun q u c p A=>(O q u c p A).O G6;generalize c4:KB (BU x) (BU y)=same at k;have k:=k.sb (l:=[(11,.bool same),(10,.pointer (some ⟨d1,0,none⟩)),(9,.pointer (some ⟨b9,0,none⟩)),(8,.int i64 j),(6,.pointer (some ⟨b6,0,none⟩)),(0,bM b),(1,.int i64 i)]);clear G6 YJ s1 s0 sE d5 c0 b8 b0 e6 O b2 G F sD a3 a1 a0 X
 have last:∀(a:Act) (W:Tan) (c:Bool),GM W S f b ({R with told:=v3}.cells c) {R with told:=v3} {g with told:=jA g.told n,bad:=c}->fU W S f b9 78 B->(∀(q:Nat) u c,B[q]?=some u->x.cells[q]?=some c->bV W S u c)->bB LG ax w S ow W S f->
   c=(g.bad||((cD 0 y).J !=0&&((cD 1 y).J !=(cD 1 x).J|| !same)))->Kn 109 a [(9,.pointer (some ⟨b9,0,none⟩)),(8,.int i64 j),(6,.pointer (some ⟨b6,0,none⟩)),(0,bM b),(1,.int i64 i)]->(Code.region 15 Ak true).wp Try.prog Q a W:=by
  intro a W c E lx P st hc k;refine fV (n0:=7) ax mix (by exact hQ) W3 (fun _=>by kernel_rfl) ?_;intro w8 e8;have r:=E.W e8;have D:=lx.W e8;have g5:=st.eC ‹GM w S ow b (R.cells g.bad) R g›.wf E.wf (bB.W e8 ax ax S f) nE;have s0:=SX.refl ax w8;obtain⟨bt,g3,i5,a9,f6,b4,d0,e7,b5,d7,f0⟩:=r.told.set (i:=n.toNat) (d:=x) (us:=B) r.wf a7 a8 (by rw[jF];exact z) (fun q u c p A=>(P q u c p A).O (bB.W e8 ax ax S f));rw[jF]at b4 b5 d7 f0
  repeat (first|refine sm k fun a k=>?_|refine ld k (r.cell id rfl) fun a k=>?_)
  refine ld k (D.cell id a6) fun a k=>?_;refine lN (vs:=B) k rfl z (fun w' t q v o=>by rw[aq];exact D.cell id o w' t) fun a k=>?_;rw[<-hN]at k;rw[a9]at k;refine zg (el:=78) (sz:=29) k rfl rfl a7 fun a k=>?_;refine lv (vs:=B) (cur:=i5) k (by decide) rfl (by rw[z];kernel_rfl) rfl rfl rfl f6 b4 U (fun h=>absurd rfl h) fun a k=>?_;refine av ?_;have V:=r.FD b5 d7 f0
  have f3:qS x g={g with told:=(jA g.told n).set n.toNat x,bad:=c}:=by unfold qS;simp only;rw[f1,g9,c4,hc]
  refine c9 _ _ f v3 (k.sb) (g5.fF ‹GM w S ow b (R.cells g.bad) R g›.wf r.wf b5 (.inl (by decide))) ?_ ?_
  .rw[f3];exact V
  rw[f3];show((jA g.told n).set n.toNat x).length<=_;rw[aK];exact e2
 refine wp_seq (wp_seq (rg ax hQ W5 ?_));intro w8 e8;have r:=g2.W e8;have D:=g8.W e8;have d3:=g6.W e8;have sG:=sF.eN E.wf g2.wf e8;have N:∀(q:Nat) u c,B[q]?=some u->x.cells[q]?=some c->bV w8 S u c:=fun q u c p A=>(e3 q u c p A).O (bB.W e8 ax ax S f);have s0:=SX.refl ax w8
 repeat (first|refine sm k fun a k=>?_|refine ld k (d3.cell id h4) fun a k=>?_)
 have mark:∀(a:Act),Kn 109 a [(9,.pointer (some ⟨b9,0,none⟩)),(8,.int i64 j),(6,.pointer (some ⟨b6,0,none⟩)),(0,bM b),(1,.int i64 i)]->(g.bad||((cD 0 y).J !=0&&((cD 1 y).J !=(cD 1 x).J|| !same)))=true->(Code.region 14 DR false).wp Try.prog (Exit.then (Code.wp Try.prog (.region 15 Ak true) Q) Q) a w8:=by
  intro a k hb;refine rg ax hQ W4 ?_;intro w9 e9;have V:=r.W e9;have g7:=D.W e9;have g4:=sG.eN E.wf r.wf e9;have s0:=SX.refl ax w9
  repeat refine sm k fun a k=>?_
  refine jV (cur:={R with told:=v3}.cells g.bad) k (by decide) rfl (by kernel_rfl) rfl rfl rfl V.obj.heap (by show 10<11;omega) rfl (fun h=>absurd rfl h) fun a k=>?_;obtain⟨p,A⟩:=V.zA true;exact av (last _ _ true A (g7.O p id) (fun q u c z1 z2=>((N q u c z1 z2).O (bB.W e9 ax ax S f)).O p) (g4.fF E.wf V.wf p (.inl (by decide))) hb.symm (k.sb))
 by_cases hz:(cD 0 y).J=0
 .refine cm (c:=false) k rfl rfl (by rw[hz];rfl) fun a k=>?_
  repeat refine sm k fun a k=>?_
  refine Ff k (by assumption) rfl rfl (by decide) fun a k=>?_;refine Ff k (by assumption) rfl rfl (by decide) fun a k=>?_
  repeat refine sm k fun a k=>?_
  refine pk k rfl rfl fun a k=>?_;refine av (bw k rfl (wp_skip ?_));exact last _ _ g.bad r D N sG (by rw[hz];cases g.bad<;>rfl) (k.sb)
 have c3:((cD 0 y).J !=0)=true:=by simpa using hz
 refine cm (c:=true) k rfl rfl (congrArg some c3) fun a k=>?_
 repeat (first|refine sm k fun a k=>?_|refine ld k (D.cell id h5) fun a k=>?_|refine ld k (d3.cell id h3) fun a k=>?_)
 by_cases hq:((cD 1 y).J !=(cD 1 x).J)=true
 .refine cm (c:=true) k rfl rfl (congrArg some hq) fun a k=>?_
  repeat refine sm k fun a k=>?_
  refine pk k rfl rfl fun a k=>?_;refine pk k rfl rfl fun a k=>?_;refine av (bw k rfl (mark a (k.sb) ?_));rw[c3,hq];cases g.bad<;>rfl
 have e5:((cD 1 y).J !=(cD 1 x).J)=false:=by simpa using hq
 refine cm (c:=false) k rfl rfl (congrArg some e5) fun a k=>?_
 repeat refine sm k fun a k=>?_
 refine qj k (by assumption) rfl (by decide) rfl fun a k=>?_;refine pk k rfl rfl fun a k=>?_;refine pk k rfl rfl fun a k=>?_;refine av (bw k rfl ?_);cases same with
 |true=>
  refine wp_skip (last _ _ g.bad r D N sG (by rw[e5];cases g.bad<;>simp) (k.sb))
 |false=>
  refine mark a (k.sb) ?_;rw[c3];cases g.bad<;>simp
end
def qh(o:D)(lost:Bool)(g:GS):GS:=if g.eI.length<400/\lost=false then{g with eI:=g.eI++(cD 5 o).V} else g
def fH(cs:Tah)(g:GS):GS:=cs.foldl (fun g x=>qS x g) g
def kz(i:Nat)(o:D)(lost:Bool)(g:GS):GS:=lz i (fH (cD 6 o).V (qh o lost (if(cD 0 o).Z then nD i o g else g)))
structure Mj(g g':GS):Prop where
 eT:g'.eT=g.eT
 cu:g'.cu=g.cu
 aT:g'.aT=g.aT
 br:g'.br=g.br
 saved:g'.saved.length=g.saved.length
def Mj.trans{g g' g'':GS}(h:Mj g g')(k:Mj g' g''):Mj g g'':=⟨k.eT.trans h.eT,k.cu.trans h.cu,k.aT.trans h.aT,k.br.trans h.br,k.saved.trans h.saved⟩
def Mj.Wr{g g':GS}(h:Mj g g')(k:wZ g):wZ g':=by obtain⟨c,l,d,f,e⟩:=h;exact⟨by rw[c];exact k.n5,by rw[c,l];exact k.cu,by rw[c,d];exact k.aT,by rw[c,e];exact k.saved,by rw[f];exact k.lead,by rw[d];exact k.vl⟩
def Gi(i:Nat)(o:D)(g:GS):Mj g (nD i o g):=⟨rfl,rfl,rfl,rfl,by unfold nD;simp⟩
def Sj(o:D)(l:Bool)(g:GS):Mj g (qh o l g):=by unfold qh;split<;>exact⟨rfl,rfl,rfl,rfl,rfl⟩
def P2(x:D)(g:GS):Mj g (qS x g):=⟨rfl,rfl,rfl,rfl,rfl⟩
def tJ:∀(l:Tah) (g:GS),Mj g (fH l g)
 |[],g=>⟨rfl,rfl,rfl,rfl,rfl⟩
 |x::r,g=>(P2 x g).trans (tJ r _)
def GH{cs:Tah}{j:Nat}{x:D}(h:cs[j]?=some x)(g:GS):fH (cs.take (j+1)) g=qS x (fH (cs.take j) g):=by
 have c:cs.take (j+1)=cs.take j++[x]:=by rw[ca,h];rfl
 unfold fH;rw[c,List.foldl_append];rfl
def Le:iC.bytes<=1000:=by decide+kernel
def Ll{n:Nat}(h:n<=100000000000):mG iC n:=by refine⟨by simp only[maxLen];omega,?_⟩;have:n*iC.bytes<=100000000000*1000:=Nat.mul_le_mul h Le;omega
section
variable{w0 w:Tan}{S0 S:bG}{kJ ow:Ow}{b b6 b9 i:Nat}{g g':GS}{R:GR}{Q:O3}{a:Act}{vo xs:Tad}{j:Nat}{n:Int}{A6:Tap Addr}{c6:Nat}{cs:Tah}{x:D}
noncomputable def vO:Code:=.seq (.seq (.region 5 NS false) (.block 0 (.loop (.seq (.seq (.region 6 NR false) (.cond (.tmp 42) .skip (.exit 0))) (.seq (.block 1 D8) (.region 7 NP false)))))) (.region 16 DQ false)
def FA(w:Tan)(S:bG)(ow:Ow)(b:Nat)(g':GS):O3:=bodyPost Try.prog Try.f14 (qR w S ow b g')
def CF(F:QP Q)(C:∀a w,FA w0 S0 kJ b g' .normal a w->Q .normal a w)(u:Wf w0 S0 kJ)(st:bB LG ax w0 S0 kJ w S ow)(y:GM w S ow b (R.cells g.bad) R g)(U:R.la=R.lb)(N:R.va=R.vv)(hl:wZ g)(hi:i<g.eT.length)(T:Ok (bS g i) 0)(lo:fU w S ow b6 75 vo)(A:vo[6]?=some (.slice A6 cs.length c6))(P:bV w S (.slice A6 cs.length c6) (.list cs))(E:Has (.list eD) (.list cs))(Y:∀x∈cs,0<=(cD 0 x).J/\(cD 0 x).J<=300000000000)(O:g.told.length<=300000000001)(hg:g'=lz i (fH cs g))(k:Kn 109 a [(6,.pointer (some ⟨b6,0,none⟩)),(0,bM b),(1,.int i64 i)]):vO.wp Try.prog Q a w:=by
 have a1:cs.length<=maxLen:=by obtain⟨l',Z,h2,_⟩:=bO.1 E;injection Z with Z;subst Z;exact h2.1
 have a0:maxLen<=9223372036854775807:=by decide
 unfold vO;refine wp_seq (wp_seq (rg ax F acx ?_));intro w1 e1;have p:=y.W e1;have G:=SX.refl ax w1
 repeat refine sm k fun a k=>?_
 refine av ?_;have d:=(bB.refl LG ax w S ow).eN y.wf y.wf e1
 refine wp_block (wp_loop_ghost (fun mm a W=>∃(j:Nat) (v:Tao) (q:Ow),mm=cs.length-j/\j<=cs.length/\Kn 109 a [(8,.int i64 j),(6,.pointer (some ⟨b6,0,none⟩)),(0,bM b),(1,.int i64 i)]/\bB LG ax w S ow W S q/\
  GM W S q b ({R with told:=v}.cells (fH (cs.take j) g).bad) {R with told:=v} (fH (cs.take j) g)/\(fH (cs.take j) g).told.length<=300000000001) (cs.length-0)
  ⟨0,R.told,ow,rfl,aB _,k.sb,d,p,O⟩ ?_)
 clear k p d G e1 w1;rintro mm a W ⟨j,v,q,rfl,hjl,k,d,p,htj⟩;have J:=lo.O d id;refine wp_seq (wp_seq (rg ax F acw ?_));intro w2 e2;have o:=p.W e2;have z:=J.W e2;have t:=d.eN y.wf p.wf e2;have G:=SX.refl ax w2
 repeat (first|refine sm k fun a k=>?_|refine ld k (z.cell id A) fun a k=>?_)
 refine cm (c:=decide ((j:Int)<(cs.length:Int))) k rfl rfl rfl fun a k=>?_;refine av (bw k rfl ?_);have k:=k.sb (l:=[(8,.int i64 j),(6,.pointer (some ⟨b6,0,none⟩)),(0,bM b),(1,.int i64 i)]);by_cases D:(j:Int)<(cs.length:Int)
 .rw[if_pos (by simpa using D)];refine wp_skip ?_;obtain⟨x,M⟩:∃x,cs[j]?=some x:=⟨_,aR (by omega)⟩;obtain⟨L,K⟩:=Y x (bT M);have ht:=GH M g;refine wp_seq (wp_block (take_one (by exact F) o z A (P.O t) E M L K htj k ?_));intro a H I v3 k r m B;refine rg ax F acv ?_;intro w4 e4;have G:=SX.refl ax w4
  repeat refine sm k fun a k=>?_
  refine iK (s:=((j+1:Nat):Int)) k (by assumption) rfl (by decide) rfl rfl (wrap64 (by omega) (by omega)) fun a k=>?_
  repeat refine sm k fun a k=>?_
  refine av ⟨cs.length-(j+1),by omega,j+1,v3,I,rfl,by omega,k.sb,(jl y.wf o.wf t r nE).eN y.wf m.wf e4,?_,?_⟩
  .rw[ht];exact m.W e4
  rw[ht];exact B
 rw[if_neg (by simpa using D)];refine wp_exit ?_;have V:j=cs.length:=by omega
 subst V;rw[cH]at o;show(Code.region 16 DQ false).wp Try.prog Q a w2;refine rg ax F W0 ?_;intro H e3;have m:=o.W e3;have r:=(jl u y.wf st t nE).eN u o.wf e3;have G:=SX.refl ax H
 repeat refine sm k fun a k=>?_
 have f:=tJ cs g;have X:iA H S q b (fH cs g):=⟨_,m,U,N⟩;refine iB (vs:=[bM b,.int i64 i]) k (by decide) rfl (by decide) RR rfl (Iy X (f.Wr hl) (by rw[f.eT];exact hi) (by unfold bS;rw[f.eT];exact T)) ?_;rintro e w4 ⟨S',cE,rfl,qb,Za⟩;refine⟨_,rfl,fun h=>absurd rfl h,fun a k=>?_⟩;refine av (C _ _ (na abk k ⟨S',cE,rfl,jl u m.wf r qb nE,by rw[hg];exact Za⟩).2)
noncomputable def JT:Code:=.seq (.seq (.region 3 NU false) (.cond (.tmp 27) (.region 4 NT true) .skip)) vO
def Fz{A5:Tap Addr}{c5:Nat}{ms:Tah}{o:D}{lost:Bool}(hQ:QP Q)(s:∀a w,FA w0 S0 kJ b g' .normal a w->Q .normal a w)(f:Wf w0 S0 kJ)(st:bB LG ax w0 S0 kJ w S ow)(gr:iA w S ow b g)(v:wZ g)(hi:i<g.eT.length)(N:Ok (bS g i) 0)(lo:fU w S ow b6 75 vo)(H:vo[6]?=some (.slice A6 cs.length c6))(M:bV w S (.slice A6 cs.length c6) (.list cs))(V:Has (.list eD) (.list cs))(a9:vo[5]?=some (.slice A5 ms.length c5))(b0:bV w S (.slice A5 ms.length c5) (.list ms))(U:Has (.list iC) (.list ms))(c1:ms.length<=5000000000)(b1:(cD 5 o).V=ms)(W:∀x∈cs,0<=(cD 0 x).J/\(cD 0 x).J<=300000000000)(K:g.told.length<=300000000001)(hg:g'=lz i (fH cs (qh o lost g)))(k:Kn 109 a [(3,.bool lost),(6,.pointer (some ⟨b6,0,none⟩)),(0,bM b),(1,.int i64 i)]):JT.wp Try.prog Q a w:=by
 obtain⟨R,gm,T,I⟩:=gr;unfold JT;refine wp_seq (wp_seq (rg ax hQ acz ?_));intro w1 z;have q:=gm.W z;have G:=lo.W z;have E:=st.eN f gm.wf z;have s0:=SX.refl ax w1
 have go:∀(a:Act),qh o lost g=g->Kn 109 a [(6,.pointer (some ⟨b6,0,none⟩)),(0,bM b),(1,.int i64 i)]->vO.wp Try.prog Q a w1:=by intro a he k;rw[he]at hg;exact CF hQ s f E q T I v hi N G H (M.O (bB.W z ax ax S ow)) V W K hg k
 obtain⟨A,c2,hv⟩:=q.eI.slice
 repeat (first|refine sm k fun a k=>?_|refine ld k (q.cell id rfl) fun a k=>?_)
 rw[hv]at k
 repeat refine sm k fun a k=>?_
 by_cases X:decide ((g.eI.length:Int)<400)=true
 .refine cm (c:=true) k rfl rfl (congrArg some X) fun a k=>?_
  repeat refine sm k fun a k=>?_
  refine qj k (by assumption) rfl (by decide) rfl fun a k=>?_;refine pk k rfl rfl fun a k=>?_;refine av (bw k rfl ?_);cases lost with
  |true=>
   refine wp_skip (go a (by unfold qh;rw[if_neg (by simp)]) (k.sb))
  |false=>
   have k:=k.sb (l:=[(6,.pointer (some ⟨b6,0,none⟩)),(0,bM b),(1,.int i64 i)]);refine fV (n0:=7) (fun Z=>ow Z=some 11) mix (by exact hQ) acy (fun _=>by kernel_rfl) ?_;intro w2 Y;have m:=q.W Y;have t:=G.W Y;have a0:=E.eN f q.wf Y;have s0:=SX.refl (fun Z=>ow Z=some 11) w2;have a5:¬ow b=some 11:=by rw[m.obj.ow];decide
   have a7:¬ow b6=some 11:=by rw[t.ow];intro e;cases e
   repeat (first|refine sm k fun a k=>?_|refine ld k (t.cell a7 a9) fun a k=>?_|refine ld k (m.cell a5 rfl) fun a k=>?_)
   refine tO k (by decide) rfl (by decide) fun ty b8 af=>?_;obtain⟨A',c',F,a3,hA,b4,b5,b3⟩:=((b0.O (bB.W z ax ax S ow)).O (bB.W Y ax ax S ow)).source (fun d hd=>(cZ (mQ U d hd)).1);injection a3 with a6 _ a4;subst a6 a4;obtain⟨v',w',L,c0,p,u,O⟩:=m.eI.sZ (P:=Try.prog) (tt:=56) (ys:=ms) (by kernel_rfl) rfl m.wf ty A5 c5 F hA b4 b5 (mQ U) b3 (Ll (by have:=of_decide_eq_true X;omega));have s1:SX (fun Z=>ow Z=some 11) w2 w':=SX.iu (fun _ h=>h) p;refine⟨v',w',jj (k.op rfl) (k.op rfl) L,fun _=>s1,fun a k=>?_⟩;have y:=m.JJ p u O;have a2:=t.O p id;have C:=a0.fF f m.wf p (.inl (by decide));obtain⟨Av,cv,J⟩:=O.slice
   repeat refine sm k fun a k=>?_
   refine jV (cur:=R.cells g.bad) k (by decide) rfl (by kernel_rfl) rfl rfl (by rw[J];rfl) y.obj.heap (by show 4<11;omega) (by rw[J];rfl) (fun h=>absurd rfl h) fun a k=>?_;refine av ?_;obtain⟨r,a8,b2⟩:=y.obj.set u (us:=(R.cells g.bad).set 4 v');have b7:=y.setObj r a8 b2;have a1:=a2.O r id;have B:=C.fF f u r (.inl (by decide));have he:qh o false g={g with eI:=g.eI++ms}:=by unfold qh;rw[if_pos ⟨by have:=of_decide_eq_true X;omega,rfl⟩,b1]
   rw[he]at hg;exact CF (R:={R with eI:=v'}) (g:={g with eI:=g.eI++ms}) hQ s f B b7 T I ⟨v.n5,v.cu,v.aT,v.saved,v.lead,v.vl⟩ hi N a1 H ((((M.O (bB.W z ax ax S ow)).O (bB.W Y ax ax S ow)).O p).O r) V W K hg (k.sb)
 refine cm (c:=false) k rfl rfl (congrArg some (dM.2 X)) fun a k=>?_
 repeat refine sm k fun a k=>?_
 refine pk k rfl rfl fun a k=>?_;refine av (bw k rfl (wp_skip ?_));exact go a (by unfold qh;rw[if_neg (by rintro⟨h1,_⟩;exact X (decide_eq_true (by omega)))]) (k.sb)
end
def H9{w:Tan}{S:bG}{ow:Ow}{b i:Nat}{g:GS}{vo:Tao}{o:D}{lost:Bool}(h:iA w S ow b g)(hn:mF ow)(hl:wZ g)(hi:i<g.eT.length)(T:Ok (bS g i) 0)(ho:bV w S vo o)(a4:Has BP o)(b5:(cD 7 (g.saved.getD i .top)).V.length+(cD 3 o).V.length<=300000000000)(b7:(cD 5 o).V.length<=5000000000)(c9:∀x∈(cD 6 o).V,0<=(cD 0 x).J/\(cD 0 x).J<=300000000000)(a5:g.told.length<=300000000001):
  Calls Try.prog 14 [bM b,.int i64 i,vo,.bool lost].toArray w (qR w S ow b (kz i o lost g)):=by
 obtain⟨co,a0,rfl,rfl,b0,a7,c,t,C⟩:=KE ho a4 rfl
 obtain⟨F,r,p,m,f,E,c6,d,rfl⟩:∃F r p m f E c6 d,co=[F,r,p,m,f,E,c6,d]:=by
  have X:co.length=8:=b0
  match co,X with
  | [F,r,p,m,f,E,c6,d],_=>exact⟨F,r,p,m,f,E,c6,d,rfl⟩
 obtain⟨d0,d1,d2,d3,d4,d5,d6,d7,rfl⟩:∃F r p m f E c6 d,a0=[F,r,p,m,f,E,c6,d]:=by
  have W:a0.length=8:=a7
  match a0,W with
  | [F,r,p,m,f,E,c6,d],_=>exact⟨F,r,p,m,f,E,c6,d,rfl⟩
 obtain⟨x0,M,b8⟩:=dh t 0 .bool (by rw[Ty.dT];rfl);injection M with M;subst M;obtain⟨sv,rfl⟩:=b8;obtain rfl:=(c 0 _ _ rfl rfl).gV;obtain⟨x5,L,V⟩:=dh t 5 (.list iC) (by rw[Ty.dT];rfl);injection L with L;subst L;obtain⟨x6,K,U⟩:=dh t 6 (.list eD) (by rw[Ty.dT];rfl);injection K with K;subst K;have u:d5.V.length<=5000000000:=b7;have y:∀x∈d6.V,0<=(cD 0 x).J/\(cD 0 x).J<=300000000000:=c9;obtain⟨a9,A5,H,d9⟩:=th (c 5 _ _ rfl rfl) V;obtain⟨a8,A6,G,d8⟩:=th (c 6 _ _ rfl rfl) U;subst d9 d8;have O:=c 5 _ _ rfl rfl;have N:=c 6 _ _ rfl rfl;generalize e5:d5.V=s at a9 O c C u ho;generalize e0:d6.V=cs at a8 N c C y ho;subst a9 a8;have e2:Wf w S ow:=by obtain⟨R,B,_⟩:=h;exact B.wf
 refine lh Try.func14 OC Yo agR (by show 4<=109;omega) ?_;intro a k;have hQ:=jw (P:=Try.prog) (fn:=Try.f14) (R:=qR w S ow b (kz i (D.agg [.bool sv,d1,d2,d3,d4,.list s,.list cs,d7]) lost g));refine wp_seq (rg ax hQ acC ?_);intro w1 e1;refine uv (us:=[.bool sv,r,p,m,f,.slice A5 s.length H,.slice A6 cs.length G,d]) k (by decide) rfl (by decide) rfl rfl (fun h=>absurd rfl h) fun a k=>?_;refine av ?_;obtain⟨R0,B,a6,a3⟩:=h;have z:=B.W e1;have sA:bB LG ax w S ow w1 S ow:=bB.W e1 LG ax S ow;obtain⟨A,a2⟩:=bB.alloc z.wf (.cells [.bool sv,r,p,m,f,.slice A5 s.length H,.slice A6 cs.length G,d].toArray 75);have J:=fU.new z.wf 75 [.bool sv,r,p,m,f,.slice A5 s.length H,.slice A6 cs.length G,d];have Z:=z.O A a2;have sB:=sA.eC B.wf z.wf A nE;have e7:w1.heap.size=w.heap.size:=by rw[e1.heap]
 generalize e6:w1.heap.size=b6 at k J;generalize w1.alloc _=w2 at J Z sB A a2⊢;clear A sA z e1;have k:=k.sb (l:=[(3,.bool lost),(6,.pointer (some ⟨b6,0,none⟩)),(0,bM b),(1,.int i64 i)]);refine wp_seq (wp_seq (rg ax hQ acB ?_));intro w3 e3;have Y:=Z.W e3;have I:=J.W e3;have sC:=sB.eN B.wf Z.wf e3;have s0:=SX.refl ax w3
 repeat (first|refine sm k fun a k=>?_|refine ld k (I.cell id rfl) fun a k=>?_)
 refine av (bw k rfl ?_);have k:=k.sb (l:=[(3,.bool lost),(6,.pointer (some ⟨b6,0,none⟩)),(0,bM b),(1,.int i64 i)]);cases sv with
 |false=>
  refine wp_skip (Fz (cs:=cs) (ms:=s) (o:=D.agg [.bool false,d1,d2,d3,d4,.list s,.list cs,d7]) (lost:=lost) (g:=g) (b6:=b6) (i:=i) (vo:=[.bool false,r,p,m,f,.slice A5 s.length H,.slice A6 cs.length G,d]) hQ (fun a w h=>h) B.wf sC ⟨R0,Y,a6,a3⟩ hl hi T I rfl (N.O sC) U rfl (O.O sC) V u rfl y a5 rfl (k.sb))
 |true=>
  refine rg ax hQ acA ?_;intro w4 e4;have b2:=Y.W e4;have a1:=I.W e4;have sD:=sC.eN B.wf Y.wf e4;have s0:=SX.refl ax w4
  repeat refine sm k fun a k=>?_
  refine lN (vs:=[.bool true,r,p,m,f,.slice A5 s.length H,.slice A6 cs.length G,d]) k rfl rfl (fun w' b4 q v hv=>by rw[aq];exact a1.cell id hv w' b4) fun a k=>?_;refine iB (vs:=[bM b,.int i64 i,.agg [.bool true,r,p,m,f,.slice A5 s.length H,.slice A6 cs.length G,d].toArray]) k (by decide) rfl (by decide) RQ rfl (Ih ⟨R0,b2,a6,a3⟩ hn (by rw[hl.saved];exact hi) (ho.O sD) a4 hi T b5) ?_;rintro e w5 ⟨S5,EY,rfl,uV,Ql⟩;refine⟨_,rfl,fun h=>absurd rfl h,fun a k=>?_⟩;refine av ?_;have sE:=jl B.wf b2.wf sD uV nE;have b3:=a1.O uV id;have b1:=Gi i (D.agg [.bool true,d1,d2,d3,d4,.list s,.list cs,d7]) g;exact Fz (cs:=cs) (ms:=s) (o:=D.agg [.bool true,d1,d2,d3,d4,.list s,.list cs,d7]) (lost:=lost) (g:=nD i (D.agg [.bool true,d1,d2,d3,d4,.list s,.list cs,d7]) g) (b6:=b6) (i:=i) (vo:=[.bool true,r,p,m,f,.slice A5 s.length H,.slice A6 cs.length G,d]) hQ (fun a w h=>h) B.wf sE Ql (b1.Wr hl) hi T b3 rfl (N.O sE) U rfl (O.O sE) V u rfl y a5 rfl (k.sb)
def rn:Ob:=⟨[true],[ja],[ja],false⟩
section
variable{w w':Tan}{S S':bG}{ow cE:Ow}{l b:Nat}{s:RS}
def Px{i t:Int}(B:Wf w S ow)(I:kL i64 i)(U:kL i64 t)(h:okB i t=true/\(i=0↔t=0))(W:1000<=l):
  Calls Try.prog 22 #[.int i64 i,.int i64 t] w fun e w'=>∃b S' cE,e=.returned (.pointer (some ⟨b,0,none⟩))/\bB (iF l) ax w S ow w' S' cE/\Wf w' S' cE/\kK w' S' cE l rn b [[.int i64 i,.int i64 t,.list []]]/\w.heap.size<=b:=by
 have r:cB 22 [.int i64 i,.int i64 t]=.fa [.fa [],rb i t []]:=by show lE i t=_;rw[lE,if_pos h]
 refine(cnw.Ad _ rfl rfl w S (fun _=>0) (fun _=>.nilIface) [.int i64 i,.int i64 t] [.int i64 i,.int i64 t] [] ⟨B.s,⟨.int _ _,.int _ _,trivial⟩,rfl,fun o Q cs f=>by simp at f,fun i j I=>by simp at I,fun j k b m=>by simp[Ob.jz]at m,fun j o b m=>by simp[Ob.jz]at m,fun y=>by simp at y⟩ (aA.2 ⟨_,_,rfl,⟨i,rfl,I⟩,aA.2 ⟨_,_,rfl,⟨t,rfl,U⟩,dk.2 rfl⟩⟩) ?_).mono ?_
 .refine⟨trivial,?_⟩;show((cB 22 [.int i64 i,.int i64 t]).V.getD 0 .top).iL=false;rw[r];rfl
 rintro e w1 ⟨v,S',τ',βn,rfl,f⟩;obtain⟨d0,n,hd,E,p,u⟩:=f.res;have F:Ob.new ⟨[false,false],[],[ja],true⟩=true:=rfl;rw[F]at p;simp only[if_true]at p;obtain⟨R,J⟩:=p;have g:cB 22 [.int i64 i,.int i64 t]=.fa (d0::n.map .agg):=hd;rw[r]at g;injection g with g;injection g with _ g;have D:n.length=1:=E
 obtain⟨A,rfl⟩:∃A,n=[A]:=by
  match n,D with
  | [A],_=>exact⟨A,rfl⟩
 have L:A=[.int i64 i,.int i64 t,.list []]:=by injection g with g _;injection g with g;exact g.symm
 subst L;have x:=u 0 ja _ rfl rfl;have N:jU ⟨[false,false],[],[ja],true⟩ (fun _=>0) βn 0=βn:=rfl;rw[N]at x
 have q:∀k,¬ug (⟨[false,false],[],[ja],true⟩:Ob) (fun _=>0) (fun _=>Value.nilIface) k:=by
  rintro k (⟨o,f,_⟩|⟨j,m,_⟩)
  .simp at f
  simp[Ob.jz]at m
 have G:∀k,ug rn (fun _=>βn) τ' k->w.heap.size<=k:=by
  rintro k (⟨o,f,rfl⟩|⟨j,m,a⟩)
  .exact J
  rcases f.fS j k (by unfold kr;exact m) a with c|c
  .exact c
  exact absurd c (q k)
 have C:=f.below.size
 classical
 refine⟨βn,S',fun k=>if ug rn (fun _=>βn) τ' k then some l else ow k,by rw[R],⟨C,f.below.os,f.below.tape,f.below.output,fun k l' a hl _=>f.below.block k a (q k),fun k a _ _=>f.below.block k a (q k),f.jx,f.keep,?_,?_,?_,?_⟩,⟨f.lt,?_,?_⟩,⟨fun _=>βn,τ',rfl,⟨f.lt,⟨rfl,trivial⟩,rfl,?_,?_,?_,?_,?_⟩,fun k a=>if_pos a⟩,J⟩
 .intro k l' a _;show(if ug rn (fun _=>βn) τ' k then some l else ow k)=some l';rw[if_neg (fun H=>by have:=G k H;have:=B.o k l' a;omega)];exact a
 .intro k o hs;rcases f.new k o hs with c|c|c
  .exact .inl c
  .exact .inr (.inl c)
  exact absurd c (q k)
 .intro k a V;show(if ug rn (fun _=>βn) τ' k then some l else ow k)=none;rw[if_neg (fun H=>by have:=G k H;omega)];exact V
 .intro k l' a;replace a:(if ug rn (fun _=>βn) τ' k then some l else ow k)=some l':=a;split at a
  .injection a with a;exact .inr a.symm
  exact .inl a
 .intro k l' a;replace a:(if ug rn (fun _=>βn) τ' k then some l else ow k)=some l':=a;split at a
  .rename_i H;obtain⟨z,T,Z,O,h4,h5,_⟩:=x;rcases H with⟨o,f,rfl⟩|⟨j,m,I7⟩
   .exact(aI.1 Z).1
   have M:j=0:=by have:rn.jz=[0]:=rfl;rw[this]at m;simpa using m
   subst M;have hc:=h5 2 _ (z[2]'(by rw[O];decide)) (.list []) rfl (aR _) rfl;obtain⟨_,hO⟩:=hc;obtain⟨xs,l2,_,a2,_⟩:=hO.own;exact(a2.lt k I7).2
  exact ar (B.o k l' a) C
 .intro k o l' hs a;replace a:(if ug rn (fun _=>βn) τ' k then some l else ow k)=some l':=a;split at a
  .injection a with a;omega
  rcases f.new k o hs with c|c|c
  .exact B.d k o l' c a
  .have:=B.o k l' a;omega
  exact absurd c (q k)
 .intro o Q cs c K
  match o,c,K with
  |0,c,K=>
   injection c with c;injection K with K;subst c K;exact x
 .intro i j I m _;have Y:i<1:=I;have X:j<1:=m;omega
 .intro j k P m a c O;exact f.own j k P m a c O
 .intro j o P m E c;exact f.eO j 0 P m (by decide) c
 intro y;exact absurd y (by decide)
def Ix{cells:Tah}(h:kK w S ow l rn b [cells])(k:bG)(B:∀b o,S b o->k b o)(p:∀b o,ow b=some l->k b o):bV w k (.pointer (some ⟨b,0,none⟩)) (.ptr cells)/\Has Hb (.ptr cells):=by
 obtain⟨m,G,A,c,a⟩:=h;obtain⟨t,I,F,q,E,C,H⟩:=c.cC 0 ja cells rfl rfl;have f:ow (m 0)=some l:=a _ (.inl ⟨0,by decide,rfl⟩);refine⟨?_,ia.2 ⟨_,rfl,(tD (c.cC 0 ja cells rfl rfl)).2⟩⟩;rw[<-A];refine .ptr (m 0) t cells (by rw[q,E]) (fun i _=>p _ i f) (fun i v e=>iq F e) ?_;intro i v d e z;have y:i<ja.length:=by rw[<-q];exact(aD.1 e).1
 have n:ja[i]?=some (ja[i]'y):=aR _;refine uT (C i _ v d n e z) B ?_;intro j T x r g u;exact p r u (a r (.inr ⟨j,cU.2 ⟨ja,by simp[rn],bE.2 ⟨_,bT n,by rw[x];rfl⟩⟩,g⟩))
def Rr{bl:Nat}{g:Tad}{T:Tbb}(h:kK w S ow l rn bl [cL s])(U:Wf w S ow)(C:fU w S ow b T g)(a6:1000<=l)(Z:g.length=51)(a1:g[13]?=some (.pointer (some ⟨bl,0,none⟩)))(hd:∀(i:Nat) r v d,ly[i]?=some r->g[i]?=some v->(cR s)[i]?=some d->(r.2=none->bV w S v d/\Has r.1 d)/\(∀H,r.2=some H->v=.slice none 0 0/\d=.list [])):
  ∃cE,(∀k,cE k=if k=b then some l else ow k)/\Wf w S cE/\kK w S cE l (dS 0) b [cR s,cL s]:=by
 obtain⟨β,X,R,M,L⟩:=h;obtain⟨v1,T1,b1,b2,b3,b4,b5⟩:=M.cC 0 ja (cL s) rfl rfl;rw[R]at b1 b5;have D:ow bl=some l:=by rw[<-R];exact L _ (.inl ⟨0,by decide,rfl⟩)
 have J:b≠bl:=fun e=>by rw[e]at C;rw[C.ow]at D;cases D
 have a5:(dS 0).jz=[1,2,3,4,5,6,0]:=rfl;have N:rn.jz=[0]:=rfl;let x:Tak:=fun j=>if j=0 then X 0 else .slice none 0 0
 let n:Nat->Nat:=fun o=>if o=0 then b else bl
 have p:∀j b',(x j).ownBlock=some b'->j=0/\(X 0).ownBlock=some b':=by
  intro j b' O;by_cases y:j=0
  .subst y;exact⟨rfl,O⟩
  have:x j=.slice none 0 0:=if_neg y;rw[this]at O;cases O
 have B:∀b',(X 0).ownBlock=some b'->ow b'=some l:=fun b' O=>L b' (.inr ⟨0,by rw[N];simp,O⟩)
 have K:∀k,ug (dS 0) n x k->k=b\/ow k=some l:=by
  rintro k (⟨o,f,rfl⟩|⟨j,y,m⟩)
  .by_cases A:o=0
   .exact .inl (if_pos A)
   exact .inr (by rw[show n o=bl from if_neg A];exact D)
  exact .inr (B k (p j k m).2)
 refine⟨fun k=>if k=b then some l else ow k,fun _=>rfl,⟨U.s,?_,?_⟩,⟨n,x,rfl,⟨U.s,⟨rfl,trivial⟩,rfl,?_,?_,?_,?_,?_⟩,?_⟩⟩
 .intro k l' m;replace m:(if k=b then some l else ow k)=some l':=m;split at m
  .rename_i e;rw[e];exact C.lt
  exact U.o k l' m
 .intro k o l' hs m;replace m:(if k=b then some l else ow k)=some l':=m;split at m
  .injection m with m;omega
  exact U.d k o l' hs m
 .intro o rc cs f u
  match o,f,u with
  |0,f,u=>
   injection f with f;injection u with u;subst f u;refine⟨g,T,C.heap,Z,rfl,?_,C.s⟩;intro i r v d F hv E;obtain⟨q,z⟩:=hd i r v d F hv E;obtain⟨t,Y⟩:=r;cases Y with
   |none=>exact q rfl
   |some H=>
    obtain⟨j,TT⟩:=H;obtain⟨rfl,rfl⟩:=z _ rfl
    have y:j≠0:=by
     intro e;subst e;have a:(ly.all fun r=>match r.2 with|some (j,_)=>j !=0&&decide (0<r.1.cells.length)|none=>true)=true:=by decide+kernel
     have:=bU.1 a _ (bT F);simp at this
    have a0:0<t.cells.length:=by
     have a:(ly.all fun r=>match r.2 with|some (j,_)=>j !=0&&decide (0<r.1.cells.length)|none=>true)=true:=by decide+kernel
     have:=bU.1 a _ (bT F);simp only[aP,bg]at this;exact this.2
    have I:x j=.slice none 0 0:=if_neg y;refine⟨I.symm,?_⟩;rw[I];exact⟨⟨[],rfl,gy t,fun _ h=>by cases h⟩,a0,[],[],rfl,fB _ _ _ _,fun b R=>(by cases R),fun i d j v c h=>(by simp at h)⟩
  |1,f,u=>
   injection f with f;injection u with u;subst f u;refine⟨v1,T1,b1,b2,b3,?_,b5⟩;intro i r v d F hv E;have q:=b4 i r v d F hv E;obtain⟨t,Y⟩:=r;cases Y with
   |none=>exact q
   |some H=>
    obtain⟨j,TT⟩:=H
    have y:j=0:=by
     have a:(ja.all fun r=>match r.2 with|some (j,_)=>j==0|none=>true)=true:=by decide
     have:=bU.1 a _ (bT F);simpa using this
    subst y;exact q
 .intro i j hi y V;have a3:i<2:=hi;have a2:j<2:=y
  have G:∀o,o<2->(o=0/\n o=b)\/(o=1/\n o=bl):=by
   intro o f;by_cases A:o=0
   .exact .inl ⟨A,if_pos A⟩
   exact .inr ⟨by omega,if_neg A⟩
  rcases G i a3 with⟨q,z⟩|⟨q,z⟩<;>rcases G j a2 with⟨W,h4⟩|⟨W,h4⟩
  .omega
  .rw[z,h4]at V;exact absurd V J
  .rw[z,h4]at V;exact absurd V.symm J
  omega
 .intro j k b' y m q z;rw[(p j b' q).1,(p k b' z).1]
 .intro j o b' y f q;have z:=(p j b' q).2;have W:=B b' z;by_cases A:o=0
  .rw[show n o=b from if_pos A];intro e;rw[e,C.ow]at W;cases W
  rw[show n o=bl from if_neg A,<-R];exact M.eO 0 0 b' (by rw[N];simp) (by decide) z
 .intro _ o c rc f u
  match o,f with
  |0,f=>
   injection f with f;subst f
   have Q:c=13:=by
    have a4:=(aD.1 u).1;have P:c<51:=a4;have a:((List.range 51).all fun j=>j==13|| !(ly[j]?==some I5))=true:=by decide+kernel
    have:=bU.1 a c (cz.2 P);rw[u]at this;simp only[beq_self_eq_true,Bool.not_true,Bool.or_false,beq_iff_eq]at this;exact this
   subst Q;exact iq C.heap a1
  |1,f=>
   injection f with f;subst f;have a:(ja.all fun r=> !(r==I5))=true:=by decide
   have:=bU.1 a _ (bT u);simp at this
 intro k m;show(if k=b then some l else ow k)=some l;rcases K k m with q|q
 .rw[if_pos q]
 split
 .rfl
 exact q
end
def Wh(id:Int)(fv fl:Tah)(term vote:Int)(le:Tah):RS:={dK with il:=.gv,id:=id,fv:=fv,fl:=fl,term:=term,vote:=vote,le:=le}
section
variable{w w':Tan}{S S':bG}{ow cE:Ow}{l b:Nat}{s:RS}
def Kf{τ:Tak}{v:Tao}{d:D}{cs:List bC}(k:(cs.all fun r=>match r.2 with|some (j,_)=> !(BN j)|none=>true)=true)(h:gZ w 0 S τ [(true,cs)] v d):
  ∃(us:Tad) (ds:Tah),v=.agg us.toArray/\d=.agg ds/\us.length=cs.length/\ds.length=cs.length/\∀(i:Nat) r u y,cs[i]?=some r->us[i]?=some u->ds[i]?=some y->bV w S u y/\Has (E3 r) y:=by
 rcases h with⟨c,e,hq⟩|⟨e,_⟩
 .injection e with e;subst e;unfold fY at hq;rw[if_pos rfl]at hq;obtain⟨us,ds,rfl,rfl,f,m,a⟩:=hq;refine⟨us,ds,rfl,rfl,f,m,fun i r u y n z x=>?_⟩;have p:=a i r u y n z x;have o:=bU.1 k r (bT n);obtain⟨t,q⟩:=r;cases q with
  |none=>exact p
  |some jT=>
   obtain⟨j,T⟩:=jT;simp only[cI]at o;obtain⟨rfl,g⟩:=p;rw[o]at g;exact⟨g.rep,g.has⟩
 exact absurd rfl e
def Lp{i t:Int}{le:Tah}(h:kK w S ow l rn b [[.int i64 i,.int i64 t,.list le]])(k:Wf w S ow)(y:gn i t le=true):
  Calls Try.prog 25 #[.pointer (some ⟨b,0,none⟩)] w fun e w'=>e=.returned (.tuple [.int i64 (fW i t le).1,.int i64 (fW i t le).2].toArray)/\bB ax ax w S ow w' S ow/\Wf w' S ow:=by
 obtain⟨x,A⟩:=Ix h (fun b o=>S b o\/ow b=some l) (fun _ _ h=>.inl h) (fun _ _ h=>.inr h);refine(c25.calls rfl w (fun b o=>S b o\/ow b=some l) [.pointer (some ⟨b,0,none⟩)] [.ptr [.int i64 i,.int i64 t,.list le]] (fun b o hs=>hs.elim (k.s b o) (k.o b l)) rfl ?_ (aA.2 ⟨_,_,rfl,A,dk.2 rfl⟩) y).mono ?_
 .intro i v d n a
  match i,n,a with
  |0,n,a=>injection n with n;injection a with a;subst n a;exact x
 rintro e u ⟨v,S',τ,rfl,hb,_,_,_,mM,_⟩
 have r:bB ax ax w S ow u S ow/\Wf u S ow:=⟨⟨hb.size,hb.os,hb.tape,hb.output,fun b _ j _ _=>hb.block b j,fun b j _ _=>hb.block b j,fun _ _ h=>h,fun b o hs=>bj (hb.block b (k.s b o hs)),fun _ _ h _=>h,fun _ _ h=>.inl h,fun _ _ h=>h,fun _ _ h=>.inl h⟩,
  ⟨fun b o hs=>ar (k.s b o hs) hb.size,fun b l z=>ar (k.o b l z) hb.size,k.d⟩⟩
 refine⟨?_,r⟩;rcases mM with⟨c,hc,hq⟩|⟨hc,vs,ds,rfl,a,hvl,hdl,zX⟩
 .cases hc
 have e:cB 25 [.ptr [.int i64 i,.int i64 t,.list le]]=.fa [.int i64 (fW i t le).1,.int i64 (fW i t le).2]:=rfl;rw[e]at a;injection a with a;subst a;have m:vs.length=2:=hvl
 match vs,m with
 | [v0,v1],_=>
  have q:=zX 0 _ _ _ rfl rfl rfl;have p:=zX 1 _ _ _ rfl rfl rfl;unfold fY at q p;simp only[ai,if_false]at q p;obtain⟨F,g,q⟩:=q;obtain⟨E,f,p⟩:=p;injection g with g;injection f with f;subst g f;have C:=q.1.dj;have B:=p.1.dj;subst C B;rfl
def GV{i t pi pt:Int}{le es:Tah}{x:Tao}(h:kK w S ow l rn b [[.int i64 i,.int i64 t,.list le]])(B:Wf w S ow)(z:1000<=l)(y:dr (.Y [I6,I6,.list eD,I6,I6,.list eD]) [.int i64 pi,.int i64 pt,.list es,.int i64 i,.int i64 t,.list le])(C:bV w S x (.list es))(E:gn i t le=true)(o:le.length<4294967296)(F:es.length<4294967296):
  Calls Try.prog 23 [.pointer (some ⟨b,0,none⟩),.int i64 pi,.int i64 pt,x].toArray w fun e w'=>∃S' cE,e=.returned (.tuple [.int i64 (iv i t le pi pt es).1,.bool (jt i t le pi pt es)].toArray)/\bB (iF l) ax w S ow w' S' cE/\Wf w' S' cE/\kK w' S' cE l rn b [[.int i64 i,.int i64 t,.list (iv i t le pi pt es).2]]:=by
 refine(kK.call (ob:=⟨[true,false,false,false],[ja],[ja],false⟩) (ob0:=rn) (n:=3) (vs:=[.int i64 pi,.int i64 pt,x]) (dd:=[.int i64 pi,.int i64 pt,.list es]) c23 rfl rfl rfl rfl rfl rfl (by decide) (.inr rfl) rfl z h B rfl rfl (fun q v d g f=>by
  match q,g,f with
  |0,g,f=>injection g with g;injection f with f;subst g f;exact .int _ _
  |1,g,f=>injection g with g;injection f with f;subst g f;exact .int _ _
  |2,g,f=>injection g with g;injection f with f;subst g f;exact C) y ⟨E,o,F⟩).mono ?_
 rintro e L ⟨v,S',cE,τ,I,outs,rfl,agZ,Vn,st,Y4,Vo,mM⟩;have e:cB 23 [.int i64 pi,.int i64 pt,.list es,.int i64 i,.int i64 t,.list le]=.fa [.fa [.int i64 (iv i t le pi pt es).1,.bool (jt i t le pi pt es)],.agg [.int i64 i,.int i64 t,.list (iv i t le pi pt es).2]]:=rfl;have a:cB 23 [.int i64 pi,.int i64 pt,.list es,.int i64 i,.int i64 t,.list le]=.fa (I::outs.map .agg):=agZ;rw[e]at a;injection a with a;injection a with A j;subst A;have r:outs.length=1:=Vn
 match outs,r with
 | [o1],_=>
  injection j with j;injection j with j;subst j;refine⟨S',cE,?_,st,Y4,Vo⟩;rcases mM with⟨c,hc,hq⟩|⟨hc,vs,ds,rfl,f,hvl,hdl,zX⟩
  .cases hc
  injection f with f;subst f;have p:vs.length=2:=hvl
  match vs,p with
  | [v0,v1],_=>
   have u:=zX 0 _ _ _ rfl rfl rfl;have o:=zX 1 _ _ _ rfl rfl rfl;unfold fY at u o;simp only[ai,if_false]at u o;obtain⟨K,m,u⟩:=u;obtain⟨J,k,o⟩:=o;injection m with m;injection k with k;subst m k;have H:=u.1.dj;have G:=o.1.gV;subst H G;rfl
end
def Xp:bK (gl OO [0,1,3,4,5,6,7,9,10,11,2,8,12,13,14])=[oM 96 0,
 oL 97 31 4,
 oF 99 65 5 0,
 oL 100 61 99,
 oM 101 8,
 oF 102 65 5 1,
 oL 103 63 102,
 oF 105 65 5 1,
 oF 106 63 105 0,
 oL 107 3 106,
 oC 98 26 #[(.tmp 97)] #[31],
 oC 104 27 #[(.tmp 103)] #[63],
 (some 108,.build 108 #[(1,.tmp 96),(2,.tmp 98),(3,.tmp 100),(4,.tmp 101),(5,.tmp 104),(6,.tmp 107)],none),
 (some 109,.box 108 (.tmp 108),none),
 oA 6 109]:=by kernel_rfl
def Cn(id:Int)(fv fl:Tah)(term vote li lt:Int)(sv sl sd le:Tah):RS:={dK with il:=.gv,id:=id,fv:=fv,fl:=fl,term:=term,vote:=vote,wR:=li,vi:=lt,sv:=sv,sl:=sl,iI:=sd,bH:=li,li:=li,lt:=lt,le:=le}
section
variable{w w':Tan}{S S':bG}{ow cE:Ow}{l b:Nat}{s:RS}
def oT{i lo f:Int}(g:Wf w S ow)(m:kL i64 i)(k:kL i64 lo)(j:kL i64 f)(h:nY i lo f=true):Calls Try.prog 20 [.int i64 i,.int i64 lo,.int i64 f].toArray w fun e w'=>e=.returned (.bool true)/\bB ax ax w S ow w' S ow/\Wf w' S ow:=
 pX (dd:=[.int i64 i,.int i64 lo,.int i64 f]) Vu g rfl (fun q v d a c=>by
  match q,a,c with
  |0,a,c=>injection a with a;injection c with c;subst a c;exact .int _ _
  |1,a,c=>injection a with a;injection c with c;subst a c;exact .int _ _
  |2,a,c=>injection a with a;injection c with c;subst a c;exact .int _ _) (aA.2 ⟨_,_,rfl,⟨_,rfl,m⟩,aA.2 ⟨_,_,rfl,⟨_,rfl,k⟩,aA.2 ⟨_,_,rfl,⟨_,rfl,j⟩,dk.2 rfl⟩⟩⟩) trivial (congrArg D.bool h)
def Wo{a b c d e f g h:D}(x:Has jm (.agg [a,b,c,d,e,f,g,h])):Has (.list eD) h:=by obtain⟨l,j,k⟩:=eA.1 x;injection j with j;subst j;obtain⟨y,i,m⟩:=dh k 7 (.list eD) (by rw[Ty.dT];rfl);injection i with i;subst i;exact m
def _root_.Go.dG.bV.BW{vs:Tad}{ds:Tah}(h:bV w S (.agg vs.toArray) (.agg ds))(i:Nat){u:Tao}{y:D}(d:vs[i]?=some u)(c:ds[i]?=some y):bV w S u y:=by
 obtain⟨Qa,a,_,e⟩:=h.zt;injection a with a;have:vs=Qa:=by simpa using congrArg Array.toList a
 subst this;exact e i _ _ d c
def MB(p:bC->Tao->D->Prop):List bC->Tad->Tah->Prop
 |r::rs,v::vs,d::ds=>p r v d/\MB p rs vs ds
 |[],[],[]=>True
 |_,_,_=>False
def Gg{p:bC->Tao->D->Prop}:∀{f:List bC} {vs:Tad} {ds:Tah},MB p f vs ds->∀(i:Nat) r v d,f[i]?=some r->vs[i]?=some v->ds[i]?=some d->p r v d
 |r::f,v::vs,d::ds,h,0,_,_,_,e,c,a=>by injection e with e;injection c with c;injection a with a;subst e c a;exact h.1
 |r::f,v::vs,d::ds,h,i+1,_,_,_,e,c,a=>Gg h.2 i _ _ _ e c a
 |[],_,_,_,_,_,_,_,e,_,_=>by simp at e
 |_::_,[],_,_,_,_,_,_,_,c,_=>by simp at c
 |_::_,_::_,[],_,_,_,_,_,_,_,a=>by simp at a
def LW{p:bC->Tao->D->Prop}{r:bC}{v:Tao}{d:D}{a:List bC}{vs:Tad}{ds:Tah}(e:p r v d)(c:MB p a vs ds):MB p (r::a) (v::vs) (d::ds):=⟨e,c⟩
def yi(w:Tan)(S:bG)(r:bC)(v:Tao)(d:D):Prop:=(r.2=none->bV w S v d/\Has r.1 d)/\∀a,r.2=some a->v=.slice none 0 0/\d=.list []
def tl{n:Int}(h:kL i64 n):yi w S (I6,none) (.int i64 n) (.int i64 n):=⟨fun _=>⟨.int _ _,n,rfl,h⟩,fun _ h=>by cases h⟩
def Sf{c:Bool}:yi w S (.bool,none) (.bool c) (.bool c):=⟨fun _=>⟨.bool _,c,rfl⟩,fun _ h=>by cases h⟩
def vK{t:Ty}{v:Tao}{d:D}(h:bV w S v d/\Has t d):yi w S (t,none) v d:=⟨fun _=>h,fun _ h=>by cases h⟩
def Sb{t:Ty}{a:Nat×Tbb}:yi w S (t,some a) (.slice none 0 0) (.list []):=⟨fun h=>(by cases h),fun _ _=>⟨rfl,rfl⟩⟩
def R8{t:Ty}:yi w S (.list t,none) (.slice none 0 0) (.list []):=⟨fun _=>⟨.nil _ _,[],rfl,gy _,fun _ h=>by cases h⟩,fun _ h=>by cases h⟩
def R9{ts:Tam}:yi w S (.ptr (.Y ts),none) (.pointer none) .gv:=⟨fun _=>⟨.gv,.inl rfl⟩,fun _ h=>by cases h⟩
def Sc{b:Nat}:yi w S (.box .nil,none) (.pointer (some ⟨b,0,none⟩)) (.ptr []):=⟨fun _=>⟨.ptr b [] [] rfl (fun _ h=>by cases h) (fun _ _ h=>by simp at h) (fun _ _ _ h=>by simp at h),[],rfl,dk.2 rfl⟩,fun _ h=>by cases h⟩
def kB{ds:Tah}(x:Has jm (.agg ds))(i:Nat)(t:Ty)(f:(zY++ky++[.list eD])[i]?=some t){d:D}(h:ds[i]?=some d):Has t d:=by obtain⟨l,c,e⟩:=eA.1 x;injection c with c;subst c;obtain⟨y,a,g⟩:=dh e i t (by rw[Ty.dT];exact f);rw[h]at a;injection a with a;subst a;exact g
def QI{a b c d e f g h:D}(x:Has jm (.agg [a,b,c,d,e,f,g,h])):Has SU (.agg [c,d,e,f,g]):=
 eA.2 ⟨_,rfl,aA.2 ⟨_,_,rfl,kB x 2 I6 rfl rfl,aA.2 ⟨_,_,rfl,kB x 3 I6 rfl rfl,aA.2 ⟨_,_,rfl,kB x 4 (.list I6) rfl rfl,aA.2 ⟨_,_,rfl,kB x 5 (.list I6) rfl rfl,aA.2 ⟨_,_,rfl,kB x 6 (.list (.int .u8)) rfl rfl,dk.2 rfl⟩⟩⟩⟩⟩⟩
def Cm(id term vote li lt:Int)(bl:Nat)(f e d c a:Tao):Tad:=[.bool false,.int i64 0,.int i64 0,.slice none 0 0,.pointer none,.slice none 0 0,.slice none 0 0,.slice none 0 0,.int i64 id,f,e,.int i64 term,.int i64 vote,.pointer (some ⟨bl,0,none⟩),.int i64 li,.int i64 lt,d,c,a,.int i64 li,.int i64 0,.int i64 0,.int i64 0,.int i64 0,.slice none 0 0]++List.replicate 18 (.int i64 0)++[.int i64 0,.slice none 0 0,.int i64 0,.int i64 0,.int i64 0,.int i64 0,.int i64 0,.slice none 0 0]
def Gx{id term vote li lt:Int}{bl:Nat}{k j i h g:Tao}{fv fl sv sl sd le:Tah}(q:kL i64 id)(p:kL i64 term)(o:kL i64 vote)(n:kL i64 li)(m:kL i64 lt)(f:bV w S k (.list fv)/\Has (.list I6) (.list fv))(e:bV w S j (.list fl)/\Has (.list I6) (.list fl))(d:bV w S i (.list sv)/\Has (.list I6) (.list sv))(c:bV w S h (.list sl)/\Has (.list I6) (.list sl))(a:bV w S g (.list sd)/\Has (.list (.int .u8)) (.list sd)):
  MB (yi w S) ly (Cm id term vote li lt bl k j i h g) (cR (Cn id fv fl term vote li lt sv sl sd le)):=by
 have z:kL i64 0:=by decide
 iterate 51 refine LW (by first|exact Sf|exact tl z|exact Sb|exact R9|exact Sc|exact tl q|exact tl p|exact tl o|exact tl n|exact tl m|exact vK f|exact vK e|exact vK d|exact vK c|exact vK a|exact R8) ?_
 trivial
def Rp{Q:O3}{a:Act}{J bl K:Nat}{term vote li lt id:Int}{sv sl sd es:Tah}{s4 s5 s6 s7:Tao}(O:QP Q)(A:Wf w S ow)(M:fU w S ow J 65 [.int i64 term,.int i64 vote,.int i64 li,.int i64 lt,s4,s5,s6,s7])(hs:bV w S (.agg [.int i64 term,.int i64 vote,.int i64 li,.int i64 lt,s4,s5,s6,s7].toArray) (.agg [.int i64 term,.int i64 vote,.int i64 li,.int i64 lt,.list sv,.list sl,.list sd,.list es]))(t:Has jm (.agg [.int i64 term,.int i64 vote,.int i64 li,.int i64 lt,.list sv,.list sl,.list sd,.list es]))(G:0<li->gp (.agg [.list sv,.list sl])=true/\1<=sd.length/\sd.length<=1048576)(k:Kn 110 a [(8,.pointer (some ⟨bl,0,none⟩)),(7,.bool true),(6,.pointer none),(5,.pointer (some ⟨J,0,none⟩)),(4,.pointer (some ⟨K,0,none⟩)),(0,.int i64 id)])(g:∀a W,Kn 110 a [(64,.bool false),(8,.pointer (some ⟨bl,0,none⟩)),(6,.pointer none),(5,.pointer (some ⟨J,0,none⟩)),(4,.pointer (some ⟨K,0,none⟩)),(0,.int i64 id)]->bB ax ax w S ow W S ow->Wf W S ow->Q .normal a W):(Code.region 3 N0 false).wp Try.prog Q a w:=by
 refine rg ax O acR ?_;intro E C;have r:Wf E S ow:=⟨fun b o hs=>by rw[C.heap];exact A.s b o hs,fun b l N=>by rw[C.heap];exact A.o b l N,A.d⟩;have i:=M.W C;have p:bB ax ax w S ow E S ow:=bB.W C ax ax S ow;have V:=SX.refl ax E
 repeat refine sm k fun a k=>?_
 refine qj k (by assumption) rfl (by decide) rfl fun a k=>?_
 repeat refine sm k fun a k=>?_
 refine WC k (by assumption) rfl (by decide) rfl rfl (by kernel_rfl) fun a k=>?_;refine pk k rfl rfl fun a k=>?_
 repeat (first|refine sm k fun a k=>?_|refine ld k (i.cell (fun h=>h) rfl) fun a k=>?_)
 by_cases I:li>0
 .obtain⟨L,Y,X⟩:=G I;have x:=hs.O p;obtain⟨_,R,q6,P⟩:=th (x.BW 6 rfl rfl) (kB t 6 (.list (.int .u8)) rfl rfl);have H:s6=.slice R sd.length q6:=P;subst H;refine cm (c:=true) k rfl rfl (HZ I) fun a k=>?_
  repeat refine sm k fun a k=>?_
  refine lN (vs:=[s4,s5]) k rfl rfl (fun w' z q v f=>by
   match q,f with
   |0,f=>injection f with f;subst f;exact i.cell (fun h=>h) (j:=4) rfl w' z
   |1,f=>injection f with f;subst f;exact i.cell (fun h=>h) (j:=5) rfl w' z) fun a k=>?_
  refine iB (vs:=[.agg [s4,s5].toArray]) k (by decide) rfl (by decide) YP.enter rfl (pX (dd:=[.agg [.list sv,.list sl]]) (c:=true) YP r rfl (fun q v d f B=>by
   match q,f,B with
   |0,f,B=>
    injection f with f;injection B with B;subst f B
    exact .agg _ _ rfl (fun q u y n m=>by
     match q,n,m with
     |0,n,m=>injection n with n;injection m with m;subst n m;exact x.BW 4 rfl rfl
     |1,n,m=>injection n with n;injection m with m;subst n m;exact x.BW 5 rfl rfl)) (aA.2 ⟨_,_,rfl,eA.2 ⟨_,rfl,aA.2 ⟨_,_,rfl,kB t 4 (.list I6) rfl rfl,aA.2 ⟨_,_,rfl,kB t 5 (.list I6) rfl rfl,dk.2 rfl⟩⟩⟩,dk.2 rfl⟩) trivial (congrArg D.bool L)) ?_
  rintro e U ⟨rfl,stc,hwc⟩;have sc:=stc.xL ax;refine⟨_,rfl,fun _=>sc,fun a k=>?_⟩;refine qj k (by assumption) rfl (by decide) rfl fun a k=>?_
  repeat (first|refine sm k fun a k=>?_|refine ld k (i.cell (fun h=>h) rfl) fun a k=>?_)
  refine iB (vs:=[.int i64 (sd.length:Int),.int i64 1,.int i64 1048576]) k (by decide) rfl (by decide) Vu.enter rfl (oT hwc (xC (by omega) (by omega)) (by decide) (by decide) (by simp only[nY,aP,bg];omega)) ?_;rintro e T ⟨rfl,Sp,Sx⟩;have F:=sc.trans (Sp.xL ax);refine⟨_,rfl,fun _=>F,fun a k=>?_⟩;refine qj k (by assumption) rfl (by decide) rfl fun a k=>?_;refine pk k rfl rfl fun a k=>?_;refine pk k rfl rfl fun a k=>?_;refine pk k rfl rfl fun a k=>?_;exact av (g _ _ (k.sb) ((p.eC A r stc nE).eC A hwc Sp nE) Sx)
 refine cm (c:=false) k rfl rfl (DY I) fun a k=>?_
 repeat refine sm k fun a k=>?_
 iterate 6 refine Ff k (by assumption) rfl rfl (by decide) fun a k=>?_
 repeat refine sm k fun a k=>?_
 refine pk k rfl rfl fun a k=>?_;refine pk k rfl rfl fun a k=>?_;exact av (g _ _ (k.sb) p r)
def Iz{id term vote li lt:Int}{fv fl sv sl sd es:Tah}{c0 c1 s4 s5 s6 s7:Tao}(m:Wf w S ow)(e6:1000<=l)(k5:nY id 1 5=true)(c5:kL i64 id)(hc:bV w S (.agg [c0,c1].toArray) (.agg [.list fv,.list fl]))(g9:Has lB (.agg [.list fv,.list fl]))(hm:gp (.agg [.list fv,.list fl])=true)(hs:bV w S (.agg [.int i64 term,.int i64 vote,.int i64 li,.int i64 lt,s4,s5,s6,s7].toArray) (.agg [.int i64 term,.int i64 vote,.int i64 li,.int i64 lt,.list sv,.list sl,.list sd,.list es]))(M:Has jm (.agg [.int i64 term,.int i64 vote,.int i64 li,.int i64 lt,.list sv,.list sl,.list sd,.list es]))(ht:nY term 0 MX=true)(f:nY vote 0 MX=true)(i9:jt li lt [] li lt es=true)(j6:eF es=true)(j9:eJ lt (iv li lt [] li lt es).2<=term)(k6:es.length<4294967296)(c3:gn li lt (iv li lt [] li lt es).2=true)(c4:okB li lt=true/\(li=0↔lt=0))(b1:kL i64 li)(C:kL i64 lt)(j7:0<li->gp (.agg [.list sv,.list sl])=true/\1<=sd.length/\sd.length<=1048576):
  Calls Try.prog 11 [.int i64 id,.agg [c0,c1].toArray,.agg [.int i64 term,.int i64 vote,.int i64 li,.int i64 lt,s4,s5,s6,s7].toArray].toArray w fun e w'=>∃b S' cE,e=.returned (.pointer (some ⟨b,0,none⟩))/\bB (iF l) ax w S ow w' S' cE/\Wf w' S' cE/\kK w' S' cE l (dS 0) b [cR (Cn id fv fl term vote li lt sv sl sd (iv li lt [] li lt es).2),cL (Cn id fv fl term vote li lt sv sl sd (iv li lt [] li lt es).2)]/\w.heap.size<=b:=by
 have i2:kL i64 term:=by simp only[nY,aP,bg]at ht;have j8:MX=1099511627776:=rfl;exact⟨by have:i64.min=-9223372036854775808:=rfl;omega,by have:i64.max=9223372036854775807:=rfl;omega⟩
 have i1:kL i64 vote:=by simp only[nY,aP,bg]at f;have j8:MX=1099511627776:=rfl;exact⟨by have:i64.min=-9223372036854775808:=rfl;omega,by have:i64.max=9223372036854775807:=rfl;omega⟩
 have i4:kL i64 0:=by decide
 have k3:kL i64 1:=by decide
 have k2:kL i64 5:=by decide
 have i3:kL i64 1099511627776:=by decide
 obtain⟨_,A7,q7,h7⟩:=th (hs.BW 7 rfl rfl) (Wo M);have k9:s7=.slice A7 es.length q7:=h7;subst k9;refine lh Try.func11 OE Yq agT (by show 3<=110;omega) ?_;intro a k;have Y:=jw (P:=Try.prog) (fn:=Try.f11) (R:=fun e w'=>∃b S' cE,e=.returned (.pointer (some ⟨b,0,none⟩))/\bB (iF l) ax w S ow w' S' cE/\Wf w' S' cE/\kK w' S' cE l (dS 0) b [cR (Cn id fv fl term vote li lt sv sl sd (iv li lt [] li lt es).2),cL (Cn id fv fl term vote li lt sv sl sd (iv li lt [] li lt es).2)]/\w.heap.size<=b);refine wp_seq (rg ax Y acU ?_);intro w1 e1;refine uv (us:=[c0,c1]) k (by decide) rfl (by decide) rfl rfl (fun _=>SX.alloc _ _ _) fun a k=>?_;have sa:=SX.alloc ax w1 (.cells [c0,c1].toArray 31);refine uv (us:=[.int i64 term,.int i64 vote,.int i64 li,.int i64 lt,s4,s5,s6,.slice A7 es.length q7]) k (by decide) rfl (by decide) rfl rfl (fun _=>sa.trans (SX.alloc _ _ _)) fun a k=>?_;have sb:=sa.trans (SX.alloc ax _ (.cells [.int i64 term,.int i64 vote,.int i64 li,.int i64 lt,s4,s5,s6,.slice A7 es.length q7].toArray 65));refine sm k fun a k=>?_;refine av ?_;have b0:Wf w1 S ow:=⟨fun b o hs=>by rw[e1.heap];exact m.s b o hs,fun b l B=>by rw[e1.heap];exact m.o b l B,m.d⟩;have sA:bB (iF l) ax w S ow w1 S ow:=bB.W e1 _ ax S ow;obtain⟨f0,a9⟩:=bB.alloc b0 (.cells [c0,c1].toArray 31);have d8:=fU.new b0 31 [c0,c1];obtain⟨d1,F⟩:=bB.alloc a9 (.cells [.int i64 term,.int i64 vote,.int i64 li,.int i64 lt,s4,s5,s6,.slice A7 es.length q7].toArray 65);have a4:=fU.new a9 65 [.int i64 term,.int i64 vote,.int i64 li,.int i64 lt,s4,s5,s6,.slice A7 es.length q7];have a5:=d8.O d1 (fun h=>h);have sC:=(sA.eC m b0 f0 nE).eC m a9 d1 nE;generalize l5:w1.heap.size=b4 at k d8 a5;generalize l4:(w1.alloc (.cells [c0,c1].toArray 31)).heap.size=Z at k a4;generalize (w1.alloc (.cells [c0,c1].toArray 31)).alloc _=w3 at a4 a5 sC F⊢;clear f0 d1 a9 d8 sa sb sA b0 e1;have k:=k.sb (l:=[(6,.pointer none),(5,.pointer (some ⟨Z,0,none⟩)),(4,.pointer (some ⟨b4,0,none⟩)),(0,.int i64 id)]);refine wp_seq (rg ax Y acT ?_);intro w4 e4;have e0:Wf w4 S ow:=⟨fun b o hs=>by rw[e4.heap];exact F.s b o hs,fun b l B=>by rw[e4.heap];exact F.o b l B,F.d⟩;have d7:=a5.W e4;have a3:=a4.W e4;have sD:=sC.eN m F e4;have I:=SX.refl ax w4
 repeat refine sm k fun a k=>?_
 refine iB (vs:=[.int i64 id,.int i64 1,.int i64 5]) k (by decide) rfl (by decide) Vu.enter rfl (oT e0 c5 k3 k2 k5) ?_;rintro e w5 ⟨rfl,uV,Vi⟩;refine⟨_,rfl,fun _=>uV.xL _,fun a k=>?_⟩;have s5:=uV.xL ax;have sE:=sD.eC m e0 uV nE
 repeat refine sm k fun a k=>?_
 refine lN (vs:=[c0,c1]) k rfl rfl (fun w' g q v f=>by rw[aq];exact d7.cell (fun h=>h) f w' g) fun a k=>?_
 refine iB (vs:=[.agg [c0,c1].toArray]) k (by decide) rfl (by decide) YP.enter rfl (pX (dd:=[.agg [.list fv,.list fl]]) (c:=true) YP Vi rfl (fun q v d f n=>by
  match q,f,n with
  |0,f,n=>injection f with f;injection n with n;subst f n;exact hc.O sE) (aA.2 ⟨_,_,rfl,g9,dk.2 rfl⟩) trivial (congrArg D.bool hm)) ?_
 rintro e w6 ⟨rfl,EX,Mc⟩;have d4:=s5.trans (EX.xL ax);refine⟨_,rfl,fun _=>d4,fun a k=>?_⟩;have sF:=sE.eC m Vi EX nE;refine pk k rfl rfl fun a k=>?_
 repeat (first|refine sm k fun a k=>?_|refine ld k (a3.cell (fun h=>h) rfl) fun a k=>?_)
 refine iB (vs:=[.int i64 term,.int i64 0,.int i64 1099511627776]) k (by decide) rfl (by decide) Vu.enter rfl (oT Mc i2 i4 i3 ht) ?_;rintro e w7 ⟨rfl,G6,YJ⟩;have d3:=d4.trans (G6.xL ax);refine⟨_,rfl,fun _=>d3,fun a k=>?_⟩;have sG:=sF.eC m Mc G6 nE;refine pk k rfl rfl fun a k=>?_
 repeat (first|refine sm k fun a k=>?_|refine ld k (a3.cell (fun h=>h) rfl) fun a k=>?_)
 refine iB (vs:=[.int i64 vote,.int i64 0,.int i64 1099511627776]) k (by decide) rfl (by decide) Vu.enter rfl (oT YJ i1 i4 i3 f) ?_;rintro e w8 ⟨rfl,YV,Y3⟩;have f1:=d3.trans (YV.xL ax);refine⟨_,rfl,fun _=>f1,fun a k=>?_⟩;have sH:=sG.eC m YJ YV nE;refine pk k rfl rfl fun a k=>?_
 repeat refine sm k fun a k=>?_
 refine av ?_;have g5:=(((d7.O uV (fun h=>h)).O EX (fun h=>h)).O G6 (fun h=>h)).O YV (fun h=>h);have f7:=(((a3.O uV (fun h=>h)).O EX (fun h=>h)).O G6 (fun h=>h)).O YV (fun h=>h);have k:=k.sb (l:=[(7,.bool true),(6,.pointer none),(5,.pointer (some ⟨Z,0,none⟩)),(4,.pointer (some ⟨b4,0,none⟩)),(0,.int i64 id)]);clear uV EX G6 YV sC sD sE sF sG I s5 d4 d3 f1 a5 d7 a4 a3 e4 F e0 Vi Mc YJ;refine wp_seq (rg (fun Q=>ow Q=some l) Y acS ?_);intro w9 e9;have d9:Wf w9 S ow:=⟨fun b o hs=>by rw[e9.heap];exact Y3.s b o hs,fun b l B=>by rw[e9.heap];exact Y3.o b l B,Y3.d⟩;have g4:=g5.W e9;have a2:=f7.W e9;have sI:=sH.eN m Y3 e9;have I:=SX.refl (fun Q=>ow Q=some l) w9;have a6:¬ow Z=some l:=by rw[a2.ow];intro h;cases h
 repeat (first|refine sm k fun a k=>?_|refine ld k (a2.cell a6 rfl) fun a k=>?_)
 refine iB (vs:=[.int i64 li,.int i64 lt]) k (by decide) rfl (by decide) cnw.enter rfl (Px (l:=l) d9 b1 C c4 e6) ?_;rintro e wa ⟨bl,Sa,Sr,rfl,YT,hwa,aaW,hbl⟩;have sa:SX (fun Q=>ow Q=some l) w9 wa:=SX.iu (fun _ h=>h) YT;refine⟨_,rfl,fun _=>sa,fun a k=>?_⟩
 repeat refine sm k fun a k=>?_
 refine av ?_;have g3:=g4.O YT (fun h=>h);have d6:=a2.O YT (fun h=>h);have sJ:=sI.fF m d9 YT rfl;have k8:=hc.O sJ;have h4:=hs.O sJ;have j5:=sI.size;have k:=k.sb (l:=[(8,.pointer (some ⟨bl,0,none⟩)),(7,.bool true),(6,.pointer none),(5,.pointer (some ⟨Z,0,none⟩)),(4,.pointer (some ⟨b4,0,none⟩)),(0,.int i64 id)]);clear sa I YT sI g4 a2 g5 f7 e9 d9 sH Y3;refine wp_seq (wp_seq (Rp (by exact Y) hwa d6 h4 M j7 k ?_));intro a wb k J A;have E0:=g3.O J (fun h=>h);have f6:=d6.O J (fun h=>h);have sK:=sJ.eC m hwa J nE;have c2:=aaW.O hwa A J (fun h=>h) rfl;refine bw k rfl (wp_skip ?_);have k:=k.sb (l:=[(8,.pointer (some ⟨bl,0,none⟩)),(6,.pointer none),(5,.pointer (some ⟨Z,0,none⟩)),(4,.pointer (some ⟨b4,0,none⟩)),(0,.int i64 id)]);have k7:=hc.O sK;have h0:=hs.O sK;have i5:bV wb Sa (.slice A7 es.length q7) (.list es):=h0.BW 7 rfl rfl;clear J d6 g3 aaW hwa k8 h4;refine wp_seq (wp_seq (rg (fun Q=>Sr Q=some l) Y acQ ?_));intro wc ec;have a8:Wf wc Sa Sr:=⟨fun b o hs=>by rw[ec.heap];exact A.s b o hs,fun b l B=>by rw[ec.heap];exact A.o b l B,A.d⟩;have loc:=E0.W ec;have a1:=f6.W ec;have a0:bB ax ax wb Sa Sr wc Sa Sr:=bB.W ec ax ax Sa Sr;have sL:=sK.eC m A a0 nE;have b9:=c2.O A a8 a0 (fun h=>h) rfl;have I:=SX.refl (fun Q=>Sr Q=some l) wc;have a6:¬Sr Z=some l:=by rw[a1.ow];intro h;cases h
 repeat (first|refine sm k fun a k=>?_|refine ld k (a1.cell a6 rfl) fun a k=>?_)
 refine iB (vs:=[.pointer (some ⟨bl,0,none⟩),.int i64 li,.int i64 lt,.slice A7 es.length q7]) k (by decide) rfl (by decide) c23.enter rfl (GV (i:=li) (t:=lt) (le:=[]) (es:=es) b9 a8 e6 (aA.2 ⟨_,_,rfl,⟨_,rfl,b1⟩,aA.2 ⟨_,_,rfl,⟨_,rfl,C⟩,aA.2 ⟨_,_,rfl,Wo M,aA.2 ⟨_,_,rfl,⟨_,rfl,b1⟩,aA.2 ⟨_,_,rfl,⟨_,rfl,C⟩,aA.2 ⟨_,_,rfl,bO.2 ⟨[],rfl,gy _,fun _ h=>by cases h⟩,dk.2 rfl⟩⟩⟩⟩⟩⟩) (i5.O a0) (eS.2 ⟨jL.1 c4.1,rfl⟩) (by decide) k6) ?_;rintro e wd ⟨Sd,GY,rfl,Sp,Sx,Wn⟩;have sd:SX (fun Q=>Sr Q=some l) wc wd:=SX.iu (fun _ h=>h) Sp;refine⟨_,rfl,fun _=>sd,fun a k=>?_⟩;rw[i9]at k;refine sm k fun a k=>?_;refine pj (j:=0) k (by assumption) rfl (by decide) rfl rfl fun a k=>?_;refine pj (j:=1) k (by assumption) rfl (by decide) rfl rfl fun a k=>?_
 repeat refine sm k fun a k=>?_
 refine av ?_;have g2:=loc.O Sp (fun h=>h);have f5:=a1.O Sp (fun h=>h);have sM:=sL.fF m a8 Sp rfl;have k:=k.sb (l:=[(10,.bool true),(8,.pointer (some ⟨bl,0,none⟩)),(6,.pointer none),(5,.pointer (some ⟨Z,0,none⟩)),(4,.pointer (some ⟨b4,0,none⟩)),(0,.int i64 id)]);generalize l2:(iv li lt [] li lt es).2=le at Wn j9 c3 Y⊢;clear Sp I sd a6 b9 a0 sL loc a1 a8 ec c2 A E0 f6 sK k7 h0 i5;refine wp_seq (rg ax Y acP ?_);intro we ee;have L:Wf we Sd GY:=⟨fun b o hs=>by rw[ee.heap];exact Sx.s b o hs,fun b l B=>by rw[ee.heap];exact Sx.o b l B,Sx.d⟩;have g1:=g2.W ee;have d5:=f5.W ee;have d0:bB ax ax wd Sd GY we Sd GY:=bB.W ee ax ax Sd GY;have sN:=sM.eC m Sx d0 nE;have b8:=Wn.O Sx L d0 (fun h=>h) rfl;have I:=SX.refl ax we
 repeat refine sm k fun a k=>?_
 refine qj k (by assumption) rfl (by decide) rfl fun a k=>?_
 repeat (first|refine sm k fun a k=>?_|refine ld k (d5.cell (fun h=>h) rfl) fun a k=>?_)
 refine iB (vs:=[.slice A7 es.length q7]) k (by decide) rfl (by decide) c24.enter rfl (pX (dd:=[.list es]) (c:=true) c24 L rfl (fun q v d f n=>by
  match q,f,n with
  |0,f,n=>injection f with f;injection n with n;subst f n;exact(hs.O sN).BW 7 rfl rfl) (aA.2 ⟨_,_,rfl,Wo M,dk.2 rfl⟩) trivial (congrArg D.bool j6)) ?_
 rintro e wf ⟨rfl,YB,Km⟩;have sf:=YB.xL ax;refine⟨_,rfl,fun _=>sf,fun a k=>?_⟩;refine qj k (by assumption) rfl (by decide) rfl fun a k=>?_;refine pk k rfl rfl fun a k=>?_;refine av (bw k rfl (wp_skip ?_));have g0:=g1.O YB (fun h=>h);have f4:=d5.O YB (fun h=>h);have b7:=b8.O L Km YB (fun h=>h) rfl;have sO:=sN.eC m L YB nE;have k:=k.sb (l:=[(8,.pointer (some ⟨bl,0,none⟩)),(6,.pointer none),(5,.pointer (some ⟨Z,0,none⟩)),(4,.pointer (some ⟨b4,0,none⟩)),(0,.int i64 id)]);clear YB sf b8 I sN d0 g1 d5 L ee g2 f5 sM Sx Wn;refine wp_seq (wp_seq (rg ax Y acO ?_));intro wg eg;have K:Wf wg Sd GY:=⟨fun b o hs=>by rw[eg.heap];exact Km.s b o hs,fun b l B=>by rw[eg.heap];exact Km.o b l B,Km.d⟩;have c9:bB ax ax wf Sd GY wg Sd GY:=bB.W eg ax ax Sd GY;have sP:=sO.eC m Km c9 nE;have N:=b7.O Km K c9 (fun h=>h) rfl;have I:=SX.refl ax wg
 repeat refine sm k fun a k=>?_
 refine iB (vs:=[.pointer (some ⟨bl,0,none⟩)]) k (by decide) rfl (by decide) c25.enter rfl (Lp N K c3) ?_;rintro e wh ⟨rfl,YA,Vh⟩;have sh:=YA.xL ax;refine⟨_,rfl,fun _=>sh,fun a k=>?_⟩;refine sm k fun a k=>?_;refine pj (j:=0) k (by assumption) rfl (by decide) rfl rfl fun a k=>?_;refine pj (j:=1) k (by assumption) rfl (by decide) rfl rfl fun a k=>?_
 repeat refine sm k fun a k=>?_
 refine av ?_;have f9:=(g0.W eg).O YA (fun h=>h);have f3:=(f4.W eg).O YA (fun h=>h);have b6:=N.O K Vh YA (fun h=>h) rfl;have sQ:=sP.eC m K YA nE;have k:=k.sb (l:=[(12,.int i64 (fW li lt le).2),(8,.pointer (some ⟨bl,0,none⟩)),(6,.pointer none),(5,.pointer (some ⟨Z,0,none⟩)),(4,.pointer (some ⟨b4,0,none⟩)),(0,.int i64 id)]);clear YA sh N I sP c9 K eg g0 f4 sO Km b7;refine wp_seq (rg ax Y acN ?_);intro wi ei;have E:Wf wi Sd GY:=⟨fun b o hs=>by rw[ei.heap];exact Vh.s b o hs,fun b l B=>by rw[ei.heap];exact Vh.o b l B,Vh.d⟩;have j2:=f9.W ei;have f2:=f3.W ei;have c7:bB ax ax wh Sd GY wi Sd GY:=bB.W ei ax ax Sd GY;have sR:=sQ.eC m Vh c7 nE;have h9:=b6.O Vh E c7 (fun h=>h) rfl;have I:=SX.refl ax wi
 repeat (first|refine sm k fun a k=>?_|refine ld k (f2.cell (fun h=>h) rfl) fun a k=>?_)
 refine cm (c:=false) k rfl rfl (DY (by show¬eJ lt le>term;omega)) fun a k=>?_;refine av (bw k rfl (wp_skip ?_));have k:=k.sb (l:=[(8,.pointer (some ⟨bl,0,none⟩)),(5,.pointer (some ⟨Z,0,none⟩)),(4,.pointer (some ⟨b4,0,none⟩)),(0,.int i64 id)]);clear I c7 sQ b6 f3 f9 Vh ei;refine wp_seq (Td (n0:=10) ax mix (by exact Y) Xp (by kernel_rfl) ?_);intro wj ej;have a7:Wf wj Sd GY:=⟨fun b o hs=>by rw[ej.heap];exact E.s b o hs,fun b l B=>by rw[ej.heap];exact E.o b l B,E.d⟩;have j1:=j2.W ej;have z:=f2.W ej;have e8:bB ax ax wi Sd GY wj Sd GY:=bB.W ej ax ax Sd GY;have sS:=sR.eC m E e8 nE;have h8:=h9.O E a7 e8 (fun h=>h) rfl;have I:=SX.refl ax wj
 repeat refine sm k fun a k=>?_
 refine lN (vs:=[c0,c1]) k rfl rfl (fun w' g q v f=>by rw[aq];exact j1.cell (fun h=>h) f w' g) fun a k=>?_
 repeat refine sm k fun a k=>?_
 refine lN (vs:=[.int i64 term,.int i64 vote]) k rfl rfl (fun w' g q v f=>by
  match q,f with
  |0,f=>injection f with f;subst f;exact z.cell (fun h=>h) (j:=0) rfl w' g
  |1,f=>injection f with f;subst f;exact z.cell (fun h=>h) (j:=1) rfl w' g) fun a k=>?_
 repeat refine sm k fun a k=>?_
 refine lN (vs:=[.int i64 li,.int i64 lt,s4,s5,s6]) k rfl rfl (fun w' g q v f=>by
  match q,f with
  |0,f=>injection f with f;subst f;exact z.cell (fun h=>h) (j:=2) rfl w' g
  |1,f=>injection f with f;subst f;exact z.cell (fun h=>h) (j:=3) rfl w' g
  |2,f=>injection f with f;subst f;exact z.cell (fun h=>h) (j:=4) rfl w' g
  |3,f=>injection f with f;subst f;exact z.cell (fun h=>h) (j:=5) rfl w' g
  |4,f=>injection f with f;subst f;exact z.cell (fun h=>h) (j:=6) rfl w' g) fun a k=>?_
 repeat (first|refine sm k fun a k=>?_|refine ld k (z.cell (fun h=>h) rfl) fun a k=>?_)
 refine iB (vs:=[.agg [c0,c1].toArray]) k (by decide) rfl (by decide) c26.enter rfl (CO (dd:=[.agg [.list fv,.list fl]]) c26 rfl a7 rfl (fun q v d f n=>by
  match q,f,n with
  |0,f,n=>injection f with f;injection n with n;subst f n;exact hc.O sS) (aA.2 ⟨_,_,rfl,g9,dk.2 rfl⟩) trivial) ?_
 rintro e wk ⟨vc,Sk,τk,rfl,kv,hwk,adv⟩;obtain⟨uc,dc,rfl,b3,g8,l1,e7⟩:=Kf rfl adv;have sk:=kv.xL ax;refine⟨_,rfl,fun _=>sk,fun a k=>?_⟩;have sT:=sS.eC m a7 kv nE
 refine iB (vs:=[.agg [.int i64 li,.int i64 lt,s4,s5,s6].toArray]) k (by decide) rfl (by decide) c27.enter rfl (CO (dd:=[.agg [.int i64 li,.int i64 lt,.list sv,.list sl,.list sd]]) c27 rfl hwk rfl (fun q v d f n=>by
  match q,f,n with
  |0,f,n=>
   injection f with f;injection n with n;subst f n
   exact .agg _ _ rfl (fun q u y r p=>by
    match q,r,p with
    |0,r,p=>injection r with r;injection p with p;subst r p;exact .int _ _
    |1,r,p=>injection r with r;injection p with p;subst r p;exact .int _ _
    |2,r,p=>injection r with r;injection p with p;subst r p;exact(hs.O sT).BW 4 rfl rfl
    |3,r,p=>injection r with r;injection p with p;subst r p;exact(hs.O sT).BW 5 rfl rfl
    |4,r,p=>injection r with r;injection p with p;subst r p;exact(hs.O sT).BW 6 rfl rfl)) (aA.2 ⟨_,_,rfl,QI M,dk.2 rfl⟩) trivial) ?_
 rintro e wl ⟨vs,Sl,τl,rfl,YS,Y2,adu⟩;obtain⟨us,ds,rfl,b2,g7,l0,G⟩:=Kf rfl adu;have d2:=sk.trans (YS.xL ax);refine⟨_,rfl,fun _=>d2,fun a k=>?_⟩;have sU:=sT.eC m hwk YS nE
 have i7:dc=[.list fv,.list fl]:=by have e:cB 26 [.agg [.list fv,.list fl]]=.agg [.list fv,.list fl]:=rfl;rw[e]at b3;injection b3 with b3;exact b3.symm
 have i6:ds=[.int i64 li,.int i64 lt,.list sv,.list sl,.list sd]:=by have e:cB 27 [.agg [.int i64 li,.int i64 lt,.list sv,.list sl,.list sd]]=.agg [.int i64 li,.int i64 lt,.list sv,.list sl,.list sd]:=rfl;rw[e]at b2;injection b2 with b2;exact b2.symm
 subst i7 i6;have e3:uc.length=2:=g8;have e2:us.length=5:=g7
 obtain⟨X,W,j4⟩:∃X W,uc=[X,W]:=by
  match uc,e3 with
  | [X,W],_=>exact⟨X,W,rfl⟩
 obtain⟨m0,m1,V,U,T,j3⟩:∃m0 m1 V U T,us=[m0,m1,V,U,T]:=by
  match us,e2 with
  | [m0,m1,V,U,T],_=>exact⟨m0,m1,V,U,T,rfl⟩
 rw[j4]at k e7;rw[j3]at k G;have q0:=e7 0 _ _ _ rfl rfl rfl;have q1:=e7 1 _ _ _ rfl rfl rfl;have z0:=(G 0 _ _ _ rfl rfl rfl).1.dj;have z1:=(G 1 _ _ _ rfl rfl rfl).1.dj;have z2:=G 2 _ _ _ rfl rfl rfl;have z3:=G 3 _ _ _ rfl rfl rfl;have z4:=G 4 _ _ _ rfl rfl rfl;rw[z0,z1]at k;refine gU (ps:=[(1,.int i64 id),(2,.agg [X,W].toArray),(3,.agg [.int i64 term,.int i64 vote].toArray),(4,.pointer (some ⟨bl,0,none⟩)),(5,.agg [.int i64 li,.int i64 lt,V,U,T].toArray),(6,.int i64 li)]) (vs:=Cm id term vote li lt bl X W V U T) k (by assumption) rfl (by decide) rfl (by kernel_rfl) fun a k=>?_;refine uv (us:=Cm id term vote li lt bl X W V U T) k (by decide) rfl (by decide) rfl rfl (fun _=>d2.trans (SX.alloc _ _ _)) fun a k=>?_;have sn:=d2.trans (SX.alloc ax wl (.cells (Cm id term vote li lt bl X W V U T).toArray 108));refine sm k fun a k=>?_;refine av ?_;obtain⟨x,g6⟩:=bB.alloc Y2 (.cells (Cm id term vote li lt bl X W V U T).toArray 108);have f8:=fU.new Y2 108 (Cm id term vote li lt bl X W V U T);have h6:=(h8.O a7 hwk kv (fun h=>h) rfl).O hwk Y2 YS (fun h=>h) rfl;have h5:=h6.O Y2 g6 x (fun h=>h) rfl;have H:=sU.eC m Y2 x nE;have i8:w.heap.size<=wl.heap.size:=sU.size;generalize l3:wl.heap.size=bN at k f8 i8;have j5:=x.size;obtain⟨cE,e5,g,i0⟩:=Rr (s:=Cn id fv fl term vote li lt sv sl sd le) h5 g6 f8 e6 rfl rfl (Gg (Gx (bl:=bl) c5 i2 i1 b1 C ⟨(q0.1.O YS).O x,q0.2⟩ ⟨(q1.1.O YS).O x,q1.2⟩ ⟨z2.1.O x,z2.2⟩ ⟨z3.1.O x,z3.2⟩ ⟨z4.1.O x,z4.2⟩))
 have j0:bB (iF l) ax w S ow _ Sl cE:=⟨H.size,H.os,H.tape,H.output,H.E1,H.free,H.jx,H.cell,fun b' l' O h2=>by
   rw[e5];have h3:=H.keep b' l' O h2;split
   .rename_i e;have:=m.o b' l' O;omega
   .exact h3,H.new,fun b' O h2=>by
   rw[e5,if_neg (by omega)];exact H.qT b' O h2,fun b' l' O=>by
   rw[e5]at O;split at O
   .injection O with O;exact .inr O.symm
   exact H.iu b' l' O⟩
 exact wp_ret (rQ abm k rfl ⟨bN,Sl,cE,rfl,j0,g,i0,i8⟩).1
def CU{id term vote:Int}{fv fl es:Tah}{c0 c1 s4 s5 s6 s7:Tao}(o:Wf w S ow)(k:1000<=l)(m:nY id 1 5=true)(c:kL i64 id)(t:bV w S (.agg [c0,c1].toArray) (.agg [.list fv,.list fl]))(g:Has lB (.agg [.list fv,.list fl]))(r:gp (.agg [.list fv,.list fl])=true)(hs:bV w S (.agg [.int i64 term,.int i64 vote,.int i64 0,.int i64 0,s4,s5,s6,s7].toArray) (.agg [.int i64 term,.int i64 vote,.int i64 0,.int i64 0,.list [],.list [],.list [],.list es]))(f:Has jm (.agg [.int i64 term,.int i64 vote,.int i64 0,.int i64 0,.list [],.list [],.list [],.list es]))(q:nY term 0 MX=true)(p:nY vote 0 MX=true)(d:jt 0 0 [] 0 0 es=true)(i:eF es=true)(j:eJ 0 (iv 0 0 [] 0 0 es).2<=term)(n:es.length<4294967296)(a:gn 0 0 (iv 0 0 [] 0 0 es).2=true):
  Calls Try.prog 11 [.int i64 id,.agg [c0,c1].toArray,.agg [.int i64 term,.int i64 vote,.int i64 0,.int i64 0,s4,s5,s6,s7].toArray].toArray w fun e w'=>∃b S' cE,e=.returned (.pointer (some ⟨b,0,none⟩))/\bB (iF l) ax w S ow w' S' cE/\Wf w' S' cE/\kK w' S' cE l (dS 0) b [cR (Wh id fv fl term vote (iv 0 0 [] 0 0 es).2),cL (Wh id fv fl term vote (iv 0 0 [] 0 0 es).2)]/\w.heap.size<=b:=
 Iz (li:=0) (lt:=0) (sv:=[]) (sl:=[]) (sd:=[]) o k m c t g r hs f q p d i j n a ⟨by decide,by decide⟩ (by decide) (by decide) (fun h=>absurd h (by decide))
end
def BL(n:Nat):Tah:=(List.range n).map fun i=>.int i64 ((i+1:Nat):Int)
def PM(n:Nat):BL (n+1)=BL n++[.int i64 ((n+1:Nat):Int)]:=by unfold BL;rw[List.range_succ,bX];rfl
def JY(n:Nat):(BL n).length=n:=by unfold BL;simp
def I4(v n:Nat):Tah:=(List.range n).map fun i=>.int i64 ((v+i+1:Nat):Int)
def Pw(v n:Nat):I4 v (n+1)=I4 v n++[.int i64 ((v+n+1:Nat):Int)]:=by unfold I4;rw[List.range_succ,bX];rfl
def JW(v n:Nat):(I4 v n).length=n:=by unfold I4;simp
def uw:D:=.agg [.int i64 0,.int i64 0,.int i64 0,.int i64 0,.list [],.list [],.list [],.list []]
def uh(v l i:Nat):RS:=Wh ((i+1:Nat):Int) (BL v) (I4 v l) 0 0 []
def gB(v l j:Nat):GS:=⟨BL v,I4 v l,(List.range j).map (uh v l),List.replicate j uw,[],[],[],List.replicate j (.int i64 0),[],List.replicate j [],false⟩
def RJ(v l j:Nat):gB v l (j+1)={gB v l j with eT:=(gB v l j).eT++[uh v l j],saved:=(gB v l j).saved++[uw],aT:=(gB v l j).aT++[[]],cu:=(gB v l j).cu++[.int i64 0]}:=by unfold gB;simp only[List.range_succ,bX,ct,List.map_nil,List.replicate_succ']
def eM:Tao:=.slice none 0 0
def R0(v c:Tao):GR:=⟨v,c,eM,eM,eM,eM,eM,eM,eM,eM,[],[],[],[]⟩
def uI:Has jm uw:=
 eA.2 ⟨_,rfl,aA.2 ⟨_,_,rfl,⟨0,rfl,by decide⟩,aA.2 ⟨_,_,rfl,⟨0,rfl,by decide⟩,aA.2 ⟨_,_,rfl,⟨0,rfl,by decide⟩,aA.2 ⟨_,_,rfl,⟨0,rfl,by decide⟩,aA.2 ⟨_,_,rfl,bO.2 ⟨[],rfl,gy _,fun _ h=>by cases h⟩,aA.2 ⟨_,_,rfl,bO.2 ⟨[],rfl,gy _,fun _ h=>by cases h⟩,aA.2 ⟨_,_,rfl,bO.2 ⟨[],rfl,gy _,fun _ h=>by cases h⟩,aA.2 ⟨_,_,rfl,bO.2 ⟨[],rfl,gy _,fun _ h=>by cases h⟩,dk.2 rfl⟩⟩⟩⟩⟩⟩⟩⟩⟩
section
variable{w w':Tan}{S S':bG}{ow cE:Ow}{b i n:Nat}{vs:Tad}{R:GR}{g:GS}{X:Taj}
def GM.uh{j:Nat}(h:GM w S ow b vs R g)(c:bB (iF (1000+j)) X w S ow w' S' cE)(k:Wf w' S' cE)(q:g.eT.length<=j)(p:g.aT.length<=5):GM w' S' cE b vs R g:=
 ⟨k,h.obj.O c cw,h.fv.O c,h.fl.O c,h.arr.O h.wf c cw,h.qV,fun i s d=>let ⟨o,f,e,m⟩:=h.eT i s d;⟨o,f,e.O h.wf k c (by have:=(aD.1 d).1;simp only[iF];omega) rfl,m⟩,h.saved.O h.wf c cw,h.eI.O h.wf c cw,h.told.O h.wf c cw,h.br.O h.wf c cw,h.cu.O h.wf c cw,h.read.O h.wf c cw,h.tL.O h.wf c cw,h.wM,fun i l d=>let ⟨v,f,e⟩:=h.oa i l d;⟨v,f,e.O h.wf c (by have:=(aD.1 d).1;simp only[iF];omega)⟩⟩
def GM.Yu{bs:Nat}{s:RS}(h:GM w S ow b vs R g)(e:kK w S ow (1000+g.eT.length) (dS 0) bs [cR s,cL s]):GM w S ow b vs {R with lb:=R.lb++[bs]} {g with eT:=g.eT++[s]}:=
 ⟨h.wf,h.obj,h.fv,h.fl,h.arr,by simp[h.qV],fun i f c=>by
  simp only at c⊢;rw[dy]at c;split at c
  .rename_i d;obtain⟨q,p,o,m⟩:=h.eT i f c;exact⟨q,by rw[dy,if_pos (by rw[h.qV];exact d)];exact p,o,m⟩
  have k:i=g.eT.length:=by have:=(aD.1 c).1;simp at this;omega
  subst k;simp at c;subst c;exact⟨bs,by rw[dy,if_neg (by rw[h.qV];omega),h.qV];simp,e,gE e⟩,h.saved,h.eI,h.told,h.br,h.cu,h.read,h.tL,h.wM,h.oa⟩
def GM.Sm(h:GM w S ow b vs R g)(m:g.aT.length<=5):GM w S ow b vs {R with vv:=R.vv++[eM]} {g with aT:=g.aT++[[]]}:=
 ⟨h.wf,h.obj,h.fv,h.fl,h.arr,h.qV,h.eT,h.saved,h.eI,h.told,h.br,h.cu,h.read,h.tL,by simp[h.wM],fun i l c=>by
  simp only at c⊢;rw[dy]at c;split at c
  .rename_i d;obtain⟨v,k,f⟩:=h.oa i l c;exact⟨v,by rw[dy,if_pos (by rw[h.wM];exact d)];exact k,f⟩
  have e:i=g.aT.length:=by have:=(aD.1 c).1;simp at this;omega
  subst e;simp at c;subst c;exact⟨eM,by rw[dy,if_neg (by rw[h.wM];omega),h.wM];simp,dA.nil (by decide) (by omega)⟩⟩
def GM.begin{v c:Tao}{xs ys:Tah}(e:Wf w S ow)(ob:ur w ow 0 b 59 ((R0 v c).cells false))(f:bV w S v (.list xs))(d:bV w S c (.list ys)):GM w S ow b ((R0 v c).cells false) (R0 v c) ⟨xs,ys,[],[],[],[],[],[],[],[],false⟩:=
 ⟨e,ob,f,d,jS.nil (by omega),rfl,fun i s h=>by simp at h,dA.nil (by decide) (by omega),dA.nil (by decide) (by omega),dA.nil (by decide) (by omega),dA.nil (by decide) (by omega),dA.nil (by decide) (by omega),dA.nil (by decide) (by omega),jS.nil (by omega),rfl,fun i l h=>by simp at h⟩
end
def nk(w:Tan)(S:bG)(v l:Nat):O3:=bodyPost Try.prog Try.f9 (fun e w'=>∃b S' cE,e=.returned (bM b)/\bB LG ax w S (fun _=>none) w' S' cE/\iA w' S' cE b (gB v l (v+l)))
def GD{n:Nat}(h:n<=10):mG jm n:=by
 have c:jm.bytes<=1000:=by decide
 refine⟨by simp only[maxLen];omega,?_⟩;have:n*jm.bytes<=10*1000:=Nat.mul_le_mul h c;omega
def F3{v l:Nat}(h:v+l<=5):Has lB (.agg [.list (BL v),.list (I4 v l)]):=by
 have e:∀i:Nat,i<=5->Has I6 (.int i64 (i:Int)):=fun i c=>⟨_,rfl,⟨by have:i64.min=-9223372036854775808:=rfl;omega,by have:i64.max=9223372036854775807:=rfl;omega⟩⟩;refine eA.2 ⟨_,rfl,aA.2 ⟨_,_,rfl,bO.2 ⟨_,rfl,nh (by rw[JY];omega),fun x d=>?_⟩,aA.2 ⟨_,_,rfl,bO.2 ⟨_,rfl,nh (by rw[JW];omega),fun x d=>?_⟩,dk.2 rfl⟩⟩⟩
 .obtain⟨i,c,rfl⟩:=bf.1 d;have:=cz.1 c;exact e _ (by omega)
 obtain⟨i,c,rfl⟩:=bf.1 d;have:=cz.1 c;exact e _ (by omega)
def FO{v l:Nat}(d:1<=v)(c:v+l<=5):gp (.agg [.list (BL v),.list (I4 v l)])=true:=by
 obtain rfl|rfl|rfl|rfl|rfl:v=1\/v=2\/v=3\/v=4\/v=5:=by omega
 all_goals obtain rfl|rfl|rfl|rfl|rfl:l=0\/l=1\/l=2\/l=3\/l=4:=by omega
 all_goals first|omega|decide
section
variable{w:Tan}{S:bG}{ow:Ow}{b j n v l:Nat}{R:GR}{Q:O3}{a:Act}
noncomputable def Ei:Code:=.seq (.region 13 M5 false) (.seq (.region 14 M4 true) (.seq (.region 15 M0 false) (.region 16 MZ false)))
def zV:Tad:=[.int i64 0,.int i64 0,.int i64 0,.int i64 0,eM,eM,eM,eM]
def LU(hQ:QP Q)(gm:GM w S ow b (R.cells false) R (gB v l j))(h3:R.la=R.lb)(h0:R.va=R.vv)(hj:j<n)(hn:n<=5)(h1:1<=v)(f0:v+l<=5)(k:Kn 97 a [(8,.int i64 ((j+1:Nat):Int)),(5,bM b),(0,.int i64 n)])(d1:∀a W S' cE R',Kn 97 a [(8,.int i64 ((j+1:Nat):Int)),(5,bM b),(0,.int i64 n)]->bB LG ax w S ow W S' cE->GM W S' cE b (R'.cells false) R' (gB v l (j+1))->R'.la=R'.lb->R'.va=R'.vv->Q .normal a W):Ei.wp Try.prog Q a w:=by
 unfold Ei;have o:=gm.wf;have f2:(gB v l j).eT.length=j:=by unfold gB;simp
 have g9:(gB v l j).aT.length=j:=by unfold gB;simp
 refine wp_seq (rg (fun t=>ow t=some 10) hQ abu ?_);intro w1 e1;have E:=gm.W e1;have d8:=(bB.refl LG ax w S ow).eN o o e1;have s0:=SX.refl (fun t=>ow t=some 10) w1;have C:¬ow b=some 10:=by rw[E.obj.ow];decide
 repeat (first|refine sm k fun a k=>?_|refine ld k (E.cell C rfl) fun a k=>?_)
 refine gU (ps:=[]) (vs:=zV) k (by assumption) rfl (by decide) rfl (by kernel_rfl) fun a k=>?_;refine lX (kk:=8) (T:=65) k (by decide) rfl (by decide) rfl (by kernel_rfl) rfl (fun _=>SX.alloc _ _ _) fun a k=>?_;obtain⟨r,z⟩:=bB.alloc E.wf (.cells (Value.agg zV.toArray).cells 65);have x:=E.O r z;refine tO k (by decide) rfl (by decide) fun ty c4 af=>?_
 obtain⟨v',w',p,cE,D,c7,d0⟩:=x.saved.Fa (P:=Try.prog) (tt:=55) (by kernel_rfl) rfl z ty w1.heap.size (d:=uw) uI (us:=zV) rfl (heap_alloc_new w1 _) (by
  intro q u c f m
  match q,f,m with
  |0,f,m=>injection f with f;injection m with m;subst f m;exact .int _ _
  |1,f,m=>injection f with f;injection m with m;subst f m;exact .int _ _
  |2,f,m=>injection f with f;injection m with m;subst f m;exact .int _ _
  |3,f,m=>injection f with f;injection m with m;subst f m;exact .int _ _
  |4,f,m=>injection f with f;injection m with m;subst f m;exact .nil _ _
  |5,f,m=>injection f with f;injection m with m;subst f m;exact .nil _ _
  |6,f,m=>injection f with f;injection m with m;subst f m;exact .nil _ _
  |7,f,m=>injection f with f;injection m with m;subst f m;exact .nil _ _) (GD (by unfold gB;simp;omega))
 have s1:SX (fun t=>ow t=some 10) w1 w':=(SX.alloc _ _ _).trans (SX.iu (fun _ h=>h) D);refine⟨v',w',jj (k.op rfl) (k.op rfl) p,fun _=>s1,fun a k=>?_⟩;have b1:=x.CH D c7 d0;obtain⟨Av,cv,f1⟩:=d0.slice
 repeat refine sm k fun a k=>?_
 refine jV (cur:=R.cells false) k (by decide) rfl (by kernel_rfl) rfl rfl (by rw[f1];rfl) b1.obj.heap (by show 3<11;omega) (by rw[f1];rfl) (fun h=>absurd rfl h) fun a k=>?_;refine av ?_;obtain⟨c3,a3,e2⟩:=b1.obj.set c7 (us:=(R.cells false).set (0+3) v');have U:=b1.setObj c3 a3 e2;have Z:=((d8.eC o E.wf r nE).fF o z D (.inl (by decide))).fF o c7 c3 (.inl (by decide));have k:=k.sb (l:=[(8,.int i64 ((j+1:Nat):Int)),(5,bM b),(0,.int i64 n)]);generalize a6:({R with saved:=v'}:GR)=A at U;have b7:A.la=A.lb:=by rw[<-a6];exact h3
 have e7:A.va=A.vv:=by rw[<-a6];exact h0
 have g1:(R.cells false).set (0+3) v'=A.cells false:=by rw[<-a6];rfl
 rw[g1]at U;clear c3 D r d8 b1 x E s1 s0 e1 d0 p a6 gm e2;rw[g1]at Z a3⊢;generalize w'.setRow _ _=w4 at U Z a3⊢;refine wp_seq (fV (n0:=11) (fun t=>cE t=some (1000+j)\/cE t=some 1) mix (by exact hQ) abt (fun _=>by kernel_rfl) ?_);intro w5 e5;have B:=U.W e5;have d7:=Z.eN o a3 e5;have s0:=SX.refl (fun t=>cE t=some (1000+j)\/cE t=some 1) w5
 have C:¬(cE b=some (1000+j)\/cE b=some 1):=by rw[B.obj.ow];rintro(h|h)<;>injection h with h<;>omega
 repeat refine sm k fun a k=>?_
 refine ld k (B.cell C (j:=2) rfl) fun a k=>?_
 repeat refine sm k fun a k=>?_
 refine lN (vs:=[A.fv,A.fl]) k rfl rfl (fun w' e3 q v hv=>by
  match q,hv with
  |0,hv=>injection hv with hv;subst hv;exact B.cell C (j:=0) rfl w' e3
  |1,hv=>injection hv with hv;subst hv;exact B.cell C (j:=1) rfl w' e3) fun a k=>?_
 refine gU (ps:=[]) (vs:=zV) k (by assumption) rfl (by decide) rfl (by kernel_rfl) fun a k=>?_;have f7:nY ((j+1:Nat):Int) 1 5=true:=by simp only[nY,aP,bg];omega
 have f8:kL i64 ((j+1:Nat):Int):=⟨by have:i64.min=-9223372036854775808:=rfl;omega,by have:i64.max=9223372036854775807:=rfl;omega⟩;have d2:(iv 0 0 [] 0 0 []).2=[]:=rfl
 have M:=CU (l:=1000+j) (id:=((j+1:Nat):Int)) (term:=0) (vote:=0) (fv:=BL v) (fl:=I4 v l) (es:=[]) (c0:=A.fv) (c1:=A.fl) (s4:=eM) (s5:=eM) (s6:=eM) (s7:=eM) B.wf (by omega) f7 f8
  (.agg [A.fv,A.fl] _ rfl (fun q u y f hy=>by
   match q,f,hy with
   |0,f,hy=>injection f with f;injection hy with hy;subst f hy;exact B.fv
   |1,f,hy=>injection f with f;injection hy with hy;subst f hy;exact B.fl)) (F3 f0) (FO h1 f0)
  (.agg [.int i64 0,.int i64 0,.int i64 0,.int i64 0,eM,eM,eM,eM] _ rfl (fun q u c f m=>by
   match q,f,m with
   |0,f,m=>injection f with f;injection m with m;subst f m;exact .int _ _
   |1,f,m=>injection f with f;injection m with m;subst f m;exact .int _ _
   |2,f,m=>injection f with f;injection m with m;subst f m;exact .int _ _
   |3,f,m=>injection f with f;injection m with m;subst f m;exact .int _ _
   |4,f,m=>injection f with f;injection m with m;subst f m;exact .nil _ _
   |5,f,m=>injection f with f;injection m with m;subst f m;exact .nil _ _
   |6,f,m=>injection f with f;injection m with m;subst f m;exact .nil _ _
   |7,f,m=>injection f with f;injection m with m;subst f m;exact .nil _ _)) uI (by decide) (by decide) (by decide) (by decide) (by rw[d2];decide) (by decide) (by rw[d2];decide)
 rw[d2]at M;refine iB (vs:=[.int i64 ((j+1:Nat):Int),.agg [A.fv,A.fl].toArray,.agg zV.toArray]) k (by decide) rfl (by decide) J4 rfl M ?_;rintro e w6 ⟨bs,S6,ow6,rfl,EX,Mc,aaY,hbs⟩;have s6:SX (fun t=>cE t=some (1000+j)\/cE t=some 1) w5 w6:=SX.iu (fun _ h=>.inl h) EX;refine⟨_,rfl,fun _=>s6,fun a k=>?_⟩;have d4:=B.uh EX Mc (by show(gB v l j).eT.length<=j;omega) (by show(gB v l j).aT.length<=5;omega);have d6:=d7.fF o B.wf EX (.inr (by omega));refine lX (kk:=1) (T:=52) k (by decide) rfl (by decide) rfl (by kernel_rfl) rfl (fun _=>s6.trans (SX.alloc _ _ _)) fun a k=>?_;obtain⟨r,z⟩:=bB.alloc Mc (.cells (bM bs).cells 52);have x:=d4.O r z;have b4:=aaY.O Mc z r (fun h=>h) rfl;have h2:A.la.length=j:=by rw[b7];exact d4.qV.trans f2
 refine tO k (by decide) rfl (by decide) fun ty c4 af=>?_;obtain⟨v7,w7,p,G,F,K,f4⟩:=x.arr.sZ (P:=Try.prog) (tt:=54) (u:=bM bs) (by kernel_rfl) z ty ⟨w6.heap.size,0,none⟩ 1 (iq (vs:=[bM bs]) (heap_alloc_new w6 _) rfl) rfl (by rw[aj,h2];omega);have s7:SX (fun t=>cE t=some (1000+j)\/cE t=some 1) w5 w7:=(s6.trans (SX.alloc _ _ _)).trans (SX.iu (fun t h=>(EX.iu t 1 h).elim .inr (fun e=>by simp only[iF]at e;omega)) F);refine⟨v7,w7,jj (k.op rfl) (k.op rfl) p,fun _=>s7,fun a k=>?_⟩;have L:jS w7 G 1 52 v7 ((A.la++[bs]).map bM):=by rw[bX];exact f4
 have b0:=x.OI F K L;have b6:=b4.O z K F cw rfl;obtain⟨i0,h7,e8⟩:=L.slice
 repeat refine sm k fun a k=>?_
 refine jV (cur:=A.cells false) k (by decide) rfl (by kernel_rfl) rfl rfl (by rw[e8];rfl) b0.obj.heap (by show 2<11;omega) (by rw[e8];rfl) (fun h=>absurd rfl h) fun a k=>?_;refine av ?_;obtain⟨a0,J,e0⟩:=b0.obj.set K (us:=(A.cells false).set (0+2) v7);have g3:=b0.setObj a0 J e0;have b5:=b6.O K J a0 cw rfl
 have O:=g3.Yu (bs:=bs) (s:=uh v l j) (by
  have e:1000+({gB v l j with saved:=(gB v l j).saved++[uw]}:GS).eT.length=1000+j:=by show 1000+(gB v l j).eT.length=1000+j;rw[f2]
  rw[e];exact b5)
 have Y:=((d6.eC o Mc r nE).fF o z F (.inl (by decide))).fF o K a0 (.inl (by decide));have k:=k.sb (l:=[(8,.int i64 ((j+1:Nat):Int)),(5,bM b),(0,.int i64 n)]);generalize a5:({A with l:=v7,la:=A.la++[bs],lb:=A.lb++[bs]}:GR)=R2 at O;have f6:R2.la=R2.lb:=by rw[<-a5];show A.la++[bs]=A.lb++[bs];rw[b7]
 have b2:R2.va=R2.vv:=by rw[<-a5];exact e7
 have g0:(A.cells false).set (0+2) v7=R2.cells false:=by rw[<-a5];rfl
 rw[g0]at O;clear a0 F r d6 EX d7 g3 b0 x d4 B U s6 s7 s0 e5 f4 L p a5 aaY b4 b6 b5 e0 Z M;rw[g0]at Y J⊢;generalize w7.setRow _ _=w8 at O Y J⊢;refine wp_seq (rg (fun t=>G t=some 2) hQ abr ?_);intro w9 e9;have x:=O.W e9;have rb:=Y.eN o J e9;have s0:=SX.refl (fun t=>G t=some 2) w9;have C:¬G b=some 2:=by rw[x.obj.ow];decide
 repeat (first|refine sm k fun a k=>?_|refine ld k (x.cell C rfl) fun a k=>?_)
 refine lX (kk:=1) (T:=29) k (by decide) rfl (by decide) rfl (by kernel_rfl) rfl (fun _=>SX.alloc _ _ _) fun a k=>?_;obtain⟨r,z⟩:=bB.alloc x.wf (.cells eM.cells 29);have a9:=x.O r z;have g8:R2.va.length=j:=by rw[b2];exact a9.wM.trans g9
 refine tO k (by decide) rfl (by decide) fun ty c4 af=>?_;obtain⟨va,wa,p,a1,V,c5,c9⟩:=a9.tL.sZ (P:=Try.prog) (tt:=57) (u:=eM) (by kernel_rfl) z ty ⟨w9.heap.size,0,none⟩ 1 (iq (vs:=[eM]) (heap_alloc_new w9 _) rfl) rfl (by rw[g8];omega);have s1:SX (fun t=>G t=some 2) w9 wa:=(SX.alloc _ _ _).trans (SX.iu (fun _ h=>h) V);refine⟨va,wa,jj (k.op rfl) (k.op rfl) p,fun _=>s1,fun a k=>?_⟩;have a8:=a9.OG V c5 c9;obtain⟨h9,h6,b3⟩:=c9.slice
 repeat refine sm k fun a k=>?_
 refine jV (cur:=R2.cells false) k (by decide) rfl (by kernel_rfl) rfl rfl (by rw[b3];rfl) a8.obj.heap (by show 7<11;omega) (by rw[b3];rfl) (fun h=>absurd rfl h) fun a k=>?_;refine av ?_;obtain⟨b9,a2,d9⟩:=a8.obj.set c5 (us:=(R2.cells false).set (0+7) va);have a7:=(a8.setObj b9 a2 d9).Sm (by show(gB v l j).aT.length<=5;omega);have c2:=((rb.eC o x.wf r nE).fF o z V (.inl (by decide))).fF o c5 b9 (.inl (by decide));have k:=k.sb (l:=[(8,.int i64 ((j+1:Nat):Int)),(5,bM b),(0,.int i64 n)]);generalize a4:({R2 with aT:=va,va:=R2.va++[eM],vv:=R2.vv++[eM]}:GR)=R3 at a7;have f5:R3.la=R3.lb:=by rw[<-a4];exact f6
 have e6:R3.va=R3.vv:=by rw[<-a4];show R2.va++[eM]=R2.vv++[eM];rw[b2]
 have f9:(R2.cells false).set (0+7) va=R3.cells false:=by rw[<-a4];rfl
 rw[f9]at a7;clear b9 V r rb a8 a9 x O s1 s0 e9 c9 p a4 d9 Y;rw[f9]at c2 a2⊢;generalize wa.setRow _ _=wc at a7 c2 a2⊢;refine rg (fun t=>a1 t=some 14) hQ abq ?_;intro wd ed;have N:=a7.W ed;have g4:=c2.eN o a2 ed;have s0:=SX.refl (fun t=>a1 t=some 14) wd;have C:¬a1 b=some 14:=by rw[N.obj.ow];decide
 repeat (first|refine sm k fun a k=>?_|refine ld k (N.cell C rfl) fun a k=>?_)
 refine lX (kk:=1) (T:=3) k (by decide) rfl (by decide) rfl (by kernel_rfl) rfl (fun _=>SX.alloc _ _ _) fun a k=>?_;obtain⟨r,I⟩:=bB.alloc N.wf (.cells (Value.int i64 0).cells 3);have g2:=N.O r I;refine tO k (by decide) rfl (by decide) fun ty c4 af=>?_
 obtain⟨vf,wf,p,g5,b8,H,f3⟩:=g2.cu.Fa (P:=Try.prog) (tt:=29) (by kernel_rfl) rfl I ty wd.heap.size (d:=.int i64 0) ⟨0,rfl,by decide⟩ (us:=[.int i64 0]) rfl (heap_alloc_new wd _) (by
   intro j u c f m
   match j,f,m with
   |0,f,m=>injection f with f;injection m with m;subst f m;exact .int _ _) (nh (by unfold gB;simp;omega))
 have s1:SX (fun t=>a1 t=some 14) wd wf:=(SX.alloc _ _ _).trans (SX.iu (fun _ h=>h) b8);refine⟨vf,wf,jj (k.op rfl) (k.op rfl) p,fun _=>s1,fun a k=>?_⟩;have d3:=g2.CG b8 H f3;obtain⟨h8,h5,e4⟩:=f3.slice
 repeat refine sm k fun a k=>?_
 refine jV (cur:=R3.cells false) k (by decide) rfl (by kernel_rfl) rfl rfl (by rw[e4];rfl) d3.obj.heap (by show 8<11;omega) (by rw[e4];rfl) (fun h=>absurd rfl h) fun a k=>?_;refine av ?_;obtain⟨d5,g7,g6⟩:=d3.obj.set H (us:=(R3.cells false).set (0+8) vf);have h4:=d3.setObj d5 g7 g6;refine d1 _ _ S6 g5 {R3 with cu:=vf} (k.sb) (((g4.eC o N.wf r nE).fF o I b8 (.inl (by decide))).fF o H d5 (.inl (by decide))) ?_ f5 e6;rw[RJ];exact h4
end
section
variable{w w0:Tan}{S S0:bG}{ow:Ow}{b n v l:Nat}{R:GR}{Q:O3}{a:Act}
def _root_.Go.dG.Wf.W{c:Tan}(h:Wf w S ow)(e:zD w c):Wf c S ow:=⟨fun b o hs=>by rw[e.heap];exact h.s b o hs,fun b l f=>by rw[e.heap];exact h.o b l f,h.d⟩
noncomputable def Wv:Code:=.seq (.seq (.region 10 M8 false) (.block 4 (.loop (.seq (.seq (.region 11 M7 false) (.cond (.tmp 49) .skip (.exit 4))) (.seq (.block 5 Ei) (.region 12 M6 false)))))) (.seq (.region 17 MY false) .ret)
def LS(U:n=v+l)(B:1<=v)(P:v+l<=5)(d:Wf w0 S0 (fun _=>none))(O:bB LG ax w0 S0 (fun _=>none) w S ow)(I:GM w S ow b (R.cells false) R (gB v l 0))(C:R.la=R.lb)(A:R.va=R.vv)(k:Kn 97 a [(5,bM b),(0,.int i64 n)]):
  Wv.wp Try.prog (nk w0 S0 v l) a w:=by
 have r:QP (nk w0 S0 v l):=jw;unfold Wv;refine wp_seq (wp_seq (rg ax r abx ?_));intro G E;have e:=I.W E;have u:=SX.refl ax G
 repeat refine sm k fun a k=>?_
 refine av ?_;have f:=O.eN d I.wf E
 refine wp_block (wp_loop_ghost (fun H a W=>∃(j:Nat) (x:bG) (g:Ow) (i:GR),H=n-j/\j<=n/\Kn 97 a [(8,.int i64 ((j+1:Nat):Int)),(5,bM b),(0,.int i64 n)]/\bB LG ax w0 S0 (fun _=>none) W x g/\
  GM W x g b (i.cells false) i (gB v l j)/\i.la=i.lb/\i.va=i.vv) (n-0)
  ⟨0,S,ow,R,rfl,aB _,k.sb,f,e,C,A⟩ ?_)
 clear k e f u E G;rintro H a W ⟨j,x,g,i,rfl,hjn,k,f,e,aa1,aaV⟩;refine wp_seq (wp_seq (rg ax r abw ?_));intro N L;have h:=e.W L;have m:=f.eN d e.wf L;have u:=SX.refl ax N
 repeat refine sm k fun a k=>?_
 refine cm (c:=decide (((j+1:Nat):Int)<=(n:Int))) k rfl rfl rfl fun a k=>?_;refine av (bw k rfl ?_);have k:=k.sb (l:=[(8,.int i64 ((j+1:Nat):Int)),(5,bM b),(0,.int i64 n)]);by_cases p:((j+1:Nat):Int)<=(n:Int)
 .rw[if_pos (by simpa using p)];refine wp_skip ?_;refine wp_seq (wp_block (LU (by exact r) h aa1 aaV (by omega) (by omega) B P k ?_));intro a F T z R3 k y t q o;refine rg ax r abv ?_;intro M J;have u:=SX.refl ax M
  repeat refine sm k fun a k=>?_
  refine iK (s:=((j+1+1:Nat):Int)) k (by assumption) rfl (by decide) rfl rfl (wrap64 (by omega) (by omega)) fun a k=>?_
  repeat refine sm k fun a k=>?_
  refine av ⟨n-(j+1),by omega,j+1,T,z,R3,rfl,by omega,k.sb,(jl d h.wf m y nE).eN d t.wf J,t.W J,q,o⟩
 rw[if_neg (by simpa using p)];refine wp_exit ?_;have D:j=v+l:=by omega
 subst D;refine wp_seq (rg ax r abp ?_);intro F K;have u:=SX.refl ax F
 repeat refine sm k fun a k=>?_
 refine av (wp_ret (rQ afX k rfl ⟨b,x,g,rfl,m.eN d h.wf K,i,h.W K,aa1,aaV⟩).1)
noncomputable def aa9:Code:=.seq (.seq (.region 6 V7 false) (.block 2 (.loop (.seq (.seq (.region 7 V6 false) (.cond (.tmp 32) .skip (.exit 2))) (.seq (.block 3 (.region 9 V4 false)) (.region 8 V5 false)))))) Wv
def LV{x:Tao}(a9:1<=v)(h5:v+l<=5)(q:Wf w0 S0 (fun _=>none))(st:bB LG ax w0 S0 (fun _=>none) w S ow)(g:Wf w S ow)(ob:ur w ow 0 b 59 ((R0 x eM).cells false))(hx:bV w S x (.list (BL v)))(k:Kn 97 a [(5,bM b),(1,.int i64 v),(0,.int i64 ((v+l:Nat):Int))]):
  aa9.wp Try.prog (nk w0 S0 v l) a w:=by
 have hQ:QP (nk w0 S0 v l):=jw;unfold aa9;refine wp_seq (wp_seq (rg ax hQ af4 ?_));intro w1 e1;have s0:=SX.refl ax w1
 repeat refine sm k fun a k=>?_
 refine iK (s:=((v+1:Nat):Int)) k (by assumption) rfl (by decide) rfl rfl (wrap64 (by omega) (by omega)) fun a k=>?_
 repeat refine sm k fun a k=>?_
 refine av ?_
 refine wp_block (wp_loop_ghost (fun mm a W=>∃(i:Nat) (e:Ow) (y:Tao),mm=l-i/\i<=l/\Kn 97 a [(7,.int i64 ((v+i+1:Nat):Int)),(5,bM b),(0,.int i64 ((v+l:Nat):Int))]/\bB LG ax w0 S0 (fun _=>none) W S e/\Wf W S e/\
  ur W e 0 b 59 ((R0 x y).cells false)/\bV W S x (.list (BL v))/\dA W S e 20 3 I6 y (I4 v i)) (l-0)
  ⟨0,ow,eM,rfl,aB _,k.sb,st.eN q g e1,g.W e1,ob.O (bB.W e1 ax ax S ow) (fun h=>h),hx.O (bB.W e1 ax ax S ow),dA.nil (by decide) (by omega)⟩ ?_)
 clear k s0 st g ob hx e1 w1;rintro mm a W ⟨i,e,y,rfl,hin,k,GX,Y4,ob1,hx1,Vp⟩;refine wp_seq (wp_seq (rg ax hQ af3 ?_));intro w2 e2;have m:=Y4.W e2;have G:=GX.eN q Y4 e2;have I:=ob1.O (bB.W e2 ax ax S e) (fun h=>h);have K:=hx1.O (bB.W e2 ax ax S e);have V:=Vp.O Y4 (bB.W e2 ax ax S e) (fun h=>h);have s0:=SX.refl ax w2
 repeat refine sm k fun a k=>?_
 refine cm (c:=decide (((v+i+1:Nat):Int)<=((v+l:Nat):Int))) k rfl rfl rfl fun a k=>?_;refine av (bw k rfl ?_);have k:=k.sb (l:=[(7,.int i64 ((v+i+1:Nat):Int)),(5,bM b),(0,.int i64 ((v+l:Nat):Int))]);by_cases X:((v+i+1:Nat):Int)<=((v+l:Nat):Int)
 .rw[if_pos (by simpa using X)];refine wp_skip ?_;refine wp_seq (wp_block (rg (fun E=>e E=some 20) hQ af1 ?_));intro F e3;have C:=m.W e3;have a1:=G.eN q m e3;have p:=I.O (bB.W e3 ax ax S e) (fun h=>h);have a8:=K.O (bB.W e3 ax ax S e);have b3:=V.O m (bB.W e3 ax ax S e) (fun h=>h);have s0:=SX.refl (fun E=>e E=some 20) F;have a6:¬e b=some 20:=by rw[p.ow];decide
  have D:∀w',SX (fun E=>e E=some 20) F w'->w'.cell? ⟨b,0+1,none⟩=some y:=eP p.lt a6 (iq (j:=1) p.heap rfl)
  repeat (first|refine sm k fun a k=>?_|refine ld k (D) fun a k=>?_)
  refine lX (kk:=1) (T:=3) k (by decide) rfl (by decide) rfl (by kernel_rfl) rfl (fun _=>SX.alloc _ _ _) fun a k=>?_;obtain⟨r,L⟩:=bB.alloc C (.cells (Value.int i64 ((v+i+1:Nat):Int)).cells 3);have b2:=b3.O C r (fun h=>h);have a4:=p.O r id;have a7:=a8.O r;have b5:kL i64 ((v+i+1:Nat):Int):=⟨by have:i64.min=-9223372036854775808:=rfl;omega,by have:i64.max=9223372036854775807:=rfl;omega⟩;refine tO k (by decide) rfl (by decide) fun ty b6 af=>?_
  obtain⟨v',w',O,f,o,B,U⟩:=b2.Fa (P:=Try.prog) (tt:=29) (by kernel_rfl) rfl L ty F.heap.size (d:=.int i64 ((v+i+1:Nat):Int)) ⟨_,rfl,b5⟩ (us:=[.int i64 ((v+i+1:Nat):Int)]) rfl (heap_alloc_new F _) (by
   intro j u c N Y
   match j,N,Y with
   |0,N,Y=>injection N with N;injection Y with Y;subst N Y;exact .int _ _) (nh (by rw[JW];omega))
  have s1:SX (fun E=>e E=some 20) F w':=(SX.alloc _ _ _).trans (SX.iu (fun _ h=>h) o);refine⟨v',w',jj (k.op rfl) (k.op rfl) O,fun _=>s1,fun a k=>?_⟩;have H:=a4.O o cw;have J:=a7.O o;obtain⟨Av,cv,M⟩:=U.slice
  repeat refine sm k fun a k=>?_
  refine jV (cur:=(R0 x y).cells false) k (by decide) rfl (by kernel_rfl) rfl rfl (by rw[M];rfl) H.heap (by show 1<11;omega) (by rw[M];rfl) (fun h=>absurd rfl h) fun a k=>?_;refine av ?_;obtain⟨z,A,a3⟩:=H.set B (us:=((R0 x y).cells false).set (0+0+1) v');have b1:=U.O B z cw;have a5:=J.O z;have a0:=((a1.eC q C r nE).fF q L o (.inl (by decide))).fF q B z (.inl (by decide));have k:=k.sb (l:=[(7,.int i64 ((v+i+1:Nat):Int)),(5,bM b),(0,.int i64 ((v+l:Nat):Int))]);refine rg ax hQ af2 ?_;intro w4 Z;have s0:=SX.refl ax w4
  repeat refine sm k fun a k=>?_
  refine iK (s:=((v+(i+1)+1:Nat):Int)) k (by assumption) rfl (by decide) rfl rfl (wrap64 (by omega) (by omega)) fun a k=>?_
  repeat refine sm k fun a k=>?_
  refine av ⟨l-(i+1),by omega,i+1,f,v',rfl,by omega,k.sb,a0.eN q A Z,A.W Z,a3.O (bB.W Z ax ax S f) (fun h=>h),a5.O (bB.W Z ax ax S f),?_⟩;rw[Pw];exact b1.O A (bB.W Z ax ax S f) (fun h=>h)
 rw[if_neg (by simpa using X)];refine wp_exit ?_;have b4:i=l:=by omega
 subst b4;obtain⟨S',f,t,g,b0,_⟩:=V.freeze m;have a2:=I.O t cw;exact LS rfl a9 h5 q (G.fF q m t (.inl (by decide))) (GM.begin g a2 (K.O t) b0) rfl rfl (k.sb)
end
def yF{w:Tan}{S:bG}{n l:Nat}(x:Wf w S (fun _=>none))(h1:1<=n)(h5:n+l<=5):Calls Try.prog 9 [.int i64 ((n+l:Nat):Int),.int i64 n].toArray w fun e w'=>∃b S' p,e=.returned (bM b)/\bB LG ax w S (fun _=>none) w' S' p/\iA w' S' p b (gB n l (n+l)):=by
 refine lh Try.func9 SP adW nt9 (by show 2<=97;omega) ?_;intro a k;have U:QP (nk w S n l):=jw;show Code.wp Try.prog _ (nk w S n l) a w;refine wp_seq (rg ax U aga ?_);intro w1 e1;have H:=SX.refl ax w1
 repeat refine sm k fun a k=>?_
 refine av ?_;have r:=x.W e1;have Z:bB LG ax w S (fun _=>none) w1 S (fun _=>none):=bB.W e1 LG ax S _;refine wp_seq (rg ax U af9 ?_);intro E D;have m:=r.W D;have G:=Z.eN x r D;have H:=SX.refl ax E;refine gU (ps:=[]) (vs:=(R0 eM eM).cells false) k (by assumption) rfl (by decide) rfl (by kernel_rfl) fun a k=>?_;refine uv (us:=(R0 eM eM).cells false) k (by decide) rfl (by decide) rfl rfl (fun _=>SX.alloc _ _ _) fun a k=>?_;have s1:=SX.alloc ax E (.cells ((R0 eM eM).cells false).toArray 59)
 repeat refine sm k fun a k=>?_
 refine av ?_;obtain⟨y,q⟩:=bB.alloc m (.cells ((R0 eM eM).cells false).toArray 59);have t:=fU.new m 59 ((R0 eM eM).cells false);have g:=G.eC x m y nE;have c2:w.heap.size<=E.heap.size:=G.size;generalize c4:E.heap.size=b at k t c2;generalize E.alloc _=A at t y q g⊢
 have C:Wf A S (fun k=>if k=b then some 0 else none):=by
  refine⟨q.s,?_,?_⟩
  .intro k l z;split at z
   .rename_i e;rw[e];exact t.lt
   cases z
  intro k o l hs z;split at z
  .rename_i e;rw[e]at hs;exact absurd hs (t.s o)
  cases z
 have rb:bB LG ax w S (fun _=>none) A S (fun k=>if k=b then some 0 else none):=by
  refine⟨g.size,g.os,g.tape,g.output,fun _ _ _ h _=>?_,g.free,g.jx,g.cell,fun _ _ h=>?_,g.new,fun k hk _=>if_neg (by omega),?_⟩
  .cases h
  .cases h
  intro k l z;split at z
  .injection z with z;subst z;exact .inr (.inl (by omega))
  cases z
 have J:ur A (fun k=>if k=b then some 0 else none) 0 b 59 ((R0 eM eM).cells false):=⟨t.heap,if_pos rfl,by omega⟩;generalize (fun k=>if k=b then some 0 else none:Ow)=I at C rb J;have k:=k.sb (l:=[(5,bM b),(1,.int i64 n),(0,.int i64 ((n+l:Nat):Int))]);clear y q t g s1 H G m D Z r e1;refine wp_seq (wp_seq (rg ax U af8 ?_));intro w5 e5;have H:=SX.refl ax w5
 repeat refine sm k fun a k=>?_
 refine av ?_;have Y:=rb.eN x C e5;have a2:=J.O (bB.W e5 ax ax S I) (fun h=>h)
 refine wp_block (wp_loop_ghost (fun mm a W=>∃(i:Nat) (f:Ow) (v:Tao),mm=n-i/\i<=n/\Kn 97 a [(6,.int i64 ((i+1:Nat):Int)),(5,bM b),(1,.int i64 n),(0,.int i64 ((n+l:Nat):Int))]/\bB LG ax w S (fun _=>none) W S f/\Wf W S f/\
  ur W f 0 b 59 ((R0 v eM).cells false)/\dA W S f 20 3 I6 v (BL i)) (n-0)
  ⟨0,I,eM,rfl,aB _,k.sb,Y,C.W e5,a2,dA.nil (by decide) (by omega)⟩ ?_)
 clear k Y a2 H e5 w5 J rb C I;rintro mm a W ⟨i,f,v,rfl,hin,k,GX,r,ob1,Vp⟩;refine wp_seq (wp_seq (rg ax U af7 ?_));intro E D;have m:=r.W D;have a0:=GX.eN x r D;have a3:=ob1.O (bB.W D ax ax S f) (fun h=>h);have a8:=Vp.O r (bB.W D ax ax S f) (fun h=>h);have H:=SX.refl ax E
 repeat refine sm k fun a k=>?_
 refine cm (c:=decide (((i+1:Nat):Int)<=(n:Int))) k rfl rfl rfl fun a k=>?_;refine av (bw k rfl ?_);have k:=k.sb (l:=[(6,.int i64 ((i+1:Nat):Int)),(5,bM b),(1,.int i64 n),(0,.int i64 ((n+l:Nat):Int))]);by_cases a9:((i+1:Nat):Int)<=(n:Int)
 .rw[if_pos (by simpa using a9)];refine wp_skip ?_;refine wp_seq (wp_block (rg (fun O=>f O=some 20) U af5 ?_));intro A e3;have q:=m.W e3;have y:=a0.eN x m e3;have B:=a3.O (bB.W e3 ax ax S f) (fun h=>h);have b9:=a8.O m (bB.W e3 ax ax S f) (fun h=>h);have H:=SX.refl (fun O=>f O=some 20) A;have b4:¬f b=some 20:=by rw[B.ow];decide
  have N:∀w',SX (fun O=>f O=some 20) A w'->w'.cell? ⟨b,0,none⟩=some v:=eP B.lt b4 (iq (j:=0) B.heap rfl)
  repeat (first|refine sm k fun a k=>?_|refine ld k (N) fun a k=>?_)
  refine lX (kk:=1) (T:=3) k (by decide) rfl (by decide) rfl (by kernel_rfl) rfl (fun _=>SX.alloc _ _ _) fun a k=>?_;obtain⟨M,a4⟩:=bB.alloc q (.cells (Value.int i64 ((i+1:Nat):Int)).cells 3);have b8:=b9.O q M (fun h=>h);have b3:=B.O M id;have c1:kL i64 ((i+1:Nat):Int):=⟨by have:i64.min=-9223372036854775808:=rfl;omega,by have:i64.max=9223372036854775807:=rfl;omega⟩;refine tO k (by decide) rfl (by decide) fun ty c3 af=>?_
  obtain⟨v',w',a6,p,F,L,a7⟩:=b8.Fa (P:=Try.prog) (tt:=29) (by kernel_rfl) rfl a4 ty A.heap.size (d:=.int i64 ((i+1:Nat):Int)) ⟨_,rfl,c1⟩ (us:=[.int i64 ((i+1:Nat):Int)]) rfl (heap_alloc_new A _) (by
   intro j u c hu hc
   match j,hu,hc with
   |0,hu,hc=>injection hu with hu;injection hc with hc;subst hu hc;exact .int _ _) (nh (by rw[JY];omega))
  have s1:SX (fun O=>f O=some 20) A w':=(SX.alloc _ _ _).trans (SX.iu (fun _ h=>h) F);refine⟨v',w',jj (k.op rfl) (k.op rfl) a6,fun _=>s1,fun a k=>?_⟩;have a1:=b3.O F cw;obtain⟨Av,cv,a5⟩:=a7.slice
  repeat refine sm k fun a k=>?_
  refine jV (cur:=(R0 v eM).cells false) k (by decide) rfl (by kernel_rfl) rfl rfl (by rw[a5];rfl) a1.heap (by show 0<11;omega) (by rw[a5];rfl) (fun h=>absurd rfl h) fun a k=>?_;refine av ?_;obtain⟨X,K,b2⟩:=a1.set L (us:=((R0 v eM).cells false).set (0+0+0) v');have b7:=a7.O L X cw;have b0:=((y.eC x q M nE).fF x a4 F (.inl (by decide))).fF x L X (.inl (by decide));have k:=k.sb (l:=[(6,.int i64 ((i+1:Nat):Int)),(5,bM b),(1,.int i64 n),(0,.int i64 ((n+l:Nat):Int))]);refine rg ax U af6 ?_;intro w4 e4;have H:=SX.refl ax w4
  repeat refine sm k fun a k=>?_
  refine iK (s:=((i+1+1:Nat):Int)) k (by assumption) rfl (by decide) rfl rfl (wrap64 (by omega) (by omega)) fun a k=>?_
  repeat refine sm k fun a k=>?_
  refine av ⟨n-(i+1),by omega,i+1,p,v',rfl,by omega,k.sb,b0.eN x K e4,K.W e4,b2.O (bB.W e4 ax ax S p) (fun h=>h),?_⟩;rw[PM];exact b7.O K (bB.W e4 ax ax S p) (fun h=>h)
 rw[if_neg (by simpa using a9)];refine wp_exit ?_;have c0:i=n:=by omega
 subst c0;obtain⟨S',p,V,b5,b6,_⟩:=a8.freeze m;have b1:=a3.O V cw;exact LV h1 h5 x (a0.fF x m V (.inl (by decide))) b5 b1 b6 (k.sb)
def Su(s:RS)(k:Nat):Bool:=gn s.li s.lt s.le&&decide (1<=s.id)&&decide (s.id<=5)&&decide (s.le.length+k<=1073741824)&&decide (s.msgs.length+k<=4294967296)&&decide (s.dB.length+k<=4294967296)&&decide (s.aW.length+k*1073741824<=274877906944)&&
 decide (s.aT.length+k<=4294967296)&&gp (.agg [.list s.fv,.list s.fl])&&(decide (s.li<=0)||gp (.agg [.list s.sv,.list s.sl]))&&eF s.le&&decide (0<=s.term)&&decide (s.term<=MX)&&s.reads.isEmpty
def DJ{s:RS}{k:Nat}(h:Su s k=true):Ok s k:=by simp only[Su,aP,bg,bI,List.isEmpty_iff]at h;obtain⟨⟨⟨⟨⟨⟨⟨⟨⟨⟨⟨⟨⟨u,t⟩,r⟩,q⟩,p⟩,o⟩,n⟩,m⟩,l⟩,j⟩,f⟩,e⟩,d⟩,c⟩:=h;exact⟨u,t,r,q,p,o,by unfold G;exact n,m,l,fun v=>j.resolve_left (by omega),f,e,d,c⟩
def ON{s:RS}{k:Nat}(h:Ok s k):Su s k=true:=by
 simp only[Su,aP,bg,bI,List.isEmpty_iff];refine⟨⟨⟨⟨⟨⟨⟨⟨⟨⟨⟨⟨⟨h.may,h.yM⟩,h.yL⟩,h.tM⟩,h.nm⟩,h.ne⟩,?_⟩,h.nv⟩,h.cf⟩,?_⟩,h.cl⟩,h.tm⟩,h.tx⟩,h.rd⟩
 .have:=h.nc;unfold G at this;exact this
 by_cases c:0<s.li
 .exact .inr (h.cs c)
 exact .inl (by omega)
def YX(g:GS):Bool:=decide (g.eT.length<=5)&&decide (g.cu.length=g.eT.length)&&decide (g.aT.length=g.eT.length)&&decide (g.saved.length=g.eT.length)&&decide (g.br.length<=2000000)&&g.aT.all fun l=>decide (l.length<=2000000)
def Xq{g:GS}(h:YX g=true):wZ g:=by simp only[YX,aP,bg,bU]at h;obtain⟨⟨⟨⟨⟨k,j⟩,f⟩,e⟩,d⟩,c⟩:=h;exact⟨k,j,f,e,d,c⟩
def Xr{g:GS}(h:wZ g):YX g=true:=by simp only[YX,aP,bg,bU];exact⟨⟨⟨⟨⟨h.n5,h.cu⟩,h.aT⟩,h.saved⟩,h.lead⟩,h.vl⟩
def Ss(i:Nat)(o:D)(g:GS):Bool:=YX g&&decide (i<g.eT.length)&&Su (bS g i) 0&&decide ((cD 7 (g.saved.getD i .top)).V.length+(cD 3 o).V.length<=300000000000)&&decide ((cD 5 o).V.length<=5000000000)&&
 ((cD 6 o).V.all fun x=>decide (0<=(cD 0 x).J)&&decide ((cD 0 x).J<=300000000000))&&decide (g.told.length<=300000000001)
section
variable{w:Tan}{S:bG}{ow:Ow}{b i:Nat}{g:GS}{Q:O3}{a:Act}
def vB{vo:Tao}{o:D}{lost:Bool}(h:iA w S ow b g)(f:mF ow)(e:bV w S vo o)(d:Has BP o)(c:Ss i o g=true):
  Calls Try.prog 14 [bM b,.int i64 i,vo,.bool lost].toArray w (qR w S ow b (kz i o lost g)):=by simp only[Ss,aP,bg,bU]at c;obtain⟨⟨⟨⟨⟨⟨q,p⟩,n⟩,m⟩,l⟩,k⟩,j⟩:=c;exact H9 h f (Xq q) p (DJ n) e d m l k j
def ic(i:Nat)(s:RS)(g:GS):GS:={g with eT:=g.eT.set i s}
def jQ(i:Nat)(x:Int)(g:GS):GS:=kz i (gX x (bS g i)).1 false (ic i (gX x (bS g i)).2 g)
def Ht(i:Nat)(x:Int)(g:GS):Bool:=decide (i<g.eT.length)&&decide (g.aT.length<=5)&&Su (bS g i) 20&&Ss i (gX x (bS g i)).1 (ic i (gX x (bS g i)).2 g)
def wN(m:D):Nat:=((cD 2 m).J-1).toNat
def Kk(m:D)(g:GS):Bool:=decide (1<=(cD 2 m).J)&&decide ((cD 2 m).J<=g.eT.length)
def pe(m:D)(g:GS):GS:=if Kk m g then kz (wN m) (iX m (bS g (wN m))).1 false (ic (wN m) (iX m (bS g (wN m))).2 g) else g
def Ck(m:D)(g:GS):Bool:= !Kk m g||(decide (g.aT.length<=5)&&decide (g.eT.length<=5)&&Su (bS g (wN m)) (20+(cD 12 m).V.length)&&decide ((cD 12 m).V.length<=2147483648)&&Ss (wN m) (iX m (bS g (wN m))).1 (ic (wN m) (iX m (bS g (wN m))).2 g))
def BS(g:GS):GS:=g.eI.foldl (fun g m=>pe m g) {g with eI:=[]}
def rv:Tah->GS->Bool
 |[],_=>true
 |m::r,g=>Ck m g&&rv r (pe m g)
def ka(c:i<g.eT.length):g.eT[i]?=some (bS g i):=by unfold bS;rw[ag,aR c];rfl
def IC{j:Int}(X:QP Q)(h:iA w S ow b g)(V:mF ow)(p:Ht 0 0 g=true)(k:Kn 54 a [(2,.int i64 j),(1,bM b)])(d:∀a W P m,Kn 54 a [(2,.int i64 j),(1,bM b)]->bB LG ax w S ow W P m->iA W P m b (jQ 0 0 g)->Q .normal a W):(Code.region 5 NZ false).wp Try.prog Q a w:=by
 obtain⟨R,r,f,A⟩:=h;simp only[Ht,aP,bg]at p;obtain⟨⟨⟨F,B⟩,o⟩,n⟩:=p;refine rg (fun M=>ow M=some 1000) X acH ?_;intro T O;have c:=r.W O;have x:=(bB.refl LG ax w S ow).eN r.wf r.wf O;have s0:=SX.refl (fun M=>ow M=some 1000) T;have z:¬ow b=some 1000:=by rw[c.obj.ow];decide
 obtain⟨L,q,D,U⟩:=c.eT 0 _ (ka F);obtain⟨Z,Y,J,H,C,G⟩:=c.arr.elem (i:=0) (u:=bM L) (by rw[f,ab,q];rfl);have I:(R.la.map bM).length=g.eT.length:=by rw[aj,f];exact c.qV
 have y:¬ow Z=some 1000:=by rw[C];decide
 repeat (first|refine sm k fun a k=>?_|refine ld k (c.cell z rfl) fun a k=>?_)
 rw[J]at k;refine DC (el:=52) (sz:=1) (s:=0) k (by assumption) rfl (by decide) rfl rfl (by kernel_rfl) (by kernel_rfl) (by rw[I];exact F) fun a k=>?_;refine kx (v:=bM L) k (by assumption) rfl (by decide) rfl (by kernel_rfl) (by kernel_rfl) (eP H y (by rw[bL];exact G)) fun a k=>?_;refine iB (vs:=[bM L,.int i64 0]) k (by decide) rfl (by decide) c15.enter rfl (CE D c.wf (by omega) (by decide) (DJ o)) ?_;rintro e w2 ⟨v,S2,Ce,rfl,pZ,wJ,Mt,hr2,Y6⟩;refine⟨_,rfl,fun _=>SX.iu (fun _ h=>h) pZ,fun a k=>?_⟩;have K:=c.Aa (i:=0) pZ wJ F q Mt (gE Mt) B;have t:=x.fF r.wf c.wf pZ (.inr (by omega));have E:mF Ce:=V.O pZ (fun l N=>by simp only[iF]at N;subst N;exact .inr (by omega));refine iB (vs:=[bM b,.int i64 ((0:Nat):Int),v,.bool false]) k (by decide) rfl (by decide) vH rfl (vB (g:=ic 0 (gX 0 (bS g 0)).2 g) ⟨_,K,f,A⟩ E hr2 Y6 n) ?_;rintro e w4 ⟨S4,L9,rfl,qb,Za⟩;refine⟨_,rfl,fun h=>absurd rfl h,fun a k=>?_⟩;exact av (d _ _ S4 L9 (k.sb) (jl r.wf wJ t qb nE) Za)
end
end Go.Proofs.Ytjhmkaninmgilaa
namespace Go.Proofs.Ytjhmkaninmgilaa
open Go Go.RowKit Go.dG Go.Proofs
variable{E:Tah}{ks:Tai}{n i:Nat}{s t u:RS}{g:GS}
def TO(E:Tah)(a:Tah):Prop:=∀(j:Nat) y,a[j]?=some y->(cD 0 y).J=0\/(1<=j/\E[j-1]?=some y)
def VT(l:Tah)(s:RS):Prop:=∀T:Nat,iU l T=0\/((T:Int)=s.term/\iU l T=s.vote)
structure GB(E:Tah)(g:GS):Prop where
 n5:g.eT.length=5
 nv:g.aT.length=5
 nt:g.cu.length=5
 told:TO E g.told
 bad:g.bad=false
 tms:∀i,i<5->iU g.cu i<=(bS g i).term
 vts:∀i,i<5->VT (g.aT.getD i []) (bS g i)
 YY:∀T,iU g.br T=0\/(T=1/\iU g.br T=1)
def qA(l:Tah)(n:Int)(T:Nat):iU (dV l n) T=iU l T:=by
 unfold iU dV;rw[ag,ag];rcases eK T l.length with h|h
 .rw[ak h]
 rw[ay h,List.getElem?_replicate,cM h];split<;>rfl
def AU(l:Tah)(n T:Nat)(x:Int):iU (l.set n (.int i64 x)) T=if T=n/\n<l.length then x else iU l T:=by
 unfold iU;rw[ag,ag,bF];by_cases h:n=T
 .subst h;rw[if_pos rfl];by_cases b:n<l.length
  .rw[if_pos b,if_pos ⟨rfl,b⟩];rfl
  rw[if_neg b,if_neg (fun a=>b a.2),cM (by omega)]
 rw[if_neg h,if_neg (fun a=>h a.1.symm)]
def TO.SM(e:EL E ks):∀(cs:Tah) (g:GS),(∀x∈cs,x∈E)->TO E g.told->g.bad=false->TO E (fH cs g).told/\(fH cs g).bad=false
 |[],g,_,h,hb=>⟨h,hb⟩
 |x::r,g,hc,h,hb=>by
  obtain⟨k,m⟩:=au (hc x aZ);obtain⟨c,_,p⟩:=e.get m;have v:(cD 0 x).J=(k:Int)+1:=p.ix
  have o:∀(j:Nat) y,(jA g.told (cD 0 x).J)[j]?=some y->(cD 0 y).J=0\/(1<=j/\E[j-1]?=some y):=by
   intro j y b;unfold jA at b;rcases eK j g.told.length with l|l
   .rw[ak l]at b;exact h j y b
   rw[ay l,List.getElem?_replicate]at b;split at b
   .injection b with b;subst b;exact .inl rfl
   cases b
  refine TO.SM e r (qS x g) (fun y d=>hc y (ao _ d)) ?_ ?_
  .intro j y b;have a:((jA g.told (cD 0 x).J).set (cD 0 x).J.toNat x)[j]?=some y:=b;rw[bF]at a;split at a
   .rename_i w;split at a
    .injection a with a;subst a;refine .inr ⟨by omega,?_⟩;rw[show j-1=k by omega];exact m
    cases a
   exact o j y a
  show(g.bad||_)=false;rw[hb,Bool.false_or,bY];rcases d:(jA g.told (cD 0 x).J)[(cD 0 x).J.toNat]? with _|y
  .left;rw[ag,d];rfl
  rw[ag,d,bq];rcases o _ _ d with q|⟨z,f⟩
  .left;rw[q];rfl
  right;rw[show(cD 0 x).J.toNat-1=k by omega,m]at f;injection f with f;subst f;rw[Bool.or_eq_false_iff];refine⟨by simp,?_⟩;unfold KB;simp
def Bg:∀(cs:Tah) (g:GS),(fH cs g).eI=g.eI/\(fH cs g).saved=g.saved/\(fH cs g).fv=g.fv/\(fH cs g).fl=g.fl
 |[],g=>⟨rfl,rfl,rfl,rfl⟩
 |x::r,g=>Bg r (qS x g)
def GB.Ky(h:GB E g)(J:EL E ks)(H:i<5)(z:g.eI.length<400)(hc:∀x∈u.aW,x∈E)(h0:0<=u.term)(ht:(bS g i).term<=u.term)(a8:u.term<=5000)(S:(u.term=(bS g i).term/\u.vote=(bS g i).vote)\/(bS g i).vote=0)(hr:u.role=2->i=0/\u.term=1):
  GB E (kz i (bk u).1 false (ic i (bk u).2 g))/\bS (kz i (bk u).1 false (ic i (bk u).2 g)) i=(bk u).2/\
   (∀j,j≠i->bS (kz i (bk u).1 false (ic i (bk u).2 g)) j=bS g j)/\(kz i (bk u).1 false (ic i (bk u).2 g)).eI=g.eI++u.msgs:=by
 have w:∀j,bS (ic i (bk u).2 g) j=if j=i then(bk u).2 else bS g j:=by
  intro j;unfold bS;show(g.eT.set i _).getD j dK=_;rw[ag,bF];by_cases f:i=j
  .subst f;rw[if_pos rfl,if_pos rfl,if_pos (by rw[h.n5];exact H)];rfl
  rw[if_neg f,if_neg (fun e=>f e.symm),ag]
 have N:∃m:GS,(if(cD 0 (bk u).1).Z then nD i (bk u).1 (ic i (bk u).2 g) else ic i (bk u).2 g)=m/\m.eT=g.eT.set i (bk u).2/\m.aT=g.aT/\m.cu=g.cu/\m.br=g.br/\m.told=g.told/\m.bad=g.bad/\m.eI=g.eI:=by
  split
  .exact⟨_,rfl,rfl,rfl,rfl,rfl,rfl,rfl,rfl⟩
  exact⟨_,rfl,rfl,rfl,rfl,rfl,rfl,rfl,rfl⟩
 obtain⟨m,N,a1,a2,a3,a4,a5,a6,Z⟩:=N
 have M:∃b:GS,qh (bk u).1 false m=b/\b.eT=g.eT.set i (bk u).2/\b.aT=g.aT/\b.cu=g.cu/\b.br=g.br/\b.told=g.told/\b.bad=g.bad/\b.eI=g.eI++u.msgs:=by refine⟨_,rfl,?_⟩;unfold qh;rw[if_pos ⟨by rw[Z];exact z,rfl⟩];exact⟨a1,a2,a3,a4,a5,a6,by show m.eI++u.msgs=_;rw[Z]⟩
 obtain⟨b,M,b1,b2,b3,b4,b5,b6,b7⟩:=M;have G:=TO.SM J u.aW b hc (by rw[b5];exact h.told) (by rw[b6];exact h.bad);obtain⟨Y,X⟩:=G;have C:=tJ u.aW b;obtain⟨d1,d2,d3,d4⟩:=Bg u.aW b
 have e3:kz i (bk u).1 false (ic i (bk u).2 g)=lz i (fH u.aW b):=by unfold kz;rw[N,M];rfl
 rw[e3];have L:(fH u.aW b).eT=g.eT.set i (bk u).2:=C.eT.trans b1;have W:(fH u.aW b).aT=g.aT:=C.aT.trans b2;have V:(fH u.aW b).cu=g.cu:=C.cu.trans b3;have D:(fH u.aW b).br=g.br:=C.br.trans b4;have U:(fH u.aW b).eI=g.eI++u.msgs:=d1.trans b7;generalize fH u.aW b=d at Y X L W V D U
 have y:∀j,bS d j=if j=i then(bk u).2 else bS g j:=by intro j;rw[<-w j];unfold bS;rw[L];rfl
 have hx:bS d i=(bk u).2:=by rw[y,if_pos rfl]
 have a0:=h.tms i H;have v:=h.vts i H
 have F:∃k:GS,lz i d=k/\k.eT=d.eT/\k.eI=d.eI/\k.told=d.told/\k.bad=false/\k.cu=g.cu.set i (.int i64 u.term)/\(∃l,k.aT=g.aT.set i l/\VT l (bk u).2)/\∀T,iU k.br T=0\/(T=1/\iU k.br T=1):=by
  unfold lz;dsimp only
  rw[hx,V,if_neg (show¬((bk u).2.term<iU g.cu i\/5000<(bk u).2.term) from by show¬(u.term<_\/5000<u.term);omega)]
  have q:VT ((dV (g.aT.getD i []) u.term).set u.term.toNat (.int i64 u.vote)) (bk u).2:=by
   intro T;rw[AU,qA];by_cases B:T=u.term.toNat/\u.term.toNat<(dV (g.aT.getD i []) u.term).length
   .rw[if_pos B];exact .inr ⟨by show(T:Int)=u.term;omega,rfl⟩
   rw[if_neg B];rcases v T with p|⟨p,A⟩
   .exact .inl p
   rcases S with⟨v1,v2⟩|v1
   .exact .inr ⟨by show(T:Int)=u.term;omega,by show _=u.vote;rw[v2];exact A⟩
   exact .inl (A.trans v1)
  have K:(iU (dV (g.aT.getD i []) u.term) u.term.toNat !=0&&u.vote !=iU (dV (g.aT.getD i []) u.term) u.term.toNat)=false:=by
   rw[qA];rcases v u.term.toNat with p|⟨p,A⟩
   .rw[p];rfl
   rcases S with⟨v1,v2⟩|v1
   .rw[A,v2];simp
   rw[A,v1];rfl
  have I:pw i (bk u).2 {d with cu:=g.cu.set i (.int i64 (bk u).2.term)}={d with cu:=g.cu.set i (.int i64 u.term),aT:=g.aT.set i ((dV (g.aT.getD i []) u.term).set u.term.toNat (.int i64 u.vote)),bad:=false}:=by
   unfold pw;dsimp only;rw[W]
   have:(d.bad||(iU (dV (g.aT.getD i []) (bk u).2.term) (bk u).2.term.toNat !=0&&(bk u).2.vote !=iU (dV (g.aT.getD i []) (bk u).2.term) (bk u).2.term.toNat))=false:=by rw[X,Bool.false_or];exact K
   rw[this];rfl
  rw[I];by_cases r:(bk u).2.role=2
  .rw[if_pos r];obtain⟨O,r2⟩:=hr r;refine⟨_,rfl,rfl,rfl,rfl,?_,rfl,⟨_,rfl,q⟩,?_⟩
   .show(false||(iU (dV d.br (bk u).2.term) (bk u).2.term.toNat !=0&&iU (dV d.br (bk u).2.term) (bk u).2.term.toNat !=((i:Int)+1)))=false;rw[Bool.false_or,qA,D];rcases h.YY (bk u).2.term.toNat with p|⟨_,p⟩
    .rw[p];rfl
    rw[p,O];rfl
   intro T;have e:(bk u).2.term=1:=r2;show iU ((dV d.br (bk u).2.term).set (bk u).2.term.toNat (.int i64 ((i:Int)+1))) T=0\/(T=1/\iU ((dV d.br (bk u).2.term).set (bk u).2.term.toNat (.int i64 ((i:Int)+1))) T=1);rw[e,O,AU,qA,D];split
   .rename_i B;exact .inr ⟨by have:=B.1;omega,rfl⟩
   exact h.YY T
  rw[if_neg r];exact⟨_,rfl,rfl,rfl,rfl,rfl,rfl,⟨_,rfl,q⟩,by show∀T,iU d.br T=0\/_;rw[D];exact h.YY⟩
 obtain⟨k,k0,R,k2,k3,k4,Q,⟨l,P,k7⟩,k8⟩:=F;rw[k0]
 have o:∀j,bS k j=if j=i then(bk u).2 else bS g j:=by intro j;rw[<-y j];unfold bS;rw[R]
 refine⟨⟨by rw[R,L,aK];exact h.n5,by rw[P,aK];exact h.nv,by rw[Q,aK];exact h.nt,by rw[k3];exact Y,k4,fun j f=>?_,fun j f=>?_,k8⟩,by rw[o,if_pos rfl],fun j f=>by rw[o,if_neg f],by rw[k2,U]⟩
 .rw[Q,AU,o];by_cases c:j=i
  .subst c;rw[if_pos ⟨rfl,by rw[h.nt];exact f⟩,if_pos rfl];exact aJ _
  rw[if_neg (fun a=>c a.1),if_neg c];exact h.tms j f
 rw[P,o,ag,bF];by_cases c:j=i
 .subst c;rw[if_pos rfl,if_pos (by rw[h.nv];exact f),if_pos rfl];exact k7
 rw[if_neg (fun e=>c e.symm),if_neg c,<-ag];exact h.vts j f
def TO.mono{E':Tah}{told:Tah}(h:TO E told):TO (E++E') told:=by
 intro j y c;rcases h j y c with a|⟨a,b⟩
 .exact .inl a
 exact .inr ⟨a,by rw[ak (aD.1 b).1];exact b⟩
def GB.mono{E':Tah}(h:GB E g):GB (E++E') g:=⟨h.n5,h.nv,h.nt,h.told.mono,h.bad,h.tms,h.vts,h.YY⟩
variable{C M K n i:Nat}{N:Int}{s t:RS}{g:GS}
def u9(s:RS):D:=.agg [.int i64 s.term,.int i64 s.vote,.int i64 s.li,.int i64 s.lt,.list s.sv,.list s.sl,.list s.iI,.list s.le]
def cP.base{j:Nat}(h:cP C M s K)(a:Idle s)(b:j<=K):cP (G j) j s j:=
 ⟨h.may,h.yM,h.yL,by have:=h.tM;omega,by rw[a.msgs];simp,by have:=h.ne;omega,by rw[a.mI];simp,by have:=h.nv;omega,h.cf,h.cs,h.cl,h.tm,h.tx,h.rd⟩
def cP.ok{j:Nat}(h:cP C M s K)(a:Idle s)(c:j<=K)(b:j<=256):Ok s j:=
 ⟨h.may,h.yM,h.yL,by have:=h.tM;omega,by rw[a.msgs];simp;omega,by have:=h.ne;omega,by
  rw[a.mI];have:=abb b;have e:G 256=274877906944:=by unfold G;rfl
  simp only[fC];omega,by have:=h.nv;omega,h.cf,h.cs,h.cl,h.tm,h.tx,h.rd⟩
structure GI(n K:Nat)(N:Int)(g:GS):Prop where
 len:wZ g
 n1:g.eT.length=n
 eT:∀(i:Nat) s,g.eT[i]?=some s->Idle s/\cP (G K) K s K/\Bs N s/\g.saved[i]?=some (u9 s)
 eI:∀m∈g.eI,mj N m
 nl:g.eI.length<=430
 told:(g.told.length:Int)<=N+1
 nn:0<=N
def GI.get(h:GI n K N g)(a:i<n):Idle (bS g i)/\cP (G K) K (bS g i) K/\Bs N (bS g i)/\g.saved[i]?=some (u9 (bS g i)):=h.eT i _ (ka (by rw[h.n1];exact a))
def GI.le{K':Nat}{N':Int}(h:GI n K N g)(j:K'<=K)(e:N<=N'):GI n K' N' g:=
 ⟨h.len,h.n1,fun i s hs=>let ⟨a,b,c,d⟩:=h.eT i s hs;⟨a,b.base a j,c.mono e,d⟩,fun m f=>(h.eI m f).mono e,h.nl,fm h.told (by omega),fm h.nn e⟩
def Br{l:Tah}{n:Int}(h:n<=5000)(a:l.length<=2000000):(dV l n).length<=2000000:=by unfold dV;rw[ah,List.length_replicate];omega
structure Nt(g g':GS):Prop where
 eT:g'.eT=g.eT
 saved:g'.saved=g.saved
 eI:g'.eI=g.eI
 told:g'.told=g.told
 fv:g'.fv=g.fv
 fl:g'.fl=g.fl
def Rm(h:wZ g)(i:Nat):Nt g (lz i g)/\wZ (lz i g):=by
 unfold lz;dsimp only;split
 .exact⟨⟨rfl,rfl,rfl,rfl,rfl,rfl⟩,⟨h.n5,h.cu,h.aT,h.saved,h.lead,h.vl⟩⟩
 rename_i e;have d:(bS g i).term<=5000:=by omega
 have a:wZ (pw i (bS g i) {g with cu:=g.cu.set i (.int i64 (bS g i).term)}):=by
  refine⟨h.n5,by show(g.cu.set i _).length=_;rw[aK];exact h.cu,by show(g.aT.set i _).length=_;rw[aK];exact h.aT,h.saved,h.lead,?_⟩;intro l b;rcases eY (show l∈g.aT.set i _ from b) with b|b
  .exact h.vl l b
  rw[b,aK];refine Br d ?_;by_cases c:i<g.aT.length
  .show(g.aT.getD i []).length<=_;rw[ag,aR c];exact h.vl _ (aF c)
  show(g.aT.getD i []).length<=_;rw[ag,cM (by omega)];exact aB _
 split
 .refine⟨⟨rfl,rfl,rfl,rfl,rfl,rfl⟩,⟨a.n5,a.cu,a.aT,a.saved,?_,a.vl⟩⟩;show((dV g.br (bS g i).term).set _ _).length<=_;rw[aK];exact Br d h.lead
 exact⟨⟨rfl,rfl,rfl,rfl,rfl,rfl⟩,a⟩
def CD{B:Int}:∀(cs:Tah) (g:GS),(∀x∈cs,(cD 0 x).J<=B)->(g.told.length:Int)<=B+1->((fH cs g).told.length:Int)<=B+1
 |[],g,_,h=>h
 |x::r,g,hc,h=>by refine CD r (qS x g) (fun y a=>hc y (ao _ a)) ?_;have:=hc x aZ;show(((jA g.told (cD 0 x).J).set _ x).length:Int)<=B+1;rw[aK];unfold jA;rw[ah,List.length_replicate];omega
def Fy:∀(cs:Tah) (g:GS),(fH cs g).eI=g.eI/\(fH cs g).saved=g.saved/\(fH cs g).fv=g.fv/\(fH cs g).fl=g.fl
 |[],g=>⟨rfl,rfl,rfl,rfl⟩
 |x::r,g=>Fy r (qS x g)
def QL(hs:Inv s N t)(h:g.saved[i]?=some (u9 s))(f:i<g.eT.length):(nD i (bk t).1 (ic i (bk t).2 g)).saved=g.saved.set i (u9 t):=by
 have b:bS (ic i (bk t).2 g) i=(bk t).2:=by show(g.eT.set i _).getD i dK=_;rw[ag,bF,if_pos rfl,if_pos f];rfl
 unfold nD;dsimp only;rw[b];show g.saved.set i _=_;congr 1
 have e:(ic i (bk t).2 g).saved.getD i .top=u9 s:=by show g.saved.getD i .top=_;rw[ag,h];rfl
 rw[e];have a:cD 4 (bk t).1=t.il:=rfl;rcases hs.lg with⟨l1,l2,l3,l4,l5,l6,l7⟩|⟨l1,l2,l3,l4⟩
 .have d:xh ((bk t).2.li+(bk t).2.le.length) (u9 s) (bk t).1=s.le:=by unfold xh;rw[a,l1];rfl
  have en:Au (u9 s) (bk t).1=[.int i64 s.li,.int i64 s.lt,.list s.sv,.list s.sl,.list s.iI]:=by unfold Au;rw[a,l1];rfl
  unfold D5;rw[d,en];have j:(if(cD 3 (bk t).1).V=[] then s.le else mh s.le (cD 0 ((cD 3 (bk t).1).V.getD 0 .top)).J++(cD 3 (bk t).1).V)=t.le:=l7;rw[j,<-l2,<-l3,<-l4,<-l5,<-l6];rfl
 have en:Au (u9 s) (bk t).1=[.int i64 t.li,.int i64 t.lt,.list t.sv,.list t.sl,.list t.iI]:=by unfold Au;rw[a,l1];rfl
 have d:xh ((bk t).2.li+(bk t).2.le.length) (u9 s) (bk t).1=t.le:=by
  unfold xh;rw[a,l1];show ov s.le t.li (decide (t.li+(t.le.length:Int)>t.li))=t.le;unfold ov;by_cases c:t.le=[]
  .rw[c];simp
  have k:0<t.le.length:=eX.2 c;rw[decide_eq_true (by omega:t.li+(t.le.length:Int)>t.li)];have:=l4.resolve_left c;unfold An at this;simp only[Bool.and_true];exact this
 unfold D5;rw[d,en,if_pos (show(cD 3 (bk t).1).V=[] from l2)];rfl
def GI.Ky{o:D}{s':RS}{L:Nat}(h:GI n K N g)(hi:i<n)(hN:N<=100000000)(hL:K=L+28)(hg:Good (G K) K L (N+1) (bS g i) (o,s')):Ss i o (ic i s' g)=true/\GI n L (N+1) (kz i o false (ic i s' g)):=by
 obtain⟨t,q,O,he⟩:=hg;obtain⟨ei,ek,eb,F⟩:=h.get hi;injection he with U T;subst U T;have d:i<g.eT.length:=by rw[h.n1];exact hi
 have R:bS (ic i (bk t).2 g) i=(bk t).2:=by show(g.eT.set i _).getD i dK=_;rw[ag,bF,if_pos rfl,if_pos d];rfl
 have kd:=O.done;have id:=Lt t;have b:(ic i (bk t).2 g).eT.length=g.eT.length:=aK;have k:wZ (ic i (bk t).2 g):=⟨by rw[b];exact h.len.n5,by rw[b];exact h.len.cu,by rw[b];exact h.len.aT,by rw[b];exact h.len.saved,h.len.lead,h.len.vl⟩;have c:t.msgs.length<=28:=by have:=O.nm;omega
 have z:∀x∈t.aW,0<=(cD 0 x).J/\(cD 0 x).J<=N+1:=q.L4;constructor
 .unfold Ss;simp only[aP,bg,bU];refine⟨⟨⟨⟨⟨⟨Xr k,by rw[b];exact d⟩,by rw[R];exact ON (kd.ok id (aB _) (by omega))⟩,?_⟩,?_⟩,?_⟩,?_⟩
  .show(cD 7 (g.saved.getD i .top)).V.length+t.dB.length<=_;rw[ag,F];show(bS g i).le.length+t.dB.length<=_;have:=ek.tM;have:=O.ne;omega
  .show t.msgs.length<=_;omega
  .intro x P;have:=z x P;omega
  show g.told.length<=_;have:=h.told;omega
 unfold kz
 have p:(if(cD 0 (bk t).1).Z then nD i (bk t).1 (ic i (bk t).2 g) else ic i (bk t).2 g).saved=g.saved.set i (u9 t):=by
  show(if t.save=true then _ else _:GS).saved=_;by_cases Q:t.save=true
  .rw[if_pos Q];exact QL q F d
  rw[if_neg Q];obtain⟨J,Z,Y,X⟩:=q.ns (by simpa using Q);obtain⟨l2,l3,l4,l5,l6,I⟩:=q.left Z;rw[J]at I;have I:(bS g i).le=t.le:=I;show g.saved=_;have:u9 t=u9 (bS g i):=by unfold u9;rw[Y,X,l2,l3,l4,l5,l6,I]
  rw[this];refine eH fun j=>?_;rw[bF];by_cases v:i=j
  .subst v;rw[if_pos rfl,if_pos (aD.1 F).1,F]
  rw[if_neg v]
 generalize y:(if(cD 0 (bk t).1).Z then nD i (bk t).1 (ic i (bk t).2 g) else ic i (bk t).2 g)=g1 at p
 have V:Mj (ic i (bk t).2 g) g1:=by
  rw[<-y];split
  .exact Gi _ _ _
  exact⟨rfl,rfl,rfl,rfl,rfl⟩
 have S:g1.eI=g.eI/\g1.told=g.told/\g1.fv=g.fv/\g1.fl=g.fl:=by rw[<-y];split<;>exact⟨rfl,rfl,rfl,rfl⟩
 have f:(∀m∈(qh (bk t).1 false g1).eI,mj (N+1) m)/\(qh (bk t).1 false g1).eI.length<=430/\(qh (bk t).1 false g1).told=g.told/\(qh (bk t).1 false g1).saved=g.saved.set i (u9 t)/\(qh (bk t).1 false g1).fv=g.fv/\(qh (bk t).1 false g1).fl=g.fl:=by
  obtain⟨H,b2,b3,b4⟩:=S;unfold qh;split
  .rename_i hc;rw[H]at hc;refine⟨?_,?_,b2,p,b3,b4⟩
   .intro m c;rcases aQ.1 (show m∈g1.eI++t.msgs from c) with c|c
    .rw[H]at c;exact(h.eI m c).mono (by omega)
    exact q.msg m c
   show(g1.eI++t.msgs).length<=430;rw[ah,H];omega
  exact⟨by rw[H];exact fun m c=>(h.eI m c).mono (by omega),by rw[H];exact h.nl,b2,p,b3,b4⟩
 have A:=V.trans (Sj (bk t).1 false g1);generalize qh (bk t).1 false g1=E at f A;obtain⟨c1,c2,c3,c4,c5,c6⟩:=f;have r:=CD (B:=N+1) t.aW E (fun x P=>(z x P).2) (by rw[c3];have:=h.told;omega);obtain⟨W,d2,d3,d4⟩:=Fy t.aW E;have e:=A.trans (tJ t.aW E);show GI n L (N+1) (lz i (fH t.aW E));generalize fH t.aW E=g3 at r W d2 d3 d4 e;obtain⟨l,u⟩:=Rm (e.Wr k) i;generalize lz i g3=g4 at l u;refine⟨u,?_,?_,?_,?_,?_,by have:=h.nn;omega⟩
 .rw[l.eT,e.eT,b];exact h.n1
 .intro j s v;rw[l.eT,e.eT]at v;rw[l.saved,d2,c4];have a:(g.eT.set i (bk t).2)[j]?=some s:=v;rw[bF]at a⊢;by_cases w:i=j
  .subst w;rw[if_pos rfl,if_pos d]at a;injection a with a;subst a;rw[if_pos rfl,if_pos (aD.1 F).1];exact⟨id,kd.base id (aM _),q.after,rfl⟩
  rw[if_neg w]at a⊢;obtain⟨J,Z,Y,X⟩:=h.eT j s a;exact⟨J,Z.base J (by omega),Y.mono (by omega),X⟩
 .rw[l.eI,W];exact c1
 .rw[l.eI,W];exact c2
 rw[l.told];exact r
def GI.tick{L:Nat}(h:GI n (L+28) N g)(a:i<n)(e:N<=100000000)(c:Int):Ok (bS g i) 20/\Ss i (gX c (bS g i)).1 (ic i (gX c (bS g i)).2 g)=true/\GI n L (N+1) (jQ i c g):=by obtain⟨d,b,k,l⟩:=h.get a;obtain⟨j,f⟩:=h.Ky a e rfl (o:=(gX c (bS g i)).1) (s':=(gX c (bS g i)).2) ((Lv k d (K:=L) (b.le (by omega))).mono (aJ _) (aM _));exact⟨b.ok d (by omega) (by omega),j,f⟩
def vu(i:Nat)(x:D)(g:GS):GS:=kz i (bD x (bS g i)).1.2.2 false (ic i (bD x (bS g i)).2 g)
def GI.prop{L:Nat}(h:GI n (L+28) N g)(a:i<n)(d:N<=100000000)(x:D):Ok (bS g i) 28/\Ss i (bD x (bS g i)).1.2.2 (ic i (bD x (bS g i)).2 g)=true/\GI n L (N+1) (vu i x g):=by obtain⟨c,b,j,k⟩:=h.get a;obtain⟨f,e⟩:=h.Ky a d rfl (o:=(bD x (bS g i)).1.2.2) (s':=(bD x (bS g i)).2) ((Lx j c (K:=L) (b.le (by omega))).mono (aJ _) (aM _));exact⟨b.ok c (by omega) (by omega),f,e⟩
def GI.del{L:Nat}{m:D}(h:GI n (L+28) N g)(j:N<=100000000)(b:mj N m)(f:Has iC m):Ck m g=true/\GI n L (N+1) (pe m g):=by
 unfold Ck pe;by_cases a:Kk m g=true
 .have c:wN m<n:=by unfold Kk at a;simp only[aP,bg]at a;unfold wN;rw[<-h.n1];omega
  obtain⟨e,d,p,r⟩:=h.get c;obtain⟨l,k⟩:=h.Ky c j rfl (o:=(iX m (bS g (wN m))).1) (s':=(iX m (bS g (wN m))).2) (Lw p e (K:=L) d b f);have q:=b.n8;rw[a,if_pos rfl,l];simp only[Bool.not_true,Bool.false_or,Bool.and_true,aP,bg];exact⟨⟨⟨⟨by rw[h.len.aT];exact h.len.n5,h.len.n5⟩,ON (d.ok e (by omega) (by omega))⟩,by omega⟩,k⟩
 rw[Bool.not_eq_true]at a;rw[a];exact⟨rfl,h.le (by omega) (by omega)⟩
def GI.all{n L:Nat}:∀{l:Tah} {N:Int} {g:GS},GI n (L+28*l.length) N g->N+l.length<=100000000->(∀m∈l,mj N m/\Has iC m)->rv l g=true/\GI n L (N+l.length) (l.foldl (fun g m=>pe m g) g)
 |[],N,g,h,_,_=>⟨rfl,h.le (by simp) (by simp)⟩
 |m::r,N,g,h,hN,hm=>by simp only[bu]at h hN⊢;obtain⟨c,b⟩:=hm m aZ;obtain⟨j,f⟩:=GI.del (L:=L+28*r.length) (h.le (by omega) (aJ _)) (by omega) c b;obtain⟨e,d⟩:=GI.all f (by omega) (fun x a=>⟨(hm x (ao _ a)).1.mono (by omega),(hm x (ao _ a)).2⟩);refine⟨by unfold rv;rw[j,e];rfl,?_⟩;rw[show N+((r.length+1:Nat):Int)=N+1+r.length by omega];exact d
def GI.I0(h:GI n K N g)(a:∀m∈g.eI,Has iC m)(k:12040<=K)(j:N<=99990000):rv g.eI {g with eI:=[]}=true/\GI n (K-12040) (N+430) (BS g):=by have c:=h.nl;have f:GI n (K-12040+28*g.eI.length) N {g with eI:=[]}:=(⟨⟨h.len.n5,h.len.cu,h.len.aT,h.len.saved,h.len.lead,h.len.vl⟩,h.n1,h.eT,fun m a=>(by cases a),aB _,h.told,h.nn⟩:GI n K N {g with eI:=[]}).le (by omega) (aJ _);obtain⟨e,d⟩:=GI.all f (by omega) (fun m b=>⟨h.eI m b,a m b⟩);exact⟨e,d.le (aM _) (by omega)⟩
variable{E:Tah}{ks:Tai}{n i K:Nat}{N:Int}{s t u:RS}{g:GS}
structure GA where
 ks:Tai
 a:SA
 P:PA
 f2:SA
 f3:SA
 f4:SA
 f5:SA
 eI:List AM
def GA.fo(A:GA):Nat->SA
 |2=>A.f2
 |3=>A.f3
 |4=>A.f4
 |_=>A.f5
def GA.pH(A:GA)(x:Nat)(b:SA):GA:=match x with
 |2=>{A with f2:=b}
 |3=>{A with f3:=b}
 |4=>{A with f4:=b}
 |_=>{A with f5:=b}
structure ra(E:Tah)(A:GA)(g:GS):Prop extends GB E g where
 sl:SL E A.ks A.a A.P (bS g 0)
 fo:∀x:Nat,2<=x->x<=5->SR E A.ks (x:Int) 0 (A.fo x) (bS g (x-1))
 eI:zh E A.eI g.eI
def MR.mono{E':Tah}{a:AM}{m:D}(h:MR E a m):MR (E++E') a m:=by
 cases a with
 |app to p k c=>
  obtain⟨r,q,o,l,j,f,e,d,b,v⟩:=h;refine⟨r,q,o,l,j,f,e,d,?_,by rw[ah];omega⟩;rw[b,List.drop_append_of_le_length (by omega),List.take_append_of_le_length (by rw[bh];omega)]
 |Ja fr i re=>exact h
def zh.mono{E':Tah}:∀{l:List AM} {r:Tah},zh E l r->zh (E++E') l r
 |[],[],h=>trivial
 |_::_,_::_,h=>⟨h.1.mono,h.2.mono⟩
 |[],_::_,h=>h.elim
 |_::_,[],h=>h.elim
def SR.mono{E':Tah}{ks':Tai}{i r:Int}{a:SA}(h:SR E ks i r a s)(b:EL (E++E') (ks++ks'))(c:(E++E').length<=1000):SR (E++E') (ks++ks') i r a s:=
 ⟨⟨b,c,by rw[ah];have:=h.n1;omega,h.li,h.lt,by rw[h.le,List.take_append_of_le_length h.n1],h.fv,h.fl⟩,h.id,h.role,h.term,h.vote,h.mI,h.cn,h.wait,h.end_,h.rd,h.I1⟩
def FB{l:Tah}{a b:Nat}:∀x∈(l.take a).drop b,x∈l:=fun x c=>cV (dx c)
def ra.fol{A:GA}{x:Nat}{a':SA}{ams:List AM}{c0:Nat}{y:D×RS}(h:ra E A g)(R:2<=x)(Q:x<=5)(J:L6 E A.ks (x:Int) 0 a' ams c0 y)(L:A.eI.length<400)(w:(A.fo x).t<=a'.t)(S:0<=a'.t)(T:a'.t<=1)(r:(a'.t=(A.fo x).t/\a'.v=(A.fo x).v)\/(A.fo x).v=0):
  ra E {A.pH x a' with eI:=A.eI++ams} (kz (x-1) y.1 false (ic (x-1) y.2 g)):=by
 obtain⟨u,rfl,b,C,F⟩:=J;have j:=h.fo x R Q
 have O:=h.toGB.Ky (i:=x-1) (u:=u) b.el (by omega) (by rw[h.eI.len];exact L) (by rw[F];exact FB) (by rw[b.term];exact S) (by rw[j.term,b.term];exact w) (by rw[b.term];omega)
  (by rw[j.term,j.vote,b.term,b.vote];exact r) (fun B=>by rw[b.role]at B;cases B)
 obtain⟨p,o,k,m⟩:=O;dsimp only;generalize kz (x-1) (bk u).1 false (ic (x-1) (bk u).2 g)=U at p o k m
 have M:(A.pH x a').ks=A.ks/\(A.pH x a').a=A.a/\(A.pH x a').P=A.P/\∀z,2<=z->z<=5->(A.pH x a').fo z=if z=x then a' else A.fo z:=by
  have l:∀z,2<=z->z<=5->(A.pH x a').fo z=if z=x then a' else A.fo z:=by
   intro z d c;have H:x=2\/x=3\/x=4\/x=5:=by omega
   have G:z=2\/z=3\/z=4\/z=5:=by omega
   clear j p o k m b w r C F h;rcases H with rfl|rfl|rfl|rfl<;>rcases G with rfl|rfl|rfl|rfl<;>rfl
  have e:(A.pH x a').ks=A.ks/\(A.pH x a').a=A.a/\(A.pH x a').P=A.P:=by unfold GA.pH;split<;>exact⟨rfl,rfl,rfl⟩
  exact⟨e.1,e.2.1,e.2.2,l⟩
 obtain⟨q,I,e,k4⟩:=M;refine⟨p,?_,fun z d c=>?_,?_⟩
 .show SL E (A.pH x a').ks (A.pH x a').a (A.pH x a').P _;rw[q,I,e,k 0 (by omega)];exact h.sl
 .show SR E (A.pH x a').ks (z:Int) 0 ((A.pH x a').fo z) _;rw[q,k4 z d c];by_cases f:z=x
  .subst f;rw[if_pos rfl,o];exact b.same
  rw[if_neg f,k (z-1) (by omega)];exact h.fo z d c
 rw[m];exact h.eI.append C
def ra.ldr{A:GA}{E':Tah}{ks':Tai}{a':SA}{P':PA}{ams:List AM}{c0:Nat}{y:D×RS}(h:ra E A g)(p:Fb (E++E') (A.ks++ks') a' P' ams c0 y)(q:A.eI.length<400)(o:a'.v=A.a.v):
  ra (E++E') {A with ks:=A.ks++ks',a:=a',P:=P',eI:=A.eI++ams} (kz 0 y.1 false (ic 0 y.2 g)):=by
 obtain⟨u,rfl,c,r,x⟩:=p;have d:=h.sl
 have w:=(h.toGB.mono (E':=E')).Ky (i:=0) (u:=u) c.el (by omega) (by rw[h.eI.len];exact q) (by rw[x];exact FB) (by rw[c.term,c.t1];decide) (by rw[d.term,d.t1,c.term,c.t1];exact aJ _) (by rw[c.term,c.t1];decide)
  (.inl ⟨by rw[d.term,d.t1,c.term,c.t1],by rw[d.vote,c.vote];exact o⟩) (fun _=>⟨rfl,by rw[c.term,c.t1]⟩)
 obtain⟨m,l,k,j⟩:=w;dsimp only;generalize kz 0 (bk u).1 false (ic 0 (bk u).2 g)=B at m l k j;refine⟨m,?_,fun z f e=>?_,?_⟩
 .rw[l];exact c.same
 .rw[k (z-1) (by omega)];exact(h.fo z f e).mono c.el c.b
 rw[j];exact h.eI.mono.append r
def wOk(a:SA):Bool:=decide (0<=a.w)&&decide (a.w<=1000)
def xk(A:GA):GA:={A with a:=yg A.a,eI:=A.eI++uF A.ks A.a A.P}
def Ea(A:GA):Bool:=(Dp (ck A.ks)).all (yQ A.P A.a.n)&&wOk A.a&&decide (A.eI.length<400)
def ra.abe{A:GA}{x:Int}(h:ra E A g)(k:Idle (bS g 0))(b:Ea A=true):ra E (xk A) (jQ 0 x g):=by simp only[Ea,wOk,aP,bg]at b;obtain⟨⟨f,e,d⟩,k4⟩:=b;have j:=h.sl.tick (x:=x) k f e d;have:=h.ldr (E':=[]) (ks':=[]) (a':=yg A.a) (P':=A.P) (ams:=uF A.ks A.a A.P) (c0:=A.a.c) (y:=gX x (bS g 0)) (by rw[aX,aX];exact j) k4 (by unfold yg;split<;>rfl);rw[aX,aX]at this;exact this
def Qy(x:Nat)(a:SA):Int:=if a.e=0 then 10+(3*((x:Int)-1)).tmod 10 else a.e
def SF(x:Nat)(a:SA):SA:=if a.w+1<Qy x a then{a with w:=a.w+1,e:=Qy x a} else{a with w:=0,e:=0}
def mD(x:Nat)(A:GA):GA:=A.pH x (SF x (A.fo x))
def td(x:Nat)(A:GA):Bool:=wOk (A.fo x)&&(decide ((A.fo x).w+1<Qy x (A.fo x))|| !jo (nZ (ck (A.ks.take (A.fo x).n))) (x:Int))&&decide (A.eI.length<400)&&decide (0<=(A.fo x).t)&&decide ((A.fo x).t<=1)
def Yv(x:Nat)(a:SA):(SF x a).t=a.t/\(SF x a).v=a.v:=by unfold SF;split<;>exact⟨rfl,rfl⟩
def ra.Jd{A:GA}{x:Nat}(h:ra E A g)(f:2<=x)(d:x<=5)(m:Idle (bS g (x-1)))(l:td x A=true):ra E (mD x A) (jQ (x-1) (3*((x:Int)-1)) g):=by
 simp only[td,wOk,aP,bI,bg,cI]at l;obtain⟨⟨⟨⟨⟨k,j⟩,r⟩,k4⟩,q⟩,p⟩:=l
 have v:L6 E A.ks (x:Int) 0 (SF x (A.fo x)) [] (A.fo x).c (gX (3*((x:Int)-1)) (bS g (x-1))):=by
  unfold SF;by_cases a:(A.fo x).w+1<Qy x (A.fo x)
  .rw[if_pos a];exact(h.fo x f d).tick (x:=3*((x:Int)-1)) m (by omega) (by omega) k a j
  rw[if_neg a];exact(h.fo x f d).abd (x:=3*((x:Int)-1)) m (by omega) (by omega) k a j (r.resolve_left a)
 obtain⟨b,o⟩:=Yv x (A.fo x);have:=h.fol f d v k4 (by rw[b];exact aJ _) (by rw[b];exact q) (by rw[b];exact p) (.inl ⟨b,o⟩);rw[aX]at this;unfold mD
 have e:({A.pH x (SF x (A.fo x)) with eI:=A.eI}:GA)=A.pH x (SF x (A.fo x)):=by unfold GA.pH;split<;>rfl
 rw[<-e];exact this
def QA(A:GA):AM->GA
 |.app to p k c=>{A.pH to (BY to p k c (A.fo to)).1 with eI:=A.eI++[(BY to p k c (A.fo to)).2]}
 |.Ja fr i re=>{A with a:=(yX A.ks A.a A.P fr i re).a,P:=(yX A.ks A.a A.P fr i re).P,eI:=A.eI++(yX A.ks A.a A.P fr i re).ms}
def DK(A:GA):AM->Bool
 |.app to p k c=>decide (2<=to)&&decide (to<=5)&&decide (c<=1000)&&decide (0<=(A.fo to).t)&&decide ((A.fo to).t<=1)&&(decide ((A.fo to).t=1)||decide ((A.fo to).v=0))&&decide (A.eI.length<400)
 |.Ja fr i re=>decide (2<=fr)&&decide (fr<=5)&&MW A.ks A.a A.P fr i re&&decide (A.eI.length<400)
def Sn(i p k c:Nat)(a:SA):(BY i p k c a).1.t=1/\(BY i p k c a).1.v=if a.t<1 then 0 else a.v:=by
 unfold BY;dsimp only;split
 .exact⟨rfl,rfl⟩
 split<;>exact⟨rfl,rfl⟩
def Yw(ks:Tai)(a:SA)(P:PA)(x i:Nat)(re:Bool):(yX ks a P x i re).a.v=a.v:=by
 unfold yX;split
 .split<;>rfl
 rfl
def ra.del{A:GA}{m:AM}{y:D}(h:ra E A g)(B:∀j,j<5->Idle (bS g j))(o:MR E m y)(r:DK A m=true):ra E (QA A m) (pe y g):=by
 cases m with
 |app to p k c=>
  simp only[DK,aP,bI,bg]at r;obtain⟨⟨⟨⟨⟨⟨e,d⟩,v⟩,k4⟩,z⟩,G⟩,F⟩:=r;have f:(cD 2 y).J=(to:Int):=by rw[o.YR];rfl
  have b:Kk y g=true:=by unfold Kk;rw[f,h.n5];simp only[aP,bg];omega
  have w:wN y=to-1:=by unfold wN;rw[f];omega
  unfold pe;rw[if_pos b,w];have x:=(h.fo to e d).app (B (to-1) (by omega)) ⟨e,d⟩ z o v;obtain⟨l,C⟩:=Sn to p k c (A.fo to);refine h.fol e d x F (by rw[l];exact z) (by rw[l];decide) (by rw[l];decide) ?_;rw[l,C];rcases G with q|q
  .left;exact⟨q.symm,by rw[if_neg (by omega)]⟩
  exact .inr q
 |Ja fr i re=>
  simp only[DK,aP,bg]at r;obtain⟨⟨⟨e,d⟩,v⟩,k4⟩:=r;have f:(cD 2 y).J=1:=by rw[o.YR];rfl
  have b:Kk y g=true:=by unfold Kk;rw[f,h.n5];decide
  have w:wN y=0:=by unfold wN;rw[f];rfl
  unfold pe;rw[if_pos b,w];have x:=h.sl.Ja (B 0 (by omega)) ⟨e,d⟩ o v;have:=h.ldr (E':=[]) (ks':=[]) (a':=(yX A.ks A.a A.P fr i re).a) (P':=(yX A.ks A.a A.P fr i re).P) (ams:=(yX A.ks A.a A.P fr i re).ms) (c0:=A.a.c) (y:=iX y (bS g 0)) (by rw[aX,aX];exact x) k4 (Yw _ _ _ _ _ _);rw[aX,aX]at this;exact this
def Og:List AM->GA->GA
 |[],A=>A
 |m::l,A=>Og l (QA A m)
def zr:List AM->GA->Bool
 |[],_=>true
 |m::l,A=>DK A m&&zr l (QA A m)
def BZ(A:GA):GA:=Og A.eI {A with eI:=[]}
def uA(A:GA):Bool:=zr A.eI {A with eI:=[]}
def ra.aba:∀{l:List AM} {r:Tah} {A:GA} {K:Nat} {N:Int} {g:GS},ra E A g->GI 5 (K+28*r.length) N g->N+r.length<=100000000->(∀m∈r,mj N m/\Has iC m)->zh E l r->zr l A=true->ra E (Og l A) (r.foldl (fun g m=>pe m g) g)
 |[],[],A,K,N,g,h,_,_,_,_,_=>h
 |m::l,y::r,A,K,N,g,h,hg,hN,hm,hr,hk=>by simp only[zr,aP]at hk;simp only[bu]at hg hN;obtain⟨c,b⟩:=hm y aZ;obtain⟨k,f⟩:=GI.del (L:=K+28*r.length) (hg.le (by omega) (aJ _)) (by omega) c b;have e:=h.del (fun j d=>(hg.get d).1) hr.1 hk.1;exact ra.aba (l:=l) (r:=r) (A:=QA A m) (K:=K) e f (by omega) (fun x a=>⟨(hm x (ao _ a)).1.mono (by omega),(hm x (ao _ a)).2⟩) hr.2 hk.2
 |[],_::_,_,_,_,_,_,_,_,_,h,_=>h.elim
 |_::_,[],_,_,_,_,_,_,_,_,h,_=>h.elim
def ra.I0{A:GA}(h:ra E A g)(a:GI 5 K N g)(b:∀m∈g.eI,Has iC m)(l:12040<=K)(k:N<=99990000)(e:uA A=true):ra E (BZ A) (BS g):=by have d:=a.nl;have j:GI 5 (K-12040+28*g.eI.length) N {g with eI:=[]}:=(⟨⟨a.len.n5,a.len.cu,a.len.aT,a.len.saved,a.len.lead,a.len.vl⟩,a.n1,a.eT,fun m b=>(by cases b),aB _,a.told,a.nn⟩:GI 5 K N {g with eI:=[]}).le (by omega) (aJ _);have f:ra E {A with eI:=[]} {g with eI:=[]}:=⟨⟨h.n5,h.nv,h.nt,h.told,h.bad,h.tms,h.vts,h.YY⟩,h.sl,h.fo,trivial⟩;exact ra.aba f j (by omega) (fun m c=>⟨a.eI m c,b m c⟩) h.eI e
def kP(k:Nat)(A:GA):GA:=
 if tQ A.ks A.a k=0 then{A with ks:=(yW A.ks A.a A.P k).ks,a:=(yW A.ks A.a A.P k).a,eI:=A.eI++(yW A.ks A.a A.P k).ms} else A
def mN(k:Nat)(A:GA):Bool:=(decide (k=0)||decide (k=ck A.ks+1))&&decide (A.eI.length<400)&&(decide (tQ A.ks A.a k≠0)||MV A.ks A.a A.P k)
def Kh(ks:Tai)(a:SA)(k:Nat):tQ ks a k=0\/tQ ks a k=21:=by
 unfold tQ;split
 .exact .inl rfl
 split
 .exact .inl rfl
 exact .inr rfl
def ra.prop{A:GA}{k:Nat}{x:D}(h:ra E A g)(p:Idle (bS g 0))(m:Fe k x)(o:mN k A=true):
  (bD x (bS g 0)).1.2.1=tQ A.ks A.a k/\∃C,ra (E++C) (kP k A) (vu 0 x g):=by
 simp only[mN,aP,bI,bg]at o;obtain⟨⟨l,j⟩,w⟩:=o;rcases Kh A.ks A.a k with d|d
 .have f:kP k A={A with ks:=A.ks++[k],a:=(yW A.ks A.a A.P k).a,P:=A.P,eI:=A.eI++(yW A.ks A.a A.P k).ms}:=by unfold kP;rw[if_pos d];rfl
  obtain⟨e,b⟩:=h.sl.prop p m l d (w.resolve_left (fun q=>q d));have B:(yW A.ks A.a A.P k).ks=A.ks++[k]:=rfl;have r:(yW A.ks A.a A.P k).a.v=A.a.v:=rfl;rw[B]at b;rw[f,d];unfold vu;generalize (yW A.ks A.a A.P k).a=G at b r⊢;generalize (yW A.ks A.a A.P k).ms=F at b⊢;generalize bD x (bS g 0)=y at e b⊢;exact⟨e,[EZ E x],h.ldr (E':=[EZ E x]) (ks':=[k]) (y:=(y.1.2.2,y.2)) b j r⟩
 have f:kP k A=A:=by unfold kP;rw[if_neg (by rw[d];decide)]
 obtain⟨e,b⟩:=h.sl.busy p m l d;rw[f,d];unfold vu;generalize bD x (bS g 0)=y at e b⊢;refine⟨e,[],?_⟩;have:=h.ldr (E':=[]) (ks':=[]) (a':=A.a) (P':=A.P) (ams:=[]) (c0:=A.a.c) (y:=(y.1.2.2,y.2)) (by rw[aX,aX];exact b) j rfl;rw[aX,aX]at this;rw[aX];have z:({A with ks:=A.ks,a:=A.a,P:=A.P,eI:=A.eI++[]}:GA)=A:=by rw[aX]
 rw[<-z];exact this
variable{E:Tah}{ks:Tai}{n i K:Nat}{N:Int}{s t u:RS}{g:GS}
def rJ(A:GA):GA:=mD 5 (mD 4 (mD 3 (mD 2 (xk A))))
def D9(A:GA):Bool:=Ea A&&td 2 (xk A)&&td 3 (mD 2 (xk A))&&td 4 (mD 3 (mD 2 (xk A)))&&td 5 (mD 4 (mD 3 (mD 2 (xk A))))
def BX(A:GA):GA:=BZ (BZ (BZ (rJ A)))
def tS(A:GA):Bool:=D9 A&&uA (rJ A)&&uA (BZ (rJ A))&&uA (BZ (BZ (rJ A)))
def KD(A:GA)(x:Nat):Bool:=(A.fo x).c==A.a.n&&(Qn (ck (A.ks.take (A.fo x).n))).length==5
def yf(A:GA):Bool:=A.a.c==A.a.n&&(Qn (ck A.ks)).length==5&&KD A 2&&KD A 3&&KD A 4&&KD A 5
def tP(L:Nat):Nat->Nat->Nat->GA->Bool
 |0,_,_,_=>false
 |f+1,r,k,A=>
  let B:=if r<L then kP 0 A else A
  (!decide (r<L)||mN 0 A)&&
  if k<4 then
   let C:=kP (k+1) B
   mN (k+1) B&&tS C&&tP L f (r+1) (if tQ B.ks B.a (k+1)=0 then k+1 else k) (BX C)
  else if yf B&&decide (L<=r) then true
  else tS B&&tP L f (r+1) k (BX B)
def Mz:Nat->Nat->GA->Bool
 |0,_,_=>false
 |f+1,k,A=>
  if k<4 then
   let C:=kP (k+1) A
   mN (k+1) A&&tS C&&Mz f (if tQ A.ks A.a (k+1)=0 then k+1 else k) (BX C)
  else if yf A then true
  else tS A&&Mz f k (BX A)
def Cw:Nat->Nat->GA->Bool
 |0,_,A=>true
 |f+1,k,A=>
  Mz 20 k A&&mN 0 A&&
  if k<4 then
   let C:=kP (k+1) (kP 0 A)
   mN (k+1) (kP 0 A)&&tS C&&Cw f (if tQ (kP 0 A).ks (kP 0 A).a (k+1)=0 then k+1 else k) (BX C)
  else tS (kP 0 A)&&Cw f k (BX (kP 0 A))
def js{a b:Bool}(h:(a&&b)=true):a=true/\b=true:=by rwa [aP]at h
def tX{a b:Bool}(h:a=true)(k:b=true):(a&&b)=true:=by rw[h,k];rfl
def wu{L:Nat}:∀{f r k:Nat} {A:GA},L<=r->Mz f k A=true->tP L f r k A=true
 |0,_,_,_,_,h=>h
 |f+1,r,k,A,hL,h=>by
  unfold Mz at h;unfold tP;have d:¬r<L:=by omega
  rw[if_neg d,decide_eq_false d];refine tX rfl ?_;dsimp only at h⊢;by_cases e:k<4
  .rw[if_pos e]at h⊢;obtain⟨c,b⟩:=js h;exact tX c (wu (by omega) b)
  rw[if_neg e]at h⊢;by_cases a:yf A=true
  .rw[if_pos (tX a (decide_eq_true hL))]
  rw[if_neg a]at h;rw[if_neg (fun q=>a (js q).1)];obtain⟨c,b⟩:=js h;exact tX c (wu (by omega) b)
def tK{L:Nat}:∀{f d r k:Nat} {A:GA},f<=d->tP L f r k A=true->tP L d r k A=true
 |0,_,_,_,_,_,h=>by cases h
 |f+1,0,_,_,_,hf,_=>by omega
 |f+1,d+1,r,k,A,hf,h=>by
  unfold tP at h⊢;obtain⟨l,a⟩:=js h;refine tX l ?_;dsimp only at a⊢;by_cases e:k<4
  .rw[if_pos e]at a⊢;obtain⟨c,b⟩:=js a;exact tX c (tK (by omega) b)
  rw[if_neg e]at a⊢;by_cases j:(yf (if r<L then kP 0 A else A)&&decide (L<=r))=true
  .rw[if_pos j]
  rw[if_neg j]at a⊢;obtain⟨c,b⟩:=js a;exact tX c (tK (by omega) b)
def xK{L:Nat}:∀{f r k:Nat} {A:GA},r<=L->L<r+f->Cw f k A=true->tP L (f+20) r k A=true
 |0,r,k,A,h0,hL,h=>by omega
 |f+1,r,k,A,h0,hL,h=>by
  unfold Cw at h;obtain⟨d,a⟩:=js h;obtain⟨o,m⟩:=js d;by_cases j:r<L
  .rw[show f+1+20=(f+20)+1 by omega];unfold tP;rw[if_pos j,m];refine tX (by simp) ?_;dsimp only at a⊢;have l:decide (L<=r)=false:=decide_eq_false (by omega);by_cases e:k<4
   .rw[if_pos e]at a⊢;obtain⟨c,b⟩:=js a;exact tX c (xK (by omega) (by omega) b)
   rw[if_neg e]at a⊢;rw[l,Bool.and_false,if_neg (by decide)];obtain⟨c,b⟩:=js a;exact tX c (xK (by omega) (by omega) b)
  exact tK (by omega) (wu (by omega) o)
def A9:GA:=⟨[0],⟨1,0,1,1,0,0⟩,⟨0,1,0,1,0,1,0,1⟩,⟨1,0,1,1,0,0⟩,⟨1,0,1,1,0,0⟩,⟨0,0,0,0,10,19⟩,⟨0,0,0,0,10,12⟩,[.Ja 2 1 false,.Ja 3 1 false]⟩
def U7:Cw 92 0 A9=true:=by decide+kernel
def afW{L:Nat}(h:L<=100):tP L 112 9 0 A9=true:=by
 by_cases b:9<=L
 .exact xK (f:=92) b (by omega) U7
 have a:=U7;unfold Cw at a;exact tK (by omega) (wu (by omega) (js (js a).1).1)
end Go.Proofs.Ytjhmkaninmgilaa
